/- Drawn regions with operations that may panic. No conditions: definitions and lemmas only. -/
import Derived.Lib.Builder
import Derived.Lib.UnsafeStr
import Derived.Test.YthjcphjabiajbaaGreatDoorProg
import Derived.KernelRfl
import Derived.Test.YthjcphjabiajbaaGreatDoorB2
namespace Go.AM
open Go.RowKit (Below)
section
variable {P:Program} {n:Nat} {K:Post} {E:EPost} {T:Tmps} {st:St}
theorem wp_putA {o:Oper} {a:Act} {w:World} {K1 K2:Act→World→Prop} {Q1 Q2:Exit→Act→World→Prop} (h:o.wp P a w K1 Q1)
  (hk:∀ a' w',a'.defers=a.defers→K1 a' w'→(∃ rv,a'=a.put o.dst rv)→K2 a' w') (hd:∀ a' w',K1 a' w'→a'.defers=a.defers) (hq:∀ e w,Q1 (.panic e) a w→Q2 (.panic e) a w) (ho:∀ a w,Q1 .outgrown a w→Q2 .outgrown a w):o.wp P a w K2 Q2:=by
 unfold Oper.wp at h ⊢;generalize (execOp a.eval o).run P w=r at h;cases r with
 | ok x w' =>
  cases x <;> simp only [Oper.upon] at h ⊢
  case value v=>exact hk _ _ (Act.defers_put _ _ _) h ⟨v,rfl⟩
  case skip=>exact hk _ _ (Act.defers_put _ _ _) h ⟨undef,rfl⟩
  case defer d =>
   have:=hd _ _ h;rw [Act.defers_put] at this;simp at this
  case enter f args =>
   refine h.mono fun e w'' he=>?_;cases e with
   | returned v=>exact hk _ _ (Act.defers_put _ _ _) he ⟨v,rfl⟩
   | panicked ch=>exact hq _ _ he
   | outgrown=>obtain ⟨a,w,h2⟩:=he; exact ⟨a,w,ho _ _ h2⟩
  case row=>exact h.mono fun v w'' hv=>hk _ _ (Act.defers_put _ _ _) hv ⟨v,rfl⟩
 | halt x w'=>cases x <;> simp only [Oper.upon] at h ⊢ <;> exact hq _ _ h
def keepsT (l:List Oper) (k k':Nat) (T0:Tmps):Bool:=((l.drop k).take (k' - k)).all fun o=>match o.dst with|some d=>T0.all fun p=>!(Nat.beq p.1 d)|none=>true
theorem keepsT_spec {l:List Oper} {k k':Nat} {T0:Tmps} (h:keepsT l k k' T0=true) {t:Nat} {v:AV} (ht:Tmps.get T0 t=some v) {i:Nat} (hi:i < k' - k):(l[k + i]?).bind (·.dst)≠some t:=by
 intro e;cases ho:l[k + i]? with
 | none=>rw [ho] at e; cases e
 | some o =>
  rw [ho] at e;have hm:o ∈ (l.drop k).take (k' - k):=List.mem_of_getElem? (i:=i) (by rw [List.getElem?_take_of_lt hi,List.getElem?_drop]; exact ho)
  have h1:=List.all_eq_true.1 h o hm
  have e':o.dst=some t:=e;rw [e'] at h1;simp only at h1;have h2:∃ p ∈ T0,p.1=t:=by
   clear h h1 e e' hm ho
   induction T0 with
   | nil=>cases ht
   | cons p r ih =>
    rw [Tmps.get_cons] at ht;split at ht
    ·rename_i hp; exact ⟨p,List.mem_cons_self ..,hp⟩
    ·obtain ⟨q,q1,q2⟩:=ih ht; exact ⟨q,List.mem_cons_of_mem _ q1,q2⟩
  obtain ⟨p,hp,rfl⟩:=h2;have h3:=List.all_eq_true.1 h1 p hp;rw [nbeq_self] at h3;cases h3
def StepP (P:Program) (n:Nat) (X:AV→St→Prop) (I:List (Option AV)→St→Prop) (S Es:List Nat) (i:Nat) (ops:Array Oper) (T:Tmps) (vals:Nat→AV) (o:Oper) (Q:AV→Prop):Prop :=
 (wantedA ops T o=some true∧∀ vs:List (Option AV),vs.length=Es.length→mayBe S Es i (vs.map Option.isSome)=true→LinkV Es i vals vs →
  ∀ st g w a (K':Act→World→Prop) (Q':Exit→Act→World→Prop),I vs st→Sim g w st→Known g w T a→a.tmps.size=n →
   (∀ rv g' w' v st1,Ext g w g' w'→Sim g' w' st1→R g' w' v rv→Q v→I (setV Es i v vs) st1→K' (a.put o.dst rv) w') →
   (∀ pv rv g' w' st1,Ext g w g' w'→Sim g' w' st1→R g' w' pv rv→X pv st1→Q' (.panic [{ v:=rv,recovered:=false }]) a w')→o.wp P a w K' Q')∨(wantedA ops T o=some false∧Q (.lit undef)∧Es.contains i=false)
def DRunP (P:Program) (n:Nat) (X:AV→St→Prop) (I:List (Option AV)→St→Prop) (S Es:List Nat) (ops:Array Oper):Nat→List Oper→List (AV→Prop)→Tmps→(Nat→AV)→(Tmps→St→Prop)→Prop
 | _,[],[],T,vals,k=>∀ st,I (Es.map fun e=>some (vals e)) st→k T st
 | i,o::r,Q::Qs,T,vals,k=>(∃ u,Q u)∧dstOk o.dst n=true∧StepP P n X I S Es i ops (see ops o T) vals o Q∧∀ u,Q u→DRunP P n X I S Es ops (i + 1) r Qs (T.put o.dst u) (fun j=>bif Nat.beq j i then u else vals j) k
 | _,_,_,_,_,_=>False
theorem DRunP.out {X:AV→St→Prop} {I:List (Option AV)→St→Prop} {S Es:List Nat} {ops:Array Oper} {k:Tmps→St→Prop} (b:Nat) (us:Nat→AV) (l:List Oper):∀ (r:List Oper) (Qs:List (AV→Prop)) (i0:Nat) (vals:Nat→AV),(∀ (i:Nat) (o:Oper),r[i]?=some o→l[i0 + i]?=some o)→(∀ (i:Nat) (Q:AV→Prop),Qs[i]?=some Q→Q (us (b + (i0 + i)))) →
  (∀ j,b≤j→j < b + i0→vals j=us j)→(∀ e ∈ Es,b≤e∧e < b + i0 + r.length) →
  DRunP P n X I S Es ops (b + i0) r Qs (ents l (fun i=>us (b + i)) i0++T) vals k→Qs.length=r.length∧(∀ st,I (Es.map fun e=>some (us e)) st→k (ents l (fun i=>us (b + i)) (i0 + r.length)++T) st) ∧
   ∀ i o,r[i]?=some o→∃ Q,dstOk o.dst n=true∧Qs[i]?=some Q∧StepP P n X I S Es (b + (i0 + i)) ops (see ops o (ents l (fun i=>us (b + i)) (i0 + i)++T)) us o Q
 | [],[],i0,vals,_,_,hv,hE,h=>⟨rfl,fun st hI=>by
   have e:(Es.map fun e=>some (vals e))=Es.map fun e=>some (us e):=List.map_congr_left fun e he=>by
    obtain ⟨h1,h2⟩:=hE e he;rw [hv e h1 (by simpa using h2)]
   have h':∀ st,I (Es.map fun e=>some (vals e)) st→k (ents l (fun i=>us (b + i)) i0++T) st:=h;rw [e] at h';exact h' st hI,fun i o ho=>by simp at ho⟩
 | [],_::_,_,_,_,_,_,_,h=>h.elim
 | _::_,[],_,_,_,_,_,_,h=>h.elim
 | o::r,Q::Qs,i0,vals,hl,hq,hv,hE,h=>by
  obtain ⟨_,h2,h4,h5⟩:=h;have h6:=h5 (us (b + i0)) (hq 0 Q rfl)
  have hl0:l[i0]?=some o:=by simpa using hl 0 o rfl
  have he:(ents l (fun i=>us (b + i)) i0++T).put o.dst (us (b + i0))=ents l (fun i=>us (b + i)) (i0 + 1)++T:=by
   rw [ents,hl0];simp only [Option.bind_some];cases o.dst <;> rfl
  rw [he,Nat.add_assoc] at h6;obtain ⟨a1,a2,a3⟩:=DRunP.out b us l r Qs (i0 + 1) _ (fun i o' ho'=>by have:=hl (i + 1) o' (by simpa using ho'); rwa [show i0 + (i + 1)=i0 + 1 + i by omega] at this) (fun i Q' hQ'=>by have:=hq (i + 1) Q' (by simpa using hQ'); rwa [show i0 + (i + 1)=i0 + 1 + i by omega] at this)
   (fun j h1 h2=>by
    by_cases hj:j=b + i0
    ·subst hj; rw [nbeq_self]; rfl
    ·rw [nbeq_ne hj]; exact hv j h1 (by omega)) (fun e he=>by have:=hE e he; simp only [List.length_cons] at this; omega) h6
  refine ⟨by simp [a1],by rw [List.length_cons,show i0 + (r.length + 1)=i0 + 1 + r.length by omega]; exact a2,fun i o' ho'=>?_⟩;cases i with
  | zero =>
   simp only [List.getElem?_cons_zero,Option.some.injEq] at ho';subst ho';refine ⟨Q,h2,rfl,?_⟩;rcases h4 with ⟨hw,h4⟩|h4
   ·exact .inl ⟨hw,fun vs hl hm hlk=>h4 vs hl hm fun p hp hlt u hu=>by
     have hpe:p.1 ∈ Es:=(List.of_mem_zip hp).1;rw [hv p.1 (hE p.1 hpe).1 hlt];exact hlk p hp hlt u hu⟩
   ·exact .inr h4
  | succ i =>
   obtain ⟨Q',b1,b2,b3⟩:=a3 i o' (by simpa using ho');exact ⟨Q',b1,by simpa using b2,by rwa [show i0 + 1 + i=i0 + (i + 1) by omega] at b3⟩
theorem DRunP.fits {X:AV→St→Prop} {I:List (Option AV)→St→Prop} {S Es:List Nat} {ops:Array Oper} {k:Tmps→St→Prop}:∀ (r:List Oper) (Qs:List (AV→Prop)) (i0:Nat) (T:Tmps) (vals:Nat→AV),DRunP P n X I S Es ops i0 r Qs T vals k→∀ (i:Nat) (Q:AV→Prop),Qs[i]?=some Q→∃ u,Q u
 | [],[],_,_,_,_,i,Q,h=>by simp at h
 | [],_::_,_,_,_,h,_,_,_=>h.elim
 | _::_,[],_,_,_,h,_,_,_=>h.elim
 | o::r,Q0::Qs,i0,T,vals,h,i,Q,hq=>by
  obtain ⟨⟨u,hu⟩,h2,h4,h5⟩:=h;cases i with
  | zero=>simp at hq; subst hq; exact ⟨u,hu⟩
  | succ i=>exact DRunP.fits r Qs _ _ _ (h5 u hu) i Q (by simpa using hq)
theorem AAny.segPT {X:AV→St→Prop} (T0:Tmps) (hX:∀ pv st',X pv st'→E (.panic pv) T0 st') (hT0:TLe T T0) {l:List Oper} {k:Nat} (k':Nat) (hkp:keepsT l k k' T0=true) (S Es:List Nat) (I:List (Option AV)→St→Prop) (Qs:List (AV→Prop)) (hok:segOk l k k' Es=true) (hS:predSets l []=S) (hI:I (Es.map fun _=>none) st)
  (vals:Nat→AV) (h:DRunP P n X I S Es l.toArray k ((l.drop k).take (k' - k)) Qs T vals fun T' st'=>AAny P n l k' K E T' st'):AAny P n l k K E T st:=by
 subst hS;obtain ⟨hkk,hkl,hedge,hbody,htail,hEs⟩:=segOk_spec hok;have hfits:=DRunP.fits _ _ _ _ _ h
 have hget:∀ i,i < k' - k→(l.drop k)[i]?=l[k + i]?:=fun i _=>List.getElem?_drop
 have hlk0:((l.drop k).take (k' - k)).length=k' - k:=by simp; omega
 have hout:=fun (us:Nat→AV) (hus:∀ (i:Nat) (Q:AV→Prop),Qs[i]?=some Q→Q (us (k + (0 + i))))=>DRunP.out (T:=T) k us (l.drop k) ((l.drop k).take (k' - k)) Qs 0 vals (fun i o ho=>by
  have hi:i < k' - k:=by have:=(List.getElem?_eq_some_iff.1 ho).1; simp at this; omega
  rw [List.getElem?_take_of_lt hi] at ho
  rwa [Nat.zero_add]) hus (fun j h1 h2=>by omega) (fun e he=>by rw [hlk0]; have:=hEs e he; omega) h
 obtain ⟨wit,hwit⟩:∃ wit:Nat→AV,∀ (i:Nat) (Q:AV→Prop),Qs[i]?=some Q→Q (wit i):=by
  have:∀ i:Nat,∃ u:AV,∀ Q:AV→Prop,Qs[i]?=some Q→Q u:=fun i=>by
   cases hq:Qs[i]? with
   | none=>exact ⟨.bool true,fun Q h=>by cases h⟩
   | some Q =>
    obtain ⟨u,hu⟩:=hfits i Q hq;exact ⟨u,fun Q' h=>by cases h; exact hu⟩
  exact ⟨fun i=>Classical.choose (this i),fun i Q hQ=>Classical.choose_spec (this i) Q hQ⟩
 have hQl:Qs.length=k' - k:=by rw [(hout (fun j=>wit (j - k)) (fun i Q hQ=>by rw [Nat.zero_add,Nat.add_sub_cancel_left]; exact hwit i Q hQ)).1,hlk0]
 intro g0 w0 ds g1 w1 a1 m1 listed1 he1 hs1 hk1 hn1 hd1 hm1 hsz1 hli1 hc1
 let Inv:Array Bool→Act→World→Prop:=fun listed a w=>listed.size=l.length∧Closed l listed∧(∀ j,j < k→listed.getD j true=true)∧(∀ j,k'≤j→j < l.length→listed.getD j true=false)∧a.tmps.size=n∧a.defers=ds ∧
  ∃ g st1 us,Ext g0 w0 g w∧Sim g w st1∧I (valsOf Es listed us) st1 ∧
   (∀ t v,Tmps.get T t=some v→(∀ i,i < k' - k→(l[k + i]?).bind (·.dst)=some t→listed.getD (k + i) false=false)→∃ rv,a.tmps[t]?=some rv∧R g w v rv) ∧
   (∀ i Q,i < k' - k→Qs[i]?=some Q→listed.getD (k + i) false=true→Q (us (k + i))) ∧
   (∀ i d,i < k' - k→(l[k + i]?).bind (·.dst)=some d→listed.getD (k + i) false=true→∃ rv,a.tmps[d]?=some rv∧R g w (us (k + i)) rv)
 let μ:Array Bool→Nat:=fun listed=>(List.range l.length).countP fun j=>!listed.getD j true
 have hμ:∀ (listed:Array Bool) i,i < l.length→listed.size=l.length→listed.getD i true=false→μ (listed.setIfInBounds i true) + 1≤μ listed:=by
  intro listed i hil hsz hi;have gen:∀ (A:List Nat),i ∈ A→A.countP (fun j=>!(listed.setIfInBounds i true).getD j true) + 1≤A.countP (fun j=>!listed.getD j true):=by
   have le:∀ (A:List Nat),A.countP (fun j=>!(listed.setIfInBounds i true).getD j true)≤A.countP (fun j=>!listed.getD j true):=fun A=>List.countP_mono_left fun j _ hj=>by
    by_cases hij:i=j
    ·subst hij;rw [Array.getD_eq_getD_getElem?,Array.getElem?_setIfInBounds_self_of_lt (by omega)] at hj;simp at hj
    ·rw [getD_set_ne true hij] at hj; exact hj
   intro A
   induction A with
   | nil=>intro h; simp at h
   | cons x A ih =>
    intro h;rw [List.countP_cons,List.countP_cons];by_cases hx:x=i
    ·subst hx;have h1:(!(listed.setIfInBounds x true).getD x true)=false:=by
      rw [Array.getD_eq_getD_getElem?,Array.getElem?_setIfInBounds_self_of_lt (by omega)]; rfl
     have h2:(!listed.getD x true)=true:=by rw [hi]; rfl
     rw [h1,h2,if_neg (by decide),if_pos rfl];have:=le A;omega
    ·have hm':i ∈ A:=by rcases List.mem_cons.1 h with h|h; exact absurd h.symm hx; exact h
     have:=ih hm'
     have h3:(listed.setIfInBounds i true).getD x true=listed.getD x true:=getD_set_ne true (Ne.symm hx);rw [h3];omega
  exact gen _ (List.mem_range.2 hil)
 have fill:∀ (listed:Array Bool) (us:Nat→AV),(∀ i Q,i < k' - k→Qs[i]?=some Q→listed.getD (k + i) false=true→Q (us (k + i))) →
   ∀ (i:Nat) (Q:AV→Prop),Qs[i]?=some Q→Q ((fun j=>bif listed.getD j false then us j else wit (j - k)) (k + (0 + i))):=by
  intro listed us hB i Q hQ;rw [Nat.zero_add];simp only;have hik:i < k' - k:=by rw [← hQl]; exact (List.getElem?_eq_some_iff.1 hQ).1
  cases hc:listed.getD (k + i) false with
  | true=>exact hB i Q hik hQ hc
  | false=>rw [cond_false,Nat.add_sub_cancel_left]; exact hwit i Q hQ
 have hentsget:∀ (us:Nat→AV) (i t:Nat) v,i≤k' - k→Tmps.get (ents (l.drop k) us i) t=some v→∃ j,j < i∧(l[k + j]?).bind (·.dst)=some t∧v=us j:=fun us i t v hi hg=>by
  obtain ⟨j,hj,hdj,rfl⟩:=ents_get i t _ hg;exact ⟨j,hj,by rw [← hget j (by omega)]; exact hdj,rfl⟩
 have hentsnone:∀ (us:Nat→AV) (i t:Nat),i≤k' - k→Tmps.get (ents (l.drop k) us i) t=none→∀ j,j < i→(l[k + j]?).bind (·.dst)≠some t:=fun us i t hi hg j hj=>by
  rw [← hget j (by omega)];exact ents_none i t hg j hj
 have done:∀ (m:Nat) (listed:Array Bool) (a:Act) (w:World),Inv listed a w→(∀ j,j < k'→listed.getD j true=true)→l.length≤k' + m→wpAny P .any l.toArray (QOf n ds g0 w0 K E) m listed a w:=by
  intro m listed a w ⟨hsz,hcl,hfst,htl,hn,hd,g,st1,us0,he,hs,hI1,hA,hB1,hB2⟩ hall hm';have hlist:∀ j,j < k'→listed.getD j false=true:=fun j hj=>by
   rw [getD_ft (by omega)]; exact hall j hj
  have hus:=fill listed us0 hB1;obtain ⟨uf,huf⟩:∃ uf:Nat→AV,uf=fun j=>bif listed.getD j false then us0 j else wit (j - k):=⟨_,rfl⟩;rw [← huf] at hus;have hus2:∀ i d,i < k' - k→(l[k + i]?).bind (·.dst)=some d→listed.getD (k + i) false=true→∃ rv,a.tmps[d]?=some rv∧R g w (uf (k + i)) rv:=fun i d h1 h2 h3=>by
   rw [huf];simp only [h3,cond_true];exact hB2 i d h1 h2 h3
  obtain ⟨_,hfin,_⟩:=hout uf hus;rw [hlk0,Nat.zero_add] at hfin;have hIt:valsOf Es listed us0=Es.map fun e=>some (uf e):=List.map_congr_left fun e he=>by
   rw [huf];simp only [hlist e (hEs e he).2,cond_true]
  rw [hIt] at hI1;refine hfin st1 hI1 g0 w0 ds g w a m listed he hs (fun t u hu=>?_) hn hd hm' hsz (fun j hj=>?_) hcl
  ·rw [get_append] at hu;cases hg:Tmps.get (ents (l.drop k) (fun i=>uf (k + i)) (k' - k)) t with
   | some u' =>
    rw [hg] at hu;cases hu;obtain ⟨j,hj,hdj,rfl⟩:=hentsget (fun i=>uf (k + i)) _ t _ (Nat.le_refl _) hg;exact hus2 j t hj hdj (hlist (k + j) (by omega))
   | none =>
    rw [hg] at hu;exact hA t u hu fun i hi hit=>absurd hit (hentsnone (fun i=>uf (k + i)) _ t (Nat.le_refl _) hg i hi)
  ·by_cases hjk:j < k'
   ·rw [hall j hjk,decide_eq_true hjk]
   ·rw [htl j (by omega) hj,decide_eq_false hjk]
 have step:∀ (K':Act→World→Prop) (listed:Array Bool) (a:Act) (w:World) (q:Nat),Inv listed a w→q < k' - k→k + q ∈ Region.ready .any l.toArray listed→(∀ a' w',Inv (listed.setIfInBounds (k + q) true) a' w'→K' a' w') →
   wpOp P l.toArray (QOf n ds g0 w0 K E) (k + q) K' a w:=by
  intro K' listed a w q ⟨hsz,hcl,hfst,htl,hn,hd,g,st1,us0,he,hs,hI1,hA,hB1,hB2⟩ hqk hri hK;obtain ⟨hun,o,ho,hed'⟩:=ready_edges hri;have hil:=(List.getElem?_eq_some_iff.1 ho).1
  have hunf:listed.getD (k + q) false=false:=by
   rw [getD_ft (by omega)]; exact hun
  have hcl':=hcl.set ho hed'
  have hsz':(listed.setIfInBounds (k + q) true).size=l.length:=by simpa using hsz
  have hfst':∀ j,j < k→(listed.setIfInBounds (k + q) true).getD j true=true:=fun j h1=>by
   rw [getD_set_ne true (by omega)]; exact hfst j h1
  have htl':∀ j,k'≤j→j < l.length→(listed.setIfInBounds (k + q) true).getD j true=false:=fun j h1 h2=>by
   rw [getD_set_ne true (by omega)]; exact htl j h1 h2
  have hus:=fill listed us0 hB1;obtain ⟨uf,huf⟩:∃ uf:Nat→AV,uf=fun j=>bif listed.getD j false then us0 j else wit (j - k):=⟨_,rfl⟩;rw [← huf] at hus;have hus2:∀ i d,i < k' - k→(l[k + i]?).bind (·.dst)=some d→listed.getD (k + i) false=true→∃ rv,a.tmps[d]?=some rv∧R g w (uf (k + i)) rv:=fun i d h1 h2 h3=>by
   rw [huf];simp only [h3,cond_true];exact hB2 i d h1 h2 h3
  obtain ⟨_,_,hops⟩:=hout uf hus;obtain ⟨Q,hdn,hQi,hstep⟩:=hops q o (by rw [List.getElem?_take_of_lt hqk,hget q hqk]; exact ho);rw [Nat.zero_add] at hstep;have hlooked:∀ j,j < k' - k→∀ t,(l[k + j]?).bind (·.dst)=some t→(o.looksAt l.toArray).contains t=true→listed.getD (k + j) false=true∧j < q:=by
   intro j hj t hjt hlook;have hp:l[k + j]?=some l[k + j]:=List.getElem?_eq_getElem (by omega);rw [hp] at hjt;have h2:=((hbody (k + q) o ho (by omega) (by omega)).2 (k + j) _ (by omega) (by omega) hp).2 t hjt hlook;refine ⟨preds_listed hcl ho hed' h2,?_⟩;have hcl2:Closed l (Array.ofFn fun x:Fin l.length=>decide (x.val < k + q)):=by
    intro x ox hx hx' y hy;have hql:=(List.getElem?_eq_some_iff.1 hx).1;rw [Array.getD_eq_getD_getElem?,Array.getElem?_ofFn] at hx' ⊢;simp only [hql,dif_pos,Option.getD_some,decide_eq_true_eq] at hx';have hxq:=hedge x ox hx y hy;simp only [show y < l.length by omega,dif_pos,Option.getD_some,decide_eq_true_eq];omega
   have h3:=preds_listed hcl2 ho (fun x hx'=>by
    have hxi:=hedge (k + q) o ho x hx';rw [Array.getD_eq_getD_getElem?,Array.getElem?_ofFn];simp only [show x < l.length by omega,dif_pos,Option.getD_some,decide_eq_true_eq];exact hxi) h2
   rw [Array.getD_eq_getD_getElem?,Array.getElem?_ofFn] at h3;simp only [show k + j < l.length by omega,dif_pos,Option.getD_some,decide_eq_true_eq] at h3;omega
  have hknown:Known g w (see l.toArray o (ents (l.drop k) (fun i=>uf (k + i)) q++T)) a:=fun t v ht=>by
   obtain ⟨hlook,hgt⟩:=get_filter _ _ _ _ ht;rw [get_append] at hgt;cases hg:Tmps.get (ents (l.drop k) (fun i=>uf (k + i)) q) t with
   | some u' =>
    rw [hg] at hgt;cases hgt;obtain ⟨j,hj,hdj,rfl⟩:=hentsget (fun i=>uf (k + i)) q t _ (by omega) hg;exact hus2 j t (by omega) hdj (hlooked j (by omega) t hdj hlook).1
   | none =>
    rw [hg] at hgt;refine hA t v hgt fun j hj hjt=>?_;have h1:=hlooked j hj t hjt hlook;exact absurd hjt (hentsnone (fun i=>uf (k + i)) q t (by omega) hg j h1.2)
  have hother:∀ t,o.dst≠some t→∀ rv',(a.put o.dst rv').tmps[t]?=a.tmps[t]?:=fun t ht rv'=>by
   cases hod:o.dst with
   | none=>rfl
   | some d =>
    simp only [Act.put,Array.getElem?_setIfInBounds];rw [if_neg (fun h=>ht (by rw [hod,h]))]
  have hself:∀ d,o.dst=some d→∀ rv',(a.put o.dst rv').tmps[d]?=some rv':=fun d hod rv'=>by
   have hdn':=dstOk_lt hdn d hod;rw [hod];simp only [Act.put,Array.getElem?_setIfInBounds];simp [hn,hdn']
  have hdi:∀ d,(l[k + q]?).bind (·.dst)=some d→o.dst=some d:=fun d h=>by rw [ho] at h; exact h
  have after:∀ v rv g' w' st2,Ext g w g' w'→Sim g' w' st2→R g' w' v rv→Q v→I (setV Es (k + q) v (valsOf Es listed us0)) st2→Inv (listed.setIfInBounds (k + q) true) (a.put o.dst rv) w':=by
   intro v rv g' w' st2 he' hs' hR hQv hI2;refine ⟨hsz',hcl',hfst',htl',by rw [Act.size_put]; exact hn,by rw [Act.defers_put]; exact hd,g',st2,fun j=>bif Nat.beq j (k + q) then v else us0 j,he.trans he',hs',by rw [setV_of (by omega)]; exact hI2,fun t u ht hwr=>?_,fun j Q' hj hjQ hjl=>?_,fun j d' hj hjd hjl=>?_⟩
   ·have htd:o.dst≠some t:=fun htd=>by
     have:=hwr q hqk (by rw [ho]; exact htd);rw [Array.getD_eq_getD_getElem?,Array.getElem?_setIfInBounds_self_of_lt (by omega)] at this;simp at this
    obtain ⟨ru,h1,h2⟩:=hA t u ht fun j hj hjt=>by
     have h3:=hwr j hj hjt;by_cases hij:q=j
     ·subst hij; exact hunf
     ·rwa [getD_set_ne false (by omega)] at h3
    exact ⟨ru,by rw [hother t htd]; exact h1,h2.ext he'⟩
   ·by_cases hij:q=j
    ·subst hij;rw [hQi] at hjQ;cases hjQ;simp only [nbeq_self,cond_true];exact hQv
    ·rw [getD_set_ne false (by omega)] at hjl;simp only [nbeq_ne (show k + j≠k + q by omega),cond_false];exact hB1 j Q' hj hjQ hjl
   ·by_cases hij:q=j
    ·subst hij;simp only [nbeq_self,cond_true];exact ⟨rv,hself d' (hdi d' hjd) rv,hR⟩
    ·rw [getD_set_ne false (by omega)] at hjl;simp only [nbeq_ne (show k + j≠k + q by omega),cond_false];obtain ⟨ru,h2,h3⟩:=hB2 j d' hj hjd hjl;refine ⟨ru,?_,h3.ext he'⟩;rw [hother d' ?_]
     ·exact h2
     ·have hp:l[k + j]?=some l[k + j]:=List.getElem?_eq_getElem (by omega);rw [hp] at hjd;exact fun hdd=>((hbody (k + q) o ho (by omega) (by omega)).2 (k + j) _ (by omega) (by omega) hp).1 (by omega) d' d' hdd hjd rfl
  unfold wpOp;simp only [List.getElem?_toArray,ho];rcases hstep with ⟨hw,hq1⟩|⟨hw,hq,hni⟩
  ·rw [wanted_of hknown hw,if_pos rfl]
   left
   exact hq1 _ (by simp [valsOf]) (by rw [valsOf_some]; exact may_of hcl hsz ho hed' hunf Es) (fun p hp _ u hu=>by
    obtain ⟨q',hq'⟩:=List.getElem?_of_mem hp;rw [List.getElem?_zip_eq_some] at hq';obtain ⟨z1,z2⟩:=hq';rw [valsOf,List.getElem?_map,z1,Option.map_some,Option.some.injEq,hu] at z2;rw [huf];cases hli:listed.getD p.1 false with
    | true=>rw [hli,cond_true] at z2; simp only [hli,cond_true]; exact (Option.some.inj z2).symm
    | false=>rw [hli,cond_false] at z2; cases z2) st1 g w a K' _ hI1 hs hknown hn (fun rv g' w' v st2 he' hs' hR hQv hI2=>hK _ _ (after v rv g' w' st2 he' hs' hR hQv hI2))
    (fun pv rv g' w' st2 he' hs' hR hx=>⟨hn,hd,g',T0,st2,he.trans he',hs',(fun t v ht=>by
     obtain ⟨v0,h0,hle⟩:=hT0 t v ht;obtain ⟨rv,q1,q2⟩:=hA t v0 h0 (fun i hi hdi=>absurd hdi (keepsT_spec hkp ht hi));exact ⟨rv,q1,R.le hle (q2.ext he')⟩),pv,rv,rfl,hR,hX pv st2 hx⟩)
  ·rw [wanted_of hknown hw,if_neg (by simp)];exact hK _ _ (after _ undef g w st1 (.refl _ _) hs (.lit _) hq (by rw [setV_none Es _ (by simp [valsOf]) hni]; exact hI1))
 have key:∀ (m:Nat) (listed:Array Bool) (a:Act) (w:World),Inv listed a w→μ listed≤m→wpAny P .any l.toArray (QOf n ds g0 w0 K E) m listed a w:=by
  intro m
  induction m with
  | zero =>
   intro listed a w hi hm0;have hall:∀ j,j < l.length→listed.getD j true=true:=fun j hj=>by
    cases hv:listed.getD j true with
    | true=>rfl
    | false=>have:=hμ listed j hj hi.1 hv; omega
   have hlk:l.length=k':=by
    rcases Nat.eq_or_lt_of_le hkl with h'|h'
    ·exact h'.symm
    ·have h1:=hall k' h'
     have h2:=hi.2.2.2.1 k' (Nat.le_refl _) h';rw [h1] at h2;cases h2
   exact done 0 listed a w hi (fun j hj=>hall j (by omega)) (by omega)
  | succ m ih =>
   intro listed a w hi hm1;by_cases hall:∀ j,j < k'→listed.getD j true=true
   ·refine done (m + 1) listed a w hi hall ?_;have:l.length - k'≤μ listed:=by
     exact countP_range_ge k' _ l.length fun j h1 h2=>by rw [hi.2.2.2.1 j h1 h2]; rfl
    omega
   ·have hex:∃ j,j < k'∧listed.getD j true=false∧∀ q,q < j→listed.getD q true=true:=by
     have:∃ j,j < k'∧listed.getD j true=false:=by
      apply Classical.byContradiction;intro hno;apply hall;intro j hj;cases hv:listed.getD j true with
      | true=>rfl
      | false=>exact absurd ⟨j,hj,hv⟩ hno
     obtain ⟨j,hj⟩:=this
     induction j using Nat.strongRecOn with
     | _ j ihj =>
      by_cases hq:∀ q,q < j→listed.getD q true=true
      ·exact ⟨j,hj.1,hj.2,hq⟩
      ·simp only [Classical.not_forall] at hq;obtain ⟨q,hqj,hq⟩:=hq;exact ihj q hqj ⟨by omega,by simpa using hq⟩
    obtain ⟨j0,hj0,hv0,hmin⟩:=hex;have hsz:=hi.1
    have hjl:j0 < l.length:=by omega
    have hkj:k≤j0:=by
     rcases Nat.lt_or_ge j0 k with h'|h'
     ·rw [hi.2.2.1 j0 h'] at hv0; cases hv0
     ·exact h'
    have hready:j0 ∈ Region.ready .any l.toArray listed:=ready_of_edges hv0 (List.getElem?_eq_getElem hjl) (fun x hx=>by
     have hxj:=hedge j0 _ (List.getElem?_eq_getElem hjl) x hx;rw [getD_ft (by omega)];exact hmin x hxj)
    refine ⟨fun h0=>(by rw [h0] at hready; cases hready),fun i hri=>?_⟩;obtain ⟨hun,o,ho,hed'⟩:=ready_edges hri;have hil:=(List.getElem?_eq_some_iff.1 ho).1
    have hik:i < k':=by
     rcases Nat.lt_or_ge i k' with h'|h'
     ·exact h'
     ·have h1:=preds_listed hi.2.1 ho hed' (htail i o h' ho j0 hkj hj0);rw [getD_ft (by omega),hv0] at h1;cases h1
    have hki:k≤i:=by
     rcases Nat.lt_or_ge i k with h'|h'
     ·rw [hi.2.2.1 i h'] at hun; cases hun
     ·exact h'
    obtain ⟨q,rfl⟩:∃ q,i=k + q:=⟨i - k,by omega⟩;exact step _ listed a w q hi (by omega) hri fun a' w' hi'=>ih _ a' w' hi' (by have:=hμ listed (k + q) hil hsz hun; omega)
 refine key m1 listed1 a1 w1 ⟨hsz1,hc1,fun j hj=>by rw [hli1 j (by omega),decide_eq_true hj],fun j h1 h2=>by rw [hli1 j h2,decide_eq_false (by omega)],hn1,hd1,g1,st,fun _=>.bool true,he1,hs1,?_,fun t v ht _=>hk1 t v ht,fun i Q hi _ hl=>?_,fun i d hi hdi hl=>?_⟩ ?_
 ·have:valsOf Es listed1 (fun _=>.bool true)=Es.map fun _=>none:=List.map_congr_left fun e he=>by
   obtain ⟨h1,h2⟩:=hEs e he;rw [getD_ft (by omega),hli1 e (by omega),decide_eq_false (by omega)];rfl
  rw [this];exact hI
 ·rw [getD_ft (by omega),hli1 (k + i) (by omega),decide_eq_false (by omega)] at hl;cases hl
 ·rw [getD_ft (by omega),hli1 (k + i) (by omega),decide_eq_false (by omega)] at hl;cases hl
 ·have h2:μ listed1=(List.range l.length).countP fun j=>!decide (j < k):=List.countP_congr fun j hj=>by rw [hli1 j (List.mem_range.1 hj)]
  rw [h2];have h3:∀ N,(List.range N).countP (fun j=>!decide (j < k))≤N - k:=by
   intro N
   induction N with
   | zero=>simp
   | succ N ih =>
    rw [List.range_succ,List.countP_append,List.countP_singleton];by_cases hN:N < k
    ·simp only [hN,decide_true,Bool.not_true,Bool.false_eq_true,if_false]; omega
    ·simp only [hN,decide_false,Bool.not_false,if_true]; omega
  have:=h3 l.length;omega
def IP (J:List (Option AV)→St→Prop) (base:St) (vs:List (Option AV)) (s:St):Prop:=J vs s∧StLe s base
variable {X:AV→St→Prop} {J:List (Option AV)→St→Prop} {base:St} {S Es:List Nat} {ops:Array Oper} {Qs:List (AV→Prop)} {vals:Nat→AV}
theorem dqP {i:Nat} {o:Oper} {r:List Oper} {d:Tmp} {v:AV} {k:Tmps→St→Prop} (hi:Es.contains i=false:=by exact rfl) (hd:dstA n o.dst=some d:=by exact rfl) (hw:wantedA ops (see ops o T) o=some true:=by exact rfl)
  (h:∀ st',StLe st' base→AOps P n ops [o] (fun T' st''=>∃ u,T'=(d,u)::see ops o T∧(u=v∧st''=st')) (fun _ _ _=>False) (see ops o T) st')
  (z:DRunP P n X (IP J base) S Es ops (i + 1) r Qs ((d,v)::T) (fun j=>bif Nat.beq j i then v else vals j) k):DRunP P n X (IP J base) S Es ops i (o::r) ((fun u=>u=v)::Qs) T vals k:=by
 obtain ⟨hd',hdn⟩:=dstA_some hd;refine ⟨⟨v,rfl⟩,hdn,.inl ⟨hw,fun vs hl _ _=>?_⟩,fun u hu=>?_⟩
 ·intro s g w a K' Q' ⟨hJ,hle⟩ hs hk hn hK _;refine AOps.single hd' (dstOk_lt hdn d hd') (h s hle) hw hs hk K' Q' (fun rv g' w' u st' he hs' hR ⟨hu,hst⟩=>?_) hn;subst hu hst;exact hK rv g' w' u st' he hs' hR rfl (by rw [setV_none Es vs hl hi]; exact ⟨hJ,hle⟩)
 ·subst hu;rw [hd'];exact z
theorem dsP {i:Nat} {o:Oper} {r:List Oper} {d:Tmp} {v:AV} {k:Tmps→St→Prop} (hi:Es.contains i=false:=by exact rfl) (hs:step1 ops n base (see ops o T) o=some (d,v):=by exact rfl)
  (z:DRunP P n X (IP J base) S Es ops (i + 1) r Qs ((d,v)::T) (fun j=>bif Nat.beq j i then v else vals j) k):DRunP P n X (IP J base) S Es ops i (o::r) ((fun u=>u=v)::Qs) T vals k:=by
 have hg:goes ops n (see ops o T) o=some d:=by
  unfold step1 at hs;split at hs
  ·rename_i h1 h2;cases hs;exact h1
  ·cases hs
 obtain ⟨hw,hd,hok⟩:=goes_some hg;have hda:dstA n o.dst=some d:=by
  unfold goes at hg;rw [hw] at hg;exact hg
 exact dqP hi hda hw (fun st' hle=>sm ((step1_glob (n:=n) (ops:=ops) hle.glob (see ops o T) o).symm.trans hs) (nl ⟨v,rfl,rfl,rfl⟩)) z
theorem deP0 (Q:AV→Prop) (L:List (List Bool)) {i:Nat} {o:Oper} {r:List Oper} {d:Tmp} {k:Tmps→St→Prop} (hL:(allBits Es.length).filter (mayBe S Es i)=L) (hd:dstA n o.dst=some d) (hw:wantedA ops (see ops o T) o=some true) (hex:∃ u,Q u)
  (h:BAll L fun bs=>∀ vs,vs.map Option.isSome=bs→LinkV Es i vals vs→∀ s,J vs s→StLe s base→AOps P n ops [o] (fun T' st''=>∃ u,T'=(d,u)::see ops o T∧(Q u∧J (setV Es i u vs) st''∧StLe st'' base)) (fun _ _ _=>False) (see ops o T) s)
  (z:∀ u,Q u→DRunP P n X (IP J base) S Es ops (i + 1) r Qs ((d,u)::T) (fun j=>bif Nat.beq j i then u else vals j) k):DRunP P n X (IP J base) S Es ops i (o::r) (Q::Qs) T vals k:=by
 obtain ⟨hd',hdn⟩:=dstA_some hd;refine ⟨hex,hdn,.inl ⟨hw,fun vs hl hm hlk=>?_⟩,fun u hu=>?_⟩
 ·intro s g w a K' Q' ⟨hJ,hle⟩ hs hk hn hK _;have h':=h.get (vs.map Option.isSome) (by rw [← hL,List.mem_filter]; exact ⟨by rw [← hl,← List.length_map (f:=Option.isSome)]; exact mem_allBits _,hm⟩) vs rfl hlk s hJ hle;exact AOps.single hd' (dstOk_lt hdn d hd') h' hw hs hk K' Q' (fun rv g' w' u st' he hs' hR hu=>hK rv g' w' u st' he hs' hR hu.1 hu.2) hn
 ·rw [hd'];exact z u hu
theorem dfP (Q:AV→Prop) {i:Nat} {o:Oper} {r:List Oper} {d:Tmp} {k:Tmps→St→Prop} (hi:Es.contains i=false) (hd:dstA n o.dst=some d) (hw:wantedA ops (see ops o T) o=some true) (hex:∃ u,Q u)
  (h:∀ vs s,J vs s→StLe s base→AOps P n ops [o] (fun T' st''=>∃ u,T'=(d,u)::see ops o T∧(Q u∧J vs st''∧StLe st'' base)) (fun _ _ _=>False) (see ops o T) s)
  (z:∀ u,Q u→DRunP P n X (IP J base) S Es ops (i + 1) r Qs ((d,u)::T) (fun j=>bif Nat.beq j i then u else vals j) k):DRunP P n X (IP J base) S Es ops i (o::r) (Q::Qs) T vals k:=by
 obtain ⟨hd',hdn⟩:=dstA_some hd;refine ⟨hex,hdn,.inl ⟨hw,fun vs hl hm hlk=>?_⟩,fun u hu=>?_⟩
 ·rintro s g w a K' Q' ⟨hJ,hle⟩ hs hk hn hK _;exact AOps.single hd' (dstOk_lt hdn d hd') (h vs s hJ hle) hw hs hk K' Q' (fun rv g' w' u st' he hs' hR hu=>hK rv g' w' u st' he hs' hR hu.1 (by rw [setV_none Es vs hl hi]; exact hu.2)) hn
 ·rw [hd'];exact z u hu
theorem dwP (v:AV) (L:List (List Bool)) {i:Nat} {o:Oper} {r:List Oper} {d:Tmp} {k:Tmps→St→Prop} (hi:Es.contains i=false) (hL:(allBits Es.length).filter (mayBe S Es i)=L) (hd:dstA n o.dst=some d) (hw:wantedA ops (see ops o T) o=some true)
  (h:BAll L fun bs=>∀ vs,vs.map Option.isSome=bs→LinkV Es i vals vs→∀ s,J vs s→AOps P n ops [o] (fun T' st''=>∃ u,T'=(d,u)::see ops o T∧(u=v∧st''=s)) (fun _ _ _=>False) (see ops o T) s)
  (z:DRunP P n X (IP J base) S Es ops (i + 1) r Qs ((d,v)::T) (fun j=>bif Nat.beq j i then v else vals j) k):DRunP P n X (IP J base) S Es ops i (o::r) ((fun u=>u=v)::Qs) T vals k:=by
 obtain ⟨hd',hdn⟩:=dstA_some hd;refine ⟨⟨v,rfl⟩,hdn,.inl ⟨hw,fun vs hl hm hlk=>?_⟩,fun u hu=>?_⟩
 ·intro s g w a K' Q' ⟨hJ,hle⟩ hs hk hn hK _;have h':=h.get (vs.map Option.isSome) (by rw [← hL,List.mem_filter]; exact ⟨by rw [← hl,← List.length_map (f:=Option.isSome)]; exact mem_allBits _,hm⟩) vs rfl hlk s hJ;exact AOps.single hd' (dstOk_lt hdn d hd') h' hw hs hk K' Q' (fun rv g' w' u st' he hs' hR ⟨hu,hst⟩=>by
   subst hu hst;exact hK rv g' w' u st' he hs' hR rfl (by rw [setV_none Es vs hl hi]; exact ⟨hJ,hle⟩)) hn
 ·subst hu;rw [hd'];exact z
theorem dnWP (L:List (List Bool)) {i:Nat} {o:Oper} {r:List Oper} {k:Tmps→St→Prop} (hL:(allBits Es.length).filter (mayBe S Es i)=L) (hd:o.dst=none) (hw:wantedA ops (see ops o T) o=some true)
  (h:BAll L fun bs=>∀ vs,vs.map Option.isSome=bs→LinkV Es i vals vs→∀ s,J vs s→StLe s base→AOps P n ops [o] (fun T' st''=>T'=see ops o T∧(∀ u,J (setV Es i u vs) st'')∧StLe st'' base) (fun _ _ _=>False) (see ops o T) s)
  (z:∀ u,DRunP P n X (IP J base) S Es ops (i + 1) r Qs T (fun j=>bif Nat.beq j i then u else vals j) k):DRunP P n X (IP J base) S Es ops i (o::r) ((fun _=>True)::Qs) T vals k:=by
 refine ⟨⟨.bool true,trivial⟩,by rw [hd]; rfl,.inl ⟨hw,fun vs hl hm hlk=>?_⟩,fun u _=>?_⟩
 ·intro s g w a K' Q' ⟨hJ,hle⟩ hs hk hn hK _;have h':=h.get (vs.map Option.isSome) (by rw [← hL,List.mem_filter]; exact ⟨by rw [← hl,← List.length_map (f:=Option.isSome)]; exact mem_allBits _,hm⟩) vs rfl hlk s hJ hle;exact AOps.singleN h' hw hs hk K' Q' (fun rv g' w' st' he hs' hst=>hK rv g' w' (.lit rv) st' he hs' (.lit rv) trivial ⟨hst.1 _,hst.2⟩) hn
 ·rw [hd];exact z u
theorem dnP {i:Nat} {k:Tmps→St→Prop} (h:∀ s,J (Es.map fun e=>some (vals e)) s→k T s):DRunP P n X (IP J base) S Es ops i [] [] T vals k:=fun s hs=>h s hs.1
theorem AAny.segXT (T0:Tmps) (hX:∀ pv st',X pv st'→E (.panic pv) T0 st') (hT0:TLe T T0) {l:List Oper} {k:Nat} (k':Nat) (Es:List Nat) (J:List (Option AV)→St→Prop) (base:St) {Qs:List (AV→Prop)} (hok:segOk l k k' Es=true) (hkp:keepsT l k k' T0=true) (hJ:J (Es.map fun _=>none) st) (hb:StLe st base)
  (h:DRunP P n X (IP J base) (predSets l []) Es l.toArray k ((l.drop k).take (k' - k)) Qs T (fun _=>.bool true) fun T' st'=>AAny P n l k' K E T' st'):AAny P n l k K E T st :=
 AAny.segPT T0 hX hT0 k' hkp _ Es (IP J base) Qs hok rfl ⟨hJ,hb⟩ _ h
theorem AAny.segX (hX:∀ pv st',X pv st'→E (.panic pv) [] st') {l:List Oper} {k:Nat} (k':Nat) (Es:List Nat) (J:List (Option AV)→St→Prop) (base:St) {Qs:List (AV→Prop)} (hok:segOk l k k' Es=true) (hJ:J (Es.map fun _=>none) st) (hb:StLe st base)
  (h:DRunP P n X (IP J base) (predSets l []) Es l.toArray k ((l.drop k).take (k' - k)) Qs T (fun _=>.bool true) fun T' st'=>AAny P n l k' K E T' st'):AAny P n l k K E T st :=
 AAny.segXT [] hX (fun _ _ h=>by cases h) k' Es J base hok (by unfold keepsT; rw [List.all_eq_true]; intro o _; cases o.dst <;> rfl) hJ hb h
theorem AOps.singleP {X:AV→St→Prop} {ops:Array Oper} {o:Oper} {d:Tmp} (hd:o.dst=some d) (hdn:d < n) {v:AV→St→Prop}
  (h:AOps P n ops [o] (fun T' st'=>∃ u,T'=(d,u)::T∧v u st') (fun e _ st'=>match e with|.panic pv=>X pv st'|_=>False) T st) (hw:wantedA ops T o=some true)
  {g:G} {w:World} {a:Act} (hs:Sim g w st) (hk:Known g w T a) (K':Act→World→Prop) (Q':Exit→Act→World→Prop)
  (hK:∀ rv g' w' u st',Ext g w g' w'→Sim g' w' st'→R g' w' u rv→v u st'→K' (a.put o.dst rv) w') (hn:a.tmps.size=n)
  (hP:∀ pv rv g' w' st1,Ext g w g' w'→Sim g' w' st1→R g' w' pv rv→X pv st1→Q' (.panic [{ v:=rv,recovered:=false }]) a w'):o.wp P a w K' Q':=by
 have h1:=h g w a hs hk hn;unfold wpList at h1;rw [wanted_of hk hw,if_pos rfl] at h1;rcases h1 with h1|⟨_,h1⟩
 ·refine wp_putA h1 (fun a' w' hda hq ⟨rv,hrv⟩=>?_) (fun a' w' hq=>hq.2.1) (fun e w' hq=>?_) (fun a' w' hq=>?_)
  ·obtain ⟨h2,h3,g',T',st',h4,h5,h6,u,hT,hv⟩:=hq;subst hT;subst hrv;obtain ⟨ru,h7,h8⟩:=h6 d u (by rw [Tmps.get_cons,if_pos rfl]);rw [hd] at h7;simp only [Act.put,Array.getElem?_setIfInBounds] at h7;simp [hn,hdn] at h7;subst h7;exact hK rv g' w' u st' h4 h5 h8 hv
  ·obtain ⟨z1,z2,g',T',st',z3,z4,_,h6⟩:=hq;obtain ⟨pv,rv,rfl,h8,h7⟩:=h6;exact hP pv rv g' w' st' z3 z4 h8 h7
  ·obtain ⟨_,_,_,_,_,_,_,_,h6⟩:=hq;exact h6.elim
 ·exact absurd h1 LetsOut.not_QOf
theorem deP (Q:AV→Prop) (L:List (List Bool)) {i:Nat} {o:Oper} {r:List Oper} {d:Tmp} {k:Tmps→St→Prop} (hL:(allBits Es.length).filter (mayBe S Es i)=L) (hd:dstA n o.dst=some d) (hw:wantedA ops (see ops o T) o=some true) (hex:∃ u,Q u)
  (h:BAll L fun bs=>∀ vs,vs.map Option.isSome=bs→LinkV Es i vals vs→∀ s,J vs s→StLe s base→AOps P n ops [o] (fun T' st''=>∃ u,T'=(d,u)::see ops o T∧(Q u∧J (setV Es i u vs) st''∧StLe st'' base)) (fun e _ st'=>match e with|.panic pv=>X pv st'|_=>False) (see ops o T) s)
  (z:∀ u,Q u→DRunP P n X (IP J base) S Es ops (i + 1) r Qs ((d,u)::T) (fun j=>bif Nat.beq j i then u else vals j) k):DRunP P n X (IP J base) S Es ops i (o::r) (Q::Qs) T vals k:=by
 obtain ⟨hd',hdn⟩:=dstA_some hd;refine ⟨hex,hdn,.inl ⟨hw,fun vs hl hm hlk=>?_⟩,fun u hu=>?_⟩
 ·intro s g w a K' Q' ⟨hJ,hle⟩ hs hk hn hK hP;have h':=h.get (vs.map Option.isSome) (by rw [← hL,List.mem_filter]; exact ⟨by rw [← hl,← List.length_map (f:=Option.isSome)]; exact mem_allBits _,hm⟩) vs rfl hlk s hJ hle;exact AOps.singleP hd' (dstOk_lt hdn d hd') h' hw hs hk K' Q' (fun rv g' w' u st' he hs' hR hu=>hK rv g' w' u st' he hs' hR hu.1 hu.2) hn hP
 ·rw [hd'];exact z u hu
end
end Go.AM
namespace Go.AM
open Go.RowKit (Below)
def brows (l:List UInt8):List (List AV):=l.map fun c=>[.int .u8 (c.toNat:Int)]
theorem brows_len (l:List UInt8):(brows l).length=l.length:=List.length_map ..
theorem brows_append (l s:List UInt8):brows (l++s)=brows l++brows s:=List.map_append ..
theorem brows_get {l:List UInt8} {i:Nat} {row:List AV} (h:(brows l)[i]?=some row):∃ c,l[i]?=some c∧row=[.int .u8 (c.toNat:Int)]:=by
 unfold brows at h;rw [List.getElem?_map] at h;cases hc:l[i]? with
 | none=>rw [hc] at h; cases h
 | some c=>rw [hc] at h; cases h; exact ⟨c,rfl,rfl⟩
theorem brows_row {l:List UInt8}:∀ row ∈ brows l,row.length=1∧∀ c ∈ row,c.one=true:=by
 intro row h;simp only [brows,List.mem_map] at h;obtain ⟨c,_,rfl⟩:=h;exact ⟨rfl,fun x hx=>by rw [List.mem_singleton.1 hx]; rfl⟩
section
variable {P:Program} {n:Nat} {K:Post} {E:EPost} {T:Tmps} {st:St} {ops:Array Oper} {rest:List Oper}
variable {ty:TypeId} {pos:String} {es:Array Edge} {gd:Option (Nat × Bool)} {d:Tmp} {x y:Operand} {dd:Option Tmp}
open Go.Lib (strCells strCells_length)
theorem strCells_mk (s:List UInt8):strCells ⟨⟨s⟩⟩=s.map fun b=>Value.int .u8 b.toNat:=rfl
theorem size_mk (s:List UInt8):(⟨⟨s⟩⟩:ByteArray).size=s.length:=rfl
theorem append_nil_str {g:G} {w:World} (hs:Sim g w st) {t u e:TypeId} [hu:Und P t (.slice e)] [hus:Und P u .string] [hie:Inf P e 1 1 (.int .u8 0)] {ty:TypeId} {s:List UInt8} (h0:s≠[]) (hb:s.length≤140737488355328) :
  ∃ v w' g' o',(Builtin.append_ #[t,u] ty #[.slice none 0 0,.string ⟨⟨s⟩⟩]).run P w=.ok v w'∧Ext g w g' w'∧Sim g' w' (st.set o' (.cells e 1 (brows s)))∧R g' w' (.msl o' 1 0 s.length) v∧st.obj o'=none:=by
 obtain ⟨inf,i1,i2,i3,i4⟩:=hie.out;have hpos:0 < s.length:=List.length_pos_iff.2 h0
 have hm:s.length≤maxLen:=by simp only [maxLen]; omega
 have hr:=run_append_nil_string (P:=P) w t u ty e inf (.int .u8 0) hu.out hus.out i1 i4 ⟨⟨s⟩⟩ hpos (by rw [size_mk]; omega) (by rw [i3,size_mk]; omega);rw [size_mk] at hr;have hge:=grownCap_ge w s.length 0 e
 have hgm:=grownCap_le_maxLen w s.length 0 e hm;obtain ⟨hed,hsd⟩:=hs.draw;generalize hcp:grownCap w s.length 0 e=cp at hr hge hgm;generalize harr:(Array.map (fun b:UInt8=>Value.int .u8 b.toNat) (⟨s⟩:Array UInt8))++Builtin.zeroCells (Value.int IntKind.u8 0).cells (cp - s.length)=arr' at hr;have hz1:(Value.int IntKind.u8 0).cells.size=1:=rfl
 have hsize':arr'.size=cp * 1:=by
  rw [← harr];simp only [Array.size_append,Array.size_map,size_zeroCells,hz1,List.size_toArray];omega
 obtain ⟨g',he,hs',hob',hnone⟩:=hsd.newObj (.cells arr' e) (.cells e 1 (brows s)) (cp * 1) (fun g' he=>by
  refine ⟨arr',heap_alloc_new _ _,hsize',by rw [brows_len]; exact Nat.mul_le_mul_right _ hge,fun r hr=>(brows_row r hr).1,fun r hr=>(brows_row r hr).2,fun i j row c hr hcj=>?_⟩;obtain ⟨ch,hch,rfl⟩:=brows_get hr;have hi:i < s.length:=(List.getElem?_eq_some_iff.1 hch).1
  match j,hcj with
  | 0,hcj =>
   cases hcj;refine ⟨.int .u8 ch.toNat,?_,.int _ _⟩;rw [← harr,Array.getElem?_append_left (by simpa using hi)];simp [hch]
  | j + 1,hcj=>simp at hcj)
 refine ⟨_,_,g',g.next,hr,hed.trans he,hs',?_,hnone⟩;have:=R.msl (g:=g') (w:=w.drew.alloc (.cells arr' e)) g.next 1 0 s.length cp w.drew.heap.size (cp * 1) hob' hge hgm (by simp)
 simpa using this
theorem append_msl_str {g:G} {w:World} (hs:Sim g w st) {t u e:TypeId} [hu:Und P t (.slice e)] [hus:Und P u .string] [hie:Inf P e 1 1 (.int .u8 0)] {ty:TypeId} {o:Nat} {l s:List UInt8} {ux:Value}
  (h1:R g w (.msl o 1 0 l.length) ux) (ho:st.obj o=some (.cells e 1 (brows l))) (hb:l.length + s.length≤140737488355328) :
  ∃ v w' g' o',(Builtin.append_ #[t,u] ty #[ux,.string ⟨⟨s⟩⟩]).run P w=.ok v w'∧Ext g w g' w'∧Sim g' w' ((st.drop o).set o' (.cells e 1 (brows (l++s))))∧R g' w' (.msl o' 1 0 (l++s).length) v∧(o'=o∨st.obj o'=none):=by
 obtain ⟨inf,i1,i2,i3,i4⟩:=hie.out;have hm:l.length + s.length≤maxLen:=by simp only [maxLen]; omega
 have hll:(brows (l++s)).length=l.length + s.length:=by rw [brows_len,List.length_append]
 have hrow:=fun r hr=>(brows_row (l:=l++s) r hr).1
 have h1row:=fun r hr=>(brows_row (l:=l++s) r hr).2;cases h1 with
 | msl _ _ _ _ cap b m hob hc hmx hfit0 =>
  obtain ⟨hbase,⟨arr,ha,hasz,hml,hl,h1',hcell⟩,hnimm⟩:=hs.objOf ho hob;simp only [Nat.zero_add,Nat.mul_one] at hfit0 ⊢;have hold:∀ (i:Nat) c,l[i]?=some c→arr[i]?=some (.int .u8 (c.toNat:Int)):=by
   intro i c hi;obtain ⟨v,hv1,hv2⟩:=hcell i 0 [.int .u8 (c.toNat:Int)] (.int .u8 (c.toNat:Int)) (by unfold brows; rw [List.getElem?_map,hi]; rfl) rfl;cases hv2
   simpa using hv1
  by_cases hroom:l.length + s.length≤cap
  ·have hr:=Lib.run_append_room_string (P:=P) w t u ty e inf hu.out hus.out i1 i2 b l.length cap arr ha ⟨⟨s⟩⟩ hroom (by rw [size_mk]; omega);rw [size_mk] at hr;generalize harr:(arr.toList.take l.length++strCells ⟨⟨s⟩⟩++arr.toList.drop (l.length + s.length)).toArray=arr' at hr;have hmin:min l.length arr.size=l.length:=by omega
   have hlow:∀ i,i < l.length→arr'[i]?=arr[i]?:=by
    intro i hi;rw [← harr,List.getElem?_toArray,List.append_assoc,List.getElem?_append_left (by simp; omega),List.getElem?_take_of_lt hi,Array.getElem?_toList]
   have hmid:∀ q c,s[q]?=some c→arr'[l.length + q]?=some (.int .u8 (c.toNat:Int)):=by
    intro q c hq;have hql:=(List.getElem?_eq_some_iff.1 hq).1;rw [← harr,List.getElem?_toArray,List.append_assoc,List.getElem?_append_right (by simp; omega)];simp only [List.length_take,Array.length_toList,hmin];rw [Nat.add_sub_cancel_left,List.getElem?_append_left (by rw [strCells_length]; exact hql),strCells_mk,List.getElem?_map,hq];rfl
   have hsize':arr'.size=m:=by
    rw [← harr,← hasz];simp only [List.size_toArray,List.length_append,List.length_take,List.length_drop,Array.length_toList,strCells_length,size_mk];omega
   obtain ⟨he,hs'⟩:=hs.write (c':=.cells e 1 (brows (l++s))) ho hob (w.setRow b arr') (by simp) rfl rfl rfl (fun k hk=>setRow_other w b k arr' hk) (fun he=>by
    refine ⟨arr',setRow_heap w b arr arr' e (0,0) ha,hsize',by rw [hll]; omega,hrow,h1row,fun i j row c hr hcj=>?_⟩;obtain ⟨ch,hch,rfl⟩:=brows_get hr
    match j,hcj with
    | 0,hcj =>
     cases hcj;refine ⟨.int .u8 ch.toNat,?_,.int _ _⟩;simp only [Nat.mul_one,Nat.add_zero];by_cases hi:i < l.length
     ·rw [List.getElem?_append_left hi] at hch;rw [hlow _ hi];exact hold _ _ hch
     ·rw [List.getElem?_append_right (by omega)] at hch;have:=hmid _ _ hch
      rwa [show l.length + (i - l.length)=i by omega] at this
    | j + 1,hcj=>simp at hcj)
   refine ⟨_,_,g,o,hr,he,by rw [St.drop_set_self]; exact hs',?_,.inl rfl⟩;have:=R.msl (g:=g) (w:=w.setRow b arr') o 1 0 (l.length + s.length) cap b m hob hroom hmx (by simpa using hfit0);rw [List.length_append]
   simpa using this
  ·have holds:∀ (q:Nat) v,(strCells ⟨⟨l⟩⟩)[q]?=some v→w.cell? ((⟨b,0,none⟩:Addr).add q)=some v:=by
    intro q v hq;rw [strCells_mk,List.getElem?_map] at hq;cases hc':l[q]? with
    | none=>rw [hc'] at hq; cases hq
    | some c =>
     rw [hc'] at hq;cases hq;rw [addr_add,Nat.zero_add,cell_of_row w b _ arr e (0,0) ha];exact hold _ _ hc'
   have hr:=Lib.run_append_grow_string (P:=P) w t u ty e inf (.int .u8 0) hu.out hus.out i1 i4 ⟨b,0,none⟩ l.length cap (strCells ⟨⟨l⟩⟩) (by rw [strCells_length,i2,size_mk,Nat.mul_one]) holds ⟨⟨s⟩⟩ (by rw [size_mk]; omega) (by rw [size_mk]; omega)
    (growslice_fits (by rw [size_mk]; omega) (by rw [i3,size_mk]; omega))
   rw [size_mk] at hr;have hge:=grownCap_ge w (l.length + s.length) cap e
   have hgm:=grownCap_le_maxLen w (l.length + s.length) cap e hm;obtain ⟨hed,hsd⟩:=hs.draw;generalize hcp:grownCap w (l.length + s.length) cap e=cp at hr hge hgm;generalize harr:(strCells ⟨⟨l⟩⟩).toArray++(strCells ⟨⟨s⟩⟩).toArray++Builtin.zeroCells (Value.int IntKind.u8 0).cells (cp - (l.length + s.length))=arr' at hr;have hz1:(Value.int IntKind.u8 0).cells.size=1:=rfl
   have hsize':arr'.size=cp * 1:=by
    rw [← harr];simp only [Array.size_append,List.size_toArray,strCells_length,size_mk,size_zeroCells,hz1];omega
   obtain ⟨g',he,hs',hob',hnone⟩:=hsd.newObj (.cells arr' e) (.cells e 1 (brows (l++s))) (cp * 1) (fun g' he=>by
    refine ⟨arr',heap_alloc_new _ _,hsize',by rw [hll]; exact Nat.mul_le_mul_right _ hge,hrow,h1row,fun i j row c hr hcj=>?_⟩;obtain ⟨ch,hch,rfl⟩:=brows_get hr
    match j,hcj with
    | 0,hcj =>
     cases hcj;refine ⟨.int .u8 ch.toNat,?_,.int _ _⟩;simp only [Nat.mul_one,Nat.add_zero];have hi:i < (l++s).length:=(List.getElem?_eq_some_iff.1 hch).1;rw [List.length_append] at hi;have hap:(strCells ⟨⟨l⟩⟩).toArray++(strCells ⟨⟨s⟩⟩).toArray=(strCells ⟨⟨l⟩⟩++strCells ⟨⟨s⟩⟩).toArray:=by simp
     rw [← harr,hap,Array.getElem?_append_left (by simp only [List.size_toArray,List.length_append,strCells_length,size_mk]; exact hi),List.getElem?_toArray,strCells_mk,strCells_mk,← List.map_append,List.getElem?_map,hch];rfl
    | j + 1,hcj=>simp at hcj)
   have hne:g.next≠o:=fun e=>by rw [← e] at ho; rw [ho] at hnone; cases hnone
   refine ⟨_,_,g',g.next,hr,hed.trans he,?_,?_,.inr hnone⟩
   ·rw [St.set_drop hne];exact hs'.le (StLe.drop o)
   ·have:=R.msl (g:=g') (w:=w.drew.alloc (.cells arr' e)) g.next 1 0 (l.length + s.length) cp w.drew.heap.size (cp * 1) hob' hge hgm (by simp);rw [List.length_append]
    simpa using this
theorem aps {t u e:TypeId} [hu:Und P t (.slice e)] [hus:Und P u .string] [hie:Inf P e 1 1 (.int .u8 0)] {oo:Option Nat} {l s:List UInt8}
  (hg:goes ops n T ⟨dd,.call ⟨.builtin .append,#[x,y],#[t,u]⟩,ty,pos,es,gd⟩=some d) (hx:ev st T x=some (mslot 1 l.length oo)) (hy:ev st T y=some (.str s)) (hf:mfit st l.length oo) (hb:l.length + s.length≤140737488355328) (hne:∀ o',oo=some o'→l≠[])
  (k:∀ oo',mfit st (l++s).length oo'→(∀ o',oo'=some o'→l++s≠[])→AOps P n ops rest K E ((d,mslot 1 (l++s).length oo')::T) (mst st e 1 (brows (l++s)) oo')) :
  AOps P n ops (⟨dd,.call ⟨.builtin .append,#[x,y],#[t,u]⟩,ty,pos,es,gd⟩::rest) K E T (mst st e 1 (brows l) oo):=by
 cases oo with
 | none =>
  have hl:l=[]:=List.eq_nil_of_length_eq_zero hf;subst hl;refine AOps.stepAny hg fun g w a hs hk=>?_;have h1:=ev_R hs hk hx
  have h2:=ev_R hs hk hy;generalize hux:a.eval x=ux at h1;generalize huy:a.eval y=uy at h2;have hrv:ux=.slice none 0 0:=by
   cases h1 with
   | vnil=>rfl
   | vemp _ _ _ hn _=>exact absurd rfl hn
   | view _ _ _ _ _ _ _ _ _ _ _ ht'=>simp [TokAt] at ht'
  subst hrv;cases h2;by_cases h0:s=[]
  ·subst h0;have hr:(Builtin.append_ #[t,u] ty #[.slice none 0 0,.string ⟨⟨[]⟩⟩]).run P w=.ok (.slice none 0 0) w:=by
    obtain ⟨inf,i1,i2,i3,i4⟩:=hie.out;have hf:=Lib.run_firstCells_string (P:=P) w 1 ⟨⟨[]⟩⟩
    have hsz:(⟨⟨[]⟩⟩:ByteArray).size=0:=rfl;rw [hsz] at hf;simp [Builtin.append_,run_underlying hu.out,run_underlying hus.out,sizeOf,typeInfo,i1,i2,Builtin.lenOf,hsz,hf]
   exact ⟨.slice none 0 0,g,w,_,_,by simp [execOp,resolve,invoke,builtin,hux,huy,hr],.refl _ _,hs,.vnil _ .nil rfl,k none rfl (fun _ e=>by cases e)⟩
  ·obtain ⟨v,w',g',o',hr,he,hs',hR,hn⟩:=append_nil_str (P:=P) hs (t:=t) (u:=u) (e:=e) (ty:=ty) h0 (by simpa using hb);exact ⟨v,g',w',_,_,by simp [execOp,resolve,invoke,builtin,hux,huy,hr],he,hs',hR,k (some o') hn (fun _ _=>h0)⟩
 | some o =>
  have hfo:st.obj o=none:=hf
  have hx':ev (mst st e 1 (brows l) (some o)) T x=some (.msl o 1 0 l.length):=(ev_glob (s:=mst st e 1 (brows l) (some o)) (s':=st) rfl T x).trans hx
  have hy':ev (mst st e 1 (brows l) (some o)) T y=some (.str s):=(ev_glob (s:=mst st e 1 (brows l) (some o)) (s':=st) rfl T y).trans hy;refine AOps.stepAny hg fun g w a hs hk=>?_;have h1:=ev_R hs hk hx'
  have h2:=ev_R hs hk hy';generalize hux:a.eval x=ux at h1;generalize huy:a.eval y=uy at h2;cases h2;obtain ⟨v,w',g',o',hr,he,hs',hR,ho'⟩:=append_msl_str (P:=P) hs (t:=t) (u:=u) (e:=e) (ty:=ty) (s:=s) h1 (St.obj_set _ _ _) hb;have hn:st.obj o'=none:=by
   rcases ho' with h|h
   ·rw [h]; exact hfo
   ·by_cases e:o'=o
    ·rw [e]; exact hfo
    ·have h':(st.set o (.cells _ 1 (brows l))).obj o'=none:=h
     rwa [St.obj_set_ne e] at h'
  exact ⟨v,g',w',_,_,by simp [execOp,resolve,invoke,builtin,hux,huy,hr],he,hs'.le (StLe.regrow hfo),hR,k (some o') hn (fun _ _ e=>hne o rfl (List.append_eq_nil_iff.1 e).1)⟩

theorem eqQ_nil {w:World} {t pt:TypeId} (hu:P.underlying t=some (.pointer pt)) (k:Nat):(Op.equalIn (k + 1) t (.pointer none) (.pointer none)).run P w=.ok true w:=by
 simp [Op.equalIn,run_underlying hu]
theorem eqQ_some {w:World} {t pt:TypeId} (hu:P.underlying t=some (.pointer pt)) (k:Nat) (a:Addr):(Op.equalIn (k + 1) t (.pointer (some a)) (.pointer none)).run P w=.ok false w:=by
 simp [Op.equalIn,run_underlying hu]
theorem eqP {t u pt:TypeId} {v:AV} {b:Bool} [hq:Und P t (.pointer pt)] (hg:goes ops n T ⟨dd,.binOp .eql t x (.const (.pointer none)) u,ty,pos,es,gd⟩=some d)
  (hx:ev st T x=some v) (hv:(v=.lit (.pointer none)∧b=true)∨(∃ o s i j,v=.cptr o s i j∧b=false))
  (h:AOps P n ops rest K E ((d,.bool b)::T) st):AOps P n ops (⟨dd,.binOp .eql t x (.const (.pointer none)) u,ty,pos,es,gd⟩::rest) K E T st:=by
 have hu:=hq.out;obtain ⟨hw,hd,hok⟩:=goes_some hg;simp only at hd;subst hd;refine AOps.pure hw hok _ (fun g w a' hs hk=>?_) h;have h1:=ev_R hs hk hx;generalize hu':a'.eval x=u1 at h1;have hrun:∀ p b,(Op.equalIn (9999 + 1) t (.pointer p) (.pointer none)).run P w=.ok b w→a'.eval x=.pointer p →
   (execOp a'.eval ⟨some d,.binOp .eql t x (.const (.pointer none)) u,ty,pos,es,gd⟩).run P w=.ok (.value (.bool b)) w:=by
  intro p b e1 e4;show Sem.run P ((do eqGuard .eql t x (.const (.pointer none)) (a'.eval x) (.pointer none); binOp .eql t (a'.eval x) (.pointer none)) >>= fun z=>pure (Next.value z)) w=_;rw [e4];have e2:(eqGuard .eql t x (.const (.pointer none)) (.pointer p) (.pointer none)).run P w=.ok () w:=by unfold eqGuard; rfl
  simp only [Sem.run_bind,e2,Result.andThen_ok];have e3:binOp .eql t (.pointer p) (.pointer none)=(do pure (.bool (← Op.equal t (.pointer p) (.pointer none)))):=by cases p <;> rfl
  have e1':(Op.equal t (.pointer p) (.pointer none)).run P w=.ok b w:=e1;rw [e3];simp only [Sem.run_bind,e1',Result.andThen_ok];rfl
 rcases hv with ⟨rfl,rfl⟩|⟨o,s,i,j,rfl,rfl⟩
 ·cases h1;exact ⟨.bool true,hrun none true (eqQ_nil hu 9999) hu',.bool _⟩
 ·cases h1;exact ⟨.bool false,hrun _ false (eqQ_some hu 9999 _) hu',.bool _⟩
theorem neQ {t u pt:TypeId} {o s i j:Nat} [hq:Und P t (.pointer pt)] {sz by_:Nat} {zz:Value} [hi:Inf P pt sz by_ zz] (hg:goes ops n T ⟨dd,.binOp .neq t x y u,ty,pos,es,gd⟩=some d)
  (hx:ev st T x=some (.cptr o s i j)) (hy:ev st T y=some (.cptr o s i j))
  (h:AOps P n ops rest K E ((d,.bool false)::T) st):AOps P n ops (⟨dd,.binOp .neq t x y u,ty,pos,es,gd⟩::rest) K E T st:=by
 obtain ⟨inf,i1,_⟩:=hi.out;obtain ⟨hw,hd,hok⟩:=goes_some hg;simp only at hd;subst hd;refine AOps.pure hw hok _ (fun g w a' hs hk=>?_) h;have h1:=ev_R hs hk hx
 have h2:=ev_R hs hk hy;generalize hu':a'.eval x=u1 at h1;generalize hv':a'.eval y=u2 at h2;cases h1 with
 | cptr _ _ _ _ b m hb =>
  cases h2 with
  | cptr _ _ _ _ b' m' hb' =>
   rw [hb] at hb';cases hb';refine ⟨.bool false,?_,.bool _⟩;show Sem.run P ((do eqGuard .neq t x y (a'.eval x) (a'.eval y); binOp .neq t (a'.eval x) (a'.eval y)) >>= fun z=>pure (Next.value z)) w=_;rw [hu',hv'];have e2:(eqGuard .neq t x y (.pointer (some ⟨b,i * s + j,none⟩)) (.pointer (some ⟨b,i * s + j,none⟩))).run P w=.ok () w:=by unfold eqGuard; rfl
   simp only [Sem.run_bind,e2,Result.andThen_ok];rw [Lib.run_neq_ptr_same w ⟨b,i * s + j,none⟩ hq.out i1];rfl
theorem lies_of {e u:TypeId} {c:Nat} (hc:1≤c) (h:liesAt P P.depth e 1 0 u 1=true) (hu:∀ m u',P.underlying u≠some (.array m u')):liesAt P P.depth e c 0 u 1=true:=by
 have hd:P.depth=(2 * (P.types.size + Made.depth) + 1) + 1:=rfl;rw [hd] at h ⊢;unfold liesAt at h ⊢;have key:rowAt P (sameLayout P P.depth · u) P.depth e 1 0 1=true→rowAt P (sameLayout P P.depth · u) P.depth e c 0 1=true:=by
  intro h;rw [hd] at h ⊢;unfold rowAt at h ⊢;simp only [Nat.zero_div,Nat.zero_mod,Nat.zero_add,Nat.le_refl,decide_true,Nat.zero_lt_one,hc,show 0 < c by omega] at h ⊢;exact h
 cases hou:P.underlying u with
 | none =>
  simp only [hou,Bool.or_false] at h ⊢;exact key h
 | some td =>
  cases td <;> first|exact absurd hou (hu _ _)|(simp only [hou,Bool.or_false] at h ⊢; exact key h)
def plain2 (P:Program) (u:TypeId):Bool:=match P.underlying u with|some (.array _ _)=>false|_=>true
theorem cvU {src dst t:TypeId} {o s:Nat} [hs:Und P src (.pointer t)] [hd:Und P dst .unsafePointer] {sz by_:Nat} {zz:Value} [hi:Inf P t (sz + 1) by_ zz] {oty:TypeId} {row:List AV} {rows:List (List AV)}
  (hg:goes ops n T ⟨dd,.convert src dst x,ty,pos,es,gd⟩=some d) (hx:ev st T x=some (.cptr o (s + 1) 0 0)) (ho:st.obj o=some (.cells oty (s + 1) (row::rows)))
  (h:AOps P n ops rest K E ((d,.cptr o (s + 1) 0 0)::T) st):AOps P n ops (⟨dd,.convert src dst x,ty,pos,es,gd⟩::rest) K E T st:=by
 obtain ⟨inf,i1,i2,_⟩:=hi.out;obtain ⟨hw,hdd,hok⟩:=goes_some hg;simp only at hdd;subst hdd;refine AOps.pure hw hok _ (fun g w a' hs' hk=>?_) h;have h1:=ev_R hs' hk hx;generalize hu':a'.eval x=u1 at h1;cases h1 with
 | cptr _ _ _ _ b m hb =>
  obtain ⟨_,⟨arr,ha,hasz,hml,_⟩,_⟩:=hs'.objOf ho hb;refine ⟨.pointer (some ⟨b,0 * (s + 1) + 0,none⟩),?_,.cptr _ _ _ _ _ _ hb⟩;show Sem.run P (convert src dst (a'.eval x) >>= fun z=>pure (Next.value z)) w=_;rw [hu'];simp only [List.length_cons] at hml;have h2:(s + 1)≤m:=Nat.le_trans (by rw [Nat.add_mul,Nat.one_mul]; exact Nat.le_add_left _ _) hml
  have hr:=Lib.run_to_unsafe (P:=P) w (e:=oty) (cells:=arr.size) ⟨b,0 * (s + 1) + 0,none⟩ hs.out hd.out i1 (by rw [i2]; exact Nat.succ_ne_zero _) (by simp [World.shape?,ha]) (by rw [hasz]; simp only [Nat.zero_mul,Nat.add_zero]; omega);simp only [Sem.run_bind,hr,Result.andThen_ok];rfl
theorem cvP {src dst t:TypeId} {o s:Nat} [hs:Und P src .unsafePointer] [hd:Und P dst (.pointer t)] {sz by_:Nat} {zz:Value} [hi:Inf P t (sz + 1) by_ zz] {oty:TypeId} {row:List AV} {rows:List (List AV)}
  (hg:goes ops n T ⟨dd,.convert src dst x,ty,pos,es,gd⟩=some d) (hx:ev st T x=some (.cptr o (s + 1) 0 0)) (ho:st.obj o=some (.cells oty (s + 1) (row::rows))) (hp:plain2 P t=true) (hl:liesAt P P.depth oty 1 0 t 1=true) (hc:Nat.beq (P.cellsOf oty) (s + 1)=true)
  (h:AOps P n ops rest K E ((d,.cptr o (s + 1) 0 0)::T) st):AOps P n ops (⟨dd,.convert src dst x,ty,pos,es,gd⟩::rest) K E T st:=by
 obtain ⟨inf,i1,i2,_⟩:=hi.out;obtain ⟨hw,hdd,hok⟩:=goes_some hg;simp only at hdd;subst hdd;refine AOps.pure hw hok _ (fun g w a' hs' hk=>?_) h;have h1:=ev_R hs' hk hx;generalize hu':a'.eval x=u1 at h1;cases h1 with
 | cptr _ _ _ _ b m hb =>
  obtain ⟨_,⟨arr,ha,hasz,hml,_⟩,_⟩:=hs'.objOf ho hb;refine ⟨.pointer (some ⟨b,0 * (s + 1) + 0,none⟩),?_,.cptr _ _ _ _ _ _ hb⟩;show Sem.run P (convert src dst (a'.eval x) >>= fun z=>pure (Next.value z)) w=_;rw [hu'];simp only [List.length_cons] at hml;have h2:(s + 1)≤m:=Nat.le_trans (by rw [Nat.add_mul,Nat.one_mul]; exact Nat.le_add_left _ _) hml
  have hc':=Nat.eq_of_beq_eq_true hc
  have hle:1≤arr.size / P.cellsOf oty:=by rw [hc',hasz]; exact (Nat.le_div_iff_mul_le (Nat.succ_pos s)).2 (by rw [Nat.one_mul]; exact h2)
  have hlies:=lies_of (P:=P) hle hl (fun m u' e=>by unfold plain2 at hp; rw [e] at hp; cases hp)
  have hr:=Lib.run_from_unsafe (P:=P) w (e:=oty) (cells:=arr.size) ⟨b,0 * (s + 1) + 0,none⟩ hs.out hd.out i1 (by simp [World.shape?,ha]) (by simpa using hlies);simp only [Sem.run_bind,hr,Result.andThen_ok];rfl
class SameFun (P:Program) (f:FuncId):Prop where
 out : ∃ fn, P.funcs[f]? = some fn ∧ (fn.name == "runtime.NumGoroutine") = false ∧ fn.body.isNone = true ∧ Extern.findNext fn = none ∧ Extern.find fn = some Extern.AbiNoEscape.same
theorem clE {f:FuncId} [hf:SameFun P f] {tys:Array TypeId} {v:AV}
  (hg:goes ops n T ⟨dd,.call ⟨.value (.func f),#[x],tys⟩,ty,pos,es,gd⟩=some d) (hx:ev st T x=some v)
  (h:AOps P n ops rest K E ((d,v)::T) st):AOps P n ops (⟨dd,.call ⟨.value (.func f),#[x],tys⟩,ty,pos,es,gd⟩::rest) K E T st:=by
 obtain ⟨fn,f1,f2,f3,f4,f5⟩:=hf.out;obtain ⟨hw,hd,hok⟩:=goes_some hg;simp only at hd;subst hd;refine AOps.pure hw hok _ (fun g w a' hs hk=>⟨a'.eval x,?_,ev_R hs hk hx⟩) h;have hr:=run_callFunc_extern (P:=P) f1 f2 f3 f4 f5 #[a'.eval x] w;rw [Lib.run_noEscape] at hr;have f2' : ¬ fn.name = "runtime.NumGoroutine" := by simpa using f2
 have f3':fn.body=none:=by simpa using f3
 rw [callFunc] at hr;simp [f1,f2',f3',f4,f5] at hr;simp [execOp,resolve,Act.eval,Deferred.ofValue,invoke,callFunc,f1,f2',f3',f4,f5] at hr ⊢;exact hr
def sdv (oo:Option Nat):AV:=match oo with|none=>.lit (.pointer none)|some o=>.cptr o 1 0 0
theorem sdt {t:TypeId} {oo:Option Nat} {l:List UInt8} (hg:goes ops n T ⟨dd,.call ⟨.builtin .unsafeSliceData,#[x],#[t]⟩,ty,pos,es,gd⟩=some d) (hx:ev st T x=some (mslot 1 l.length oo)) (h0:∀ o,oo=some o→l≠[])
  (h:AOps P n ops rest K E ((d,sdv oo)::T) st):AOps P n ops (⟨dd,.call ⟨.builtin .unsafeSliceData,#[x],#[t]⟩,ty,pos,es,gd⟩::rest) K E T st:=by
 obtain ⟨hw,hd,hok⟩:=goes_some hg;simp only at hd;subst hd;refine AOps.pure hw hok _ (fun g w a' hs hk=>?_) h;have h1:=ev_R hs hk hx;generalize hu':a'.eval x=u1 at h1;cases oo with
 | none =>
  have hrv:u1=.slice none 0 0:=by
   cases h1 with
   | vnil=>rfl
   | vemp _ _ _ hn _=>exact absurd rfl hn
   | view _ _ _ _ _ _ _ _ _ _ _ ht'=>simp [TokAt] at ht'
  subst hrv;exact ⟨.pointer none,by simp [execOp,resolve,invoke,builtin,hu',Lib.run_unsafeSliceData_nil],.lit _⟩
 | some o =>
  cases h1 with
  | msl _ _ _ _ cap b m hb hc hm hs =>
   have:l.length≠0:=fun e=>h0 o rfl (List.eq_nil_of_length_eq_zero e);exact ⟨.pointer (some ⟨b,0 * 1,none⟩),by simp [execOp,resolve,invoke,builtin,hu',Lib.run_unsafeSliceData_row _ _ _ _ _ cap (by omega)],.cptr o 1 0 0 b m hb⟩
end
end Go.AM
namespace Go.AM
open Go.RowKit (Below)
section
variable {P:Program} {n:Nat} {K:Post} {E:EPost} {T:Tmps} {st:St} {ops:Array Oper} {rest:List Oper}
variable {ty:TypeId} {pos:String} {es:Array Edge} {gd:Option (Nat × Bool)} {d:Tmp} {x y:Operand} {dd:Option Tmp}
theorem frz_heap (w:World) (b n k:Nat) (h:k≠b):(w.freeze ⟨b,0,none⟩ n).heap[k]?=w.heap[k]?:=by
 unfold World.freeze;split
 ·rfl
 ·simp only [Array.getElem?_modify];rw [if_neg (Ne.symm h)]
theorem frz_size (w:World) (b n:Nat):(w.freeze ⟨b,0,none⟩ n).heap.size=w.heap.size:=by
 unfold World.freeze;split
 ·rfl
 ·simp
theorem frz_cell (w:World) (b n:Nat) (a:Addr):(w.freeze ⟨b,0,none⟩ n).cell? a=w.cell? a:=by
 unfold World.freeze;split
 ·rfl
 ·unfold World.cell?;simp only [Array.getElem?_modify];by_cases h:b=a.block
  ·rw [if_pos h];cases w.heap[a.block]? with
   | none=>rfl
   | some o =>
    cases o <;> rfl
  ·rw [if_neg h]
theorem Sim.frozenObj {g:G} {w:World} (hs:Sim g w st) {o b m:Nat} {c:AObj} (ho:st.obj o=some c) (hb:g.obj o=some (b,m)) (n:Nat) :
  Ext g w g (w.freeze ⟨b,0,none⟩ n)∧Sim g (w.freeze ⟨b,0,none⟩ n) (st.drop o):=by
 obtain ⟨hbase,_,_⟩:=hs.objOf ho hb;have he:Ext g w g (w.freeze ⟨b,0,none⟩ n):=⟨rfl,Nat.le_refl _,fun _ _ h=>h,fun b' i _=>frz_cell w b n _,fun _ _ h=>h,fun _ _ h=>h,Lib.below_freeze (Below.refl _ _) hbase n⟩
 have hdrop:∀ o2 c2,(st.drop o).obj o2=some c2→o2≠o∧st.obj o2=some c2:=fun o2 c2 h=>by
  by_cases e:o2=o
  ·subst e;simp [St.drop] at h
  ·exact ⟨e,by rwa [St.obj_drop_ne e] at h⟩
 refine ⟨he,?_⟩;refine ⟨by rw [frz_size]; exact hs.base,fun o2 c2 h=>?_,fun o1 o2 c1 c2 b1 m1 m2 h1 h2=>hs.inj o1 o2 c1 c2 b1 m1 m2 (hdrop _ _ h1).2 (hdrop _ _ h2).2,fun t ht=>?_,fun t o2 c2 b2 r m2 ht h=>hs.tobj t o2 c2 b2 r m2 ht (hdrop _ _ h).2,hs.tinj,fun b i h=>by rw [frz_size]; exact hs.immlt b i h,fun o b m h=>by rw [frz_size]; exact hs.objlt o b m h,
  fun t b r h=>by rw [frz_size]; exact hs.toklt t b r h,hs.fresh,fun gi row h=>(hs.globs gi row h).ext he⟩
 ·obtain ⟨hne,h2⟩:=hdrop o2 c2 h;obtain ⟨b2,m2,k1,k2,k3,k4⟩:=hs.objs o2 c2 h2;refine ⟨b2,m2,k1,k2,k3.mono he (frz_heap w b n b2 fun e=>hne ?_),k4⟩;subst e;exact hs.inj o2 o c2 c b2 m2 m h2 ho k1 hb
 ·obtain ⟨⟨b',len,cap,e,size⟩,k1,k2⟩:=hs.toks t ht;refine ⟨_,k1,?_⟩;cases b' with
  | none=>exact k2
  | some b' =>
   obtain ⟨a1,a2,a3,a4,⟨cur,a5,a6⟩,a7⟩:=k2;have hne:b'≠b:=fun e=>by
    subst e;exact hs.tobj t o c b' _ m ht ho k1 hb
   exact ⟨a1,a2,a3,a4,⟨cur,(frz_heap w b n b' hne).trans a5,a6⟩,a7⟩
theorem ust {pt it e:TypeId} [hp:Und P pt (.pointer e)] {oo:Option Nat} {l:List UInt8} (hc:Nat.beq (P.cellsOf e) 1=true)
  (hg:goes ops n T ⟨dd,.call ⟨.builtin .unsafeString,#[x,y],#[pt,it]⟩,ty,pos,es,gd⟩=some d) (hx:ev st T x=some (sdv oo)) (hy:ev st T y=some (.int .i64 l.length)) (hf:mfit st l.length oo) (h0:∀ o,oo=some o→l≠[])
  (hm:l.length≤140737488355328) (k:AOps P n ops rest K E ((d,.str l)::T) st) :
  AOps P n ops (⟨dd,.call ⟨.builtin .unsafeString,#[x,y],#[pt,it]⟩,ty,pos,es,gd⟩::rest) K E T (mst st e 1 (brows l) oo):=by
 cases oo with
 | none =>
  have hl:l=[]:=List.eq_nil_of_length_eq_zero hf;subst hl;refine AOps.stepAny hg fun g w a hs hk=>?_;have h1:=ev_R hs hk hx
  have h2:=ev_R hs hk hy;generalize hux:a.eval x=ux at h1;generalize huy:a.eval y=uy at h2;cases h1;cases h2;exact ⟨.string .empty,g,w,_,_,by
   have hr:=Lib.run_unsafeString_none (P:=P) w pt it ty none;simp only [execOp,resolve,invoke,builtin,List.map_toArray,List.map_cons,List.map_nil,hux,huy,Sem.run_bind,Sem.run_pure,Result.andThen_ok];simp only [List.length_nil];rw [show ((0:Nat):Int)=0 from rfl,hr];rfl,.refl _ _,hs,.str [],k⟩
 | some o =>
  have hfo:st.obj o=none:=hf
  have hx':ev (mst st e 1 (brows l) (some o)) T x=some (.cptr o 1 0 0):=(ev_glob (s:=mst st e 1 (brows l) (some o)) (s':=st) rfl T x).trans hx
  have hy':ev (mst st e 1 (brows l) (some o)) T y=some (.int .i64 l.length):=(ev_glob (s:=mst st e 1 (brows l) (some o)) (s':=st) rfl T y).trans hy;refine AOps.stepAny hg fun g w a hs hk=>?_;have h1:=ev_R hs hk hx'
  have h2:=ev_R hs hk hy';generalize hux:a.eval x=ux at h1;generalize huy:a.eval y=uy at h2;cases h2;cases h1 with
  | cptr _ _ _ _ b m hb =>
   have ho:(mst st e 1 (brows l) (some o)).obj o=some (.cells e 1 (brows l)):=St.obj_set _ _ _;obtain ⟨_,⟨arr,ha,hasz,hml,_,_,hcell⟩,_⟩:=hs.objOf ho hb;obtain ⟨he,hs'⟩:=hs.frozenObj ho hb l.length;have hle:StLe ((mst st e 1 (brows l) (some o)).drop o) st:=⟨fun p c hpc=>by
    by_cases hpo:p=o
    ·rw [hpo,hfo] at hpc; cases hpc
    ·rw [St.obj_drop_ne hpo];exact (St.obj_set_ne hpo).trans hpc,fun _ h=>h,rfl⟩
   rw [brows_len,Nat.mul_one] at hml;have hr:=Lib.run_unsafeString_row (P:=P) w pt it ty e hp.out (Nat.eq_of_beq_eq_true hc) b arr.size (by simp [World.shape?,ha]) l (h0 o rfl) (by omega) (by omega) (fun j c hj=>by
    obtain ⟨v,hv1,hv2⟩:=hcell j 0 [.int .u8 (c.toNat:Int)] (.int .u8 (c.toNat:Int)) (by unfold brows; rw [List.getElem?_map,hj]; rfl) rfl;cases hv2;rw [addr_add,Nat.zero_add,cell_of_row w b _ arr e (0,0) ha]
    simpa using hv1)
   exact ⟨.string ⟨l.toArray⟩,g,_,_,_,by
    simp only [execOp,resolve,invoke,builtin,List.map_toArray,List.map_cons,List.map_nil,hux,huy,Sem.run_bind,Sem.run_pure,Result.andThen_ok];rw [show 0 * 1 + 0=0 from rfl,hr];rfl,he,hs'.le hle,.str l,k⟩
end
end Go.AM
namespace Go.AM
structure Hd (R:Prop):Prop where
 out:R
theorem goC {P R:Prop} (z:R) (h:Hd R→P:=by intro z; (repeat (first|refine nl ?_|refine AWP.seq ?_|refine AWP.skip ?_|refine AWP.block ?_)); exact z.out):P:=h ⟨z⟩
theorem goD {P R:Prop} (z:R) (h:Hd R→P:=by intro z; (repeat (first|refine nl ?_|refine AWP.seq ?_|refine rg ?_|refine AWP.skip ?_|refine AWP.block ?_|refine YH (z:=?_)|refine YI (z:=?_)|refine ZA (z:=?_)|refine ZB (z:=?_)|refine ZC (z:=?_)|refine ZD (z:=?_)|refine ZE (z:=?_)|refine ZF (z:=?_)|refine ZJ (z:=?_)|refine ZL (z:=?_)|refine ZM (z:=?_)|refine ZH (z:=?_)|refine ZO (z:=?_)|refine ZQ (z:=?_)|refine ZR (z:=?_)|refine YA (z:=?_)|refine YB (z:=?_)|refine YC (z:=?_)|refine YD (z:=?_)|refine YE (z:=?_))); exact z.out):P:=h ⟨z⟩
theorem goE {P R:Prop} (z:R) (h:Hd R→P:=by intro z; (repeat (first|refine ZA (z:=?_)|refine ZB (z:=?_)|refine ZC (z:=?_)|refine ZD (z:=?_)|refine ZE (z:=?_)|refine ZF (z:=?_)|refine ZJ (z:=?_)|refine ZL (z:=?_)|refine ZM (z:=?_)|refine ZH (z:=?_)|refine ZO (z:=?_)|refine ZQ (z:=?_)|refine ZR (z:=?_)|refine YA (z:=?_)|refine YB (z:=?_)|refine YC (z:=?_)|refine YD (z:=?_)|refine YE (z:=?_))); exact z.out):P:=h ⟨z⟩
theorem goF {P R:Prop} (z:R) (h:Hd R→P:=by intro z; (repeat (first|refine ds rfl rfl ?_|refine dp (h:=fun _ _=>ZD (z:=nz)) (z:=?_)|refine dp (h:=fun _ _=>ZE (z:=nz)) (z:=?_)|refine dp (h:=fun _ _=>ZF (z:=nz)) (z:=?_)|refine dp (h:=fun _ _=>ZC (z:=nz)) (z:=?_)|refine dp (h:=fun _ _=>ZJ (z:=nz)) (z:=?_)|refine dp (h:=fun _ _=>ZL (z:=nz)) (z:=?_)|refine dp (h:=fun _ _=>ZM (z:=nz)) (z:=?_)|refine dp (h:=fun _ _=>ZH (z:=nz)) (z:=?_)|refine dp (h:=fun _ _=>ZQ (z:=nz)) (z:=?_)|refine dp (h:=fun _ _=>ZO (z:=nz)) (z:=?_)|refine dp (h:=fun _ _=>YC (z:=nz)) (z:=?_)|refine dp (h:=fun _ _=>YJ (z:=nz)) (z:=?_)|refine dp (h:=fun _ _=>YK (z:=nz)) (z:=?_))); exact z.out):P:=h ⟨z⟩
theorem goG {P R:Prop} (z:R) (h:Hd R→P:=by intro z; (repeat (first|refine dq (v:=.bool true) rfl rfl rfl (fun st1 hle=>sm rfl (nl ⟨_,rfl,congrArg AV.bool (by (fail_if_success rfl); first|assumption|exact decide_eq_true (by assumption)|exact decide_eq_false (by assumption)|exact decide_eq_true rfl|exact decide_eq_true (by omega)|exact decide_eq_false (by omega)),rfl⟩)) ?_|refine dq (v:=.bool false) rfl rfl rfl (fun st1 hle=>sm rfl (nl ⟨_,rfl,congrArg AV.bool (by (fail_if_success rfl); first|assumption|exact decide_eq_true (by assumption)|exact decide_eq_false (by assumption)|exact decide_eq_true rfl|exact decide_eq_true (by omega)|exact decide_eq_false (by omega)),rfl⟩)) ?_|refine ds rfl rfl ?_|refine dp (h:=fun _ _=>ZD (z:=nz)) (z:=?_)|refine dp (h:=fun _ _=>ZE (z:=nz)) (z:=?_)|refine dp (h:=fun _ _=>ZF (z:=nz)) (z:=?_)|refine dp (h:=fun _ _=>ZC (z:=nz)) (z:=?_)|refine dp (h:=fun _ _=>ZJ (z:=nz)) (z:=?_)|refine dp (h:=fun _ _=>ZL (z:=nz)) (z:=?_)|refine dp (h:=fun _ _=>ZM (z:=nz)) (z:=?_)|refine dp (h:=fun _ _=>ZH (z:=nz)) (z:=?_)|refine dp (h:=fun _ _=>ZQ (z:=nz)) (z:=?_)|refine dp (h:=fun _ _=>ZO (z:=nz)) (z:=?_)|refine dp (h:=fun _ _=>YC (z:=nz)) (z:=?_)|refine dp (h:=fun _ _=>YJ (z:=nz)) (z:=?_)|refine dp (h:=fun _ _=>YK (z:=nz)) (z:=?_))); exact z.out):P:=h ⟨z⟩
theorem goA {P R:Prop} (z:R) (h:Hd R→P:=by intro z; (repeat (first|refine nl ?_|refine AWP.seq ?_|refine rg ?_|refine AWP.skip ?_|refine AWP.block ?_|refine sm rfl ?_|refine uw rfl ?_|refine fa rfl rfl ?_|refine leW rfl rfl rfl rfl rfl ?_|refine leW rfl rfl rfl (by assumption) rfl ?_|refine lcW rfl rfl rfl (St.obj_set _ _ _) rfl rfl ?_|refine le rfl rfl rfl rfl ?_|refine le rfl rfl (by assumption) rfl ?_|refine lnv rfl rfl ?_|refine lnm rfl rfl ?_|refine lns rfl rfl ?_|refine ix rfl rfl rfl rfl (by assumption) ?_|refine ixm rfl rfl rfl rfl (by assumption) ?_|refine ix (m:=0) rfl rfl rfl rfl (of_decide_eq_true rfl) ?_|refine ix (m:=1) rfl rfl rfl rfl (of_decide_eq_true rfl) ?_|refine ix (m:=2) rfl rfl rfl rfl (of_decide_eq_true rfl) ?_|refine ix (m:=3) rfl rfl rfl rfl (of_decide_eq_true rfl) ?_|refine ix (m:=4) rfl rfl rfl rfl (of_decide_eq_true rfl) ?_|refine ix (m:=5) rfl rfl rfl rfl (of_decide_eq_true rfl) ?_|refine ix (m:=6) rfl rfl rfl rfl (of_decide_eq_true rfl) ?_|refine lc rfl rfl (St.obj_set _ _ _) rfl rfl ?_|refine lc rfl rfl (St.obj_set _ _ _) (by assumption) rfl ?_|refine lc rfl rfl (by assumption) rfl rfl ?_|refine lc rfl rfl (by assumption) (by assumption) rfl ?_|refine inc rfl rfl rfl (by omega) ?_|refine adn rfl rfl rfl (by omega) ?_|refine bs1 rfl rfl rfl rfl rfl rfl ?_|refine bxe rfl rfl rfl rfl ?_|refine sx rfl rfl rfl rfl (by assumption) ?_|refine ssl rfl rfl rfl (by omega) ?_|refine ssh rfl rfl rfl (by omega) ?_)); exact z.out):P:=h ⟨z⟩
theorem goB {P R:Prop} (z:R) (h:Hd R→P:=by intro z; (repeat (first|refine sm rfl ?_|refine uw rfl ?_|refine fa rfl rfl ?_|refine leW rfl rfl rfl rfl rfl ?_|refine leW rfl rfl rfl (by assumption) rfl ?_|refine lcW rfl rfl rfl (St.obj_set _ _ _) rfl rfl ?_|refine le rfl rfl rfl rfl ?_|refine le rfl rfl (by assumption) rfl ?_|refine lnv rfl rfl ?_|refine lnm rfl rfl ?_|refine lns rfl rfl ?_|refine ix rfl rfl rfl rfl (by assumption) ?_|refine ixm rfl rfl rfl rfl (by assumption) ?_|refine ix (m:=0) rfl rfl rfl rfl (of_decide_eq_true rfl) ?_|refine ix (m:=1) rfl rfl rfl rfl (of_decide_eq_true rfl) ?_|refine ix (m:=2) rfl rfl rfl rfl (of_decide_eq_true rfl) ?_|refine ix (m:=3) rfl rfl rfl rfl (of_decide_eq_true rfl) ?_|refine ix (m:=4) rfl rfl rfl rfl (of_decide_eq_true rfl) ?_|refine ix (m:=5) rfl rfl rfl rfl (of_decide_eq_true rfl) ?_|refine ix (m:=6) rfl rfl rfl rfl (of_decide_eq_true rfl) ?_|refine lc rfl rfl (St.obj_set _ _ _) rfl rfl ?_|refine lc rfl rfl (St.obj_set _ _ _) (by assumption) rfl ?_|refine lc rfl rfl (by assumption) rfl rfl ?_|refine lc rfl rfl (by assumption) (by assumption) rfl ?_|refine inc rfl rfl rfl (by omega) ?_|refine adn rfl rfl rfl (by omega) ?_|refine bs1 rfl rfl rfl rfl rfl rfl ?_|refine bxe rfl rfl rfl rfl ?_|refine sx rfl rfl rfl rfl (by assumption) ?_|refine ssl rfl rfl rfl (by omega) ?_|refine ssh rfl rfl rfl (by omega) ?_)); exact z.out):P:=h ⟨z⟩
theorem LL {P:Prop} (h:P:=by (try simp only [List.length_append,List.length_cons,List.length_nil]); omega):P:=h
end Go.AM
namespace Go.Proofs
open Go.AM
instance Tryz.tinf3:Inf Tryz.prog 3 1 8 (.int .i64 0):=⟨by kernel_rfl⟩
instance Tryz.tinf4:Inf Tryz.prog 4 1 1 (.bool false):=⟨by kernel_rfl⟩
instance Tryz.tinf5:Inf Tryz.prog 5 1 1 (.int .u8 0):=⟨by kernel_rfl⟩
instance Tryz.tinf9:Inf Tryz.prog 9 1 16 (.string ⟨#[]⟩):=⟨by kernel_rfl⟩
instance Tryz.tinf22:Inf Tryz.prog 22 1 24 (.slice none 0 0):=⟨by kernel_rfl⟩
instance Tryz.tinf25:Inf Tryz.prog 25 1 24 (.slice none 0 0):=⟨by kernel_rfl⟩
instance Tryz.tinf26:Inf Tryz.prog 26 1 24 (.slice none 0 0):=⟨by kernel_rfl⟩
instance Tryz.tinf28:Inf Tryz.prog 28 2 48 (.agg #[.slice none 0 0,.slice none 0 0]):=⟨by kernel_rfl⟩
instance Tryz.tinf29:Inf Tryz.prog 29 1 8 (.int .i64 0):=⟨by kernel_rfl⟩
instance Tryz.tinf33:Inf Tryz.prog 33 1 24 (.slice none 0 0):=⟨by kernel_rfl⟩
instance Tryz.tinf34:Inf Tryz.prog 34 1 24 (.slice none 0 0):=⟨by kernel_rfl⟩
instance Tryz.tinf36:Inf Tryz.prog 36 4 72 (.agg #[.string ⟨#[]⟩,.int .i64 0,.slice none 0 0,.slice none 0 0]):=⟨by kernel_rfl⟩
instance Tryz.tinf39:Inf Tryz.prog 39 1 24 (.slice none 0 0):=⟨by kernel_rfl⟩
instance Tryz.tinf41:Inf Tryz.prog 41 13 192 (.agg #[.int .i64 0,.int .i64 0,.int .i64 0,.string ⟨#[]⟩,.string ⟨#[]⟩,.int .i64 0,.int .i64 0,.slice none 0 0,.string ⟨#[]⟩,.int .i64 0,.slice none 0 0,.slice none 0 0,.slice none 0 0]):=⟨by kernel_rfl⟩
instance Tryz.tinf50:Inf Tryz.prog 50 1 24 (.slice none 0 0):=⟨by kernel_rfl⟩
instance Tryz.tinf54:Inf Tryz.prog 54 2 16 (.agg #[.int .i64 0,.int .i64 0]):=⟨by kernel_rfl⟩
instance Tryz.tinf58:Inf Tryz.prog 58 2 32 (.agg #[.slice none 0 0,.int .i64 0]):=⟨by kernel_rfl⟩
instance Tryz.tinf60:Inf Tryz.prog 60 2 40 (.agg #[.string ⟨#[]⟩,.slice none 0 0]):=⟨by kernel_rfl⟩
instance Tryz.tinf64:Inf Tryz.prog 64 4 40 (.agg #[.int .i64 0,.int .i64 0,.string ⟨#[]⟩,.int .i64 0]):=⟨by kernel_rfl⟩
instance Tryz.tinf72:Inf Tryz.prog 72 1 8 (.pointer none):=⟨by kernel_rfl⟩
instance Tryz.tinf73:Inf Tryz.prog 73 1 24 (.slice none 0 0):=⟨by kernel_rfl⟩
instance Tryz.tinf75:Inf Tryz.prog 75 2 32 (.agg #[.pointer none,.slice none 0 0]):=⟨by kernel_rfl⟩
instance Tryz.tinf77:Inf Tryz.prog 77 2 32 (.agg #[.pointer none,.slice none 0 0]):=⟨by kernel_rfl⟩
instance Tryz.tinf86:Inf Tryz.prog 86 1 8 (.pointer none):=⟨by kernel_rfl⟩
instance Tryz.tinf88:Inf Tryz.prog 88 2 32 (.agg #[.slice none 0 0,.int .i64 0]):=⟨by kernel_rfl⟩
instance Tryz.tinf92:Inf Tryz.prog 92 9 136 (.agg #[.pointer none,.int .i64 0,.int .i64 0,.slice none 0 0,.slice none 0 0,.slice none 0 0,.slice none 0 0,.int .i64 0,.int .i64 0]):=⟨by kernel_rfl⟩
instance Tryz.tinf95:Inf Tryz.prog 95 6 80 (.agg #[.int .i64 0,.int .i64 0,.int .i64 0,.string ⟨#[]⟩,.string ⟨#[]⟩,.slice none 0 0]):=⟨by kernel_rfl⟩
instance Tryz.tinf97:Inf Tryz.prog 97 1 8 (.map none):=⟨by kernel_rfl⟩
instance Tryz.tinf99:Inf Tryz.prog 99 4 40 (.agg #[.string ⟨#[]⟩,.int .i64 0,.int .i64 0,.map none]):=⟨by kernel_rfl⟩
instance Tryz.tinf100:Inf Tryz.prog 100 12 192 (.agg #[.string ⟨#[]⟩,.string ⟨#[]⟩,.string ⟨#[]⟩,.string ⟨#[]⟩,.string ⟨#[]⟩,.string ⟨#[]⟩,.string ⟨#[]⟩,.string ⟨#[]⟩,.string ⟨#[]⟩,.string ⟨#[]⟩,.string ⟨#[]⟩,.string ⟨#[]⟩]):=⟨by kernel_rfl⟩
instance Tryz.tinf135:Inf Tryz.prog 135 24 384 (.agg #[.string ⟨#[]⟩,.string ⟨#[]⟩,.string ⟨#[]⟩,.string ⟨#[]⟩,.string ⟨#[]⟩,.string ⟨#[]⟩,.string ⟨#[]⟩,.string ⟨#[]⟩,.string ⟨#[]⟩,.string ⟨#[]⟩,.string ⟨#[]⟩,.string ⟨#[]⟩,.string ⟨#[]⟩,.string ⟨#[]⟩,.string ⟨#[]⟩,.string ⟨#[]⟩,.string ⟨#[]⟩,.string ⟨#[]⟩,.string ⟨#[]⟩,.string ⟨#[]⟩,.string ⟨#[]⟩,.string ⟨#[]⟩,.string ⟨#[]⟩,.string ⟨#[]⟩]):=⟨by kernel_rfl⟩
instance Tryz.tund3:Und Tryz.prog 3 (.int .i64):=⟨Tryz.underlying3⟩
instance Tryz.tund5:Und Tryz.prog 5 (.int .u8):=⟨Tryz.underlying5⟩
instance Tryz.tund9:Und Tryz.prog 9 .string:=⟨Tryz.underlying9⟩
instance Tryz.tund21:Und Tryz.prog 21 (.int .i32):=⟨Tryz.underlying21⟩
instance Tryz.tund22:Und Tryz.prog 22 (.slice 3):=⟨Tryz.underlying22⟩
instance Tryz.tund25:Und Tryz.prog 25 (.slice 60):=⟨Tryz.underlying25⟩
instance Tryz.tund26:Und Tryz.prog 26 (.slice 36):=⟨Tryz.underlying26⟩
instance Tryz.tund28:Und Tryz.prog 28 (.struct (fOf Tryz.underlying28)):=⟨Tryz.underlying28⟩
instance Tryz.tund29:Und Tryz.prog 29 (.int .i64):=⟨Tryz.underlying29⟩
instance Tryz.tund33:Und Tryz.prog 33 (.slice 9):=⟨Tryz.underlying33⟩
instance Tryz.tund34:Und Tryz.prog 34 (.slice 41):=⟨Tryz.underlying34⟩
instance Tryz.tund36:Und Tryz.prog 36 (.struct (fOf Tryz.underlying36)):=⟨Tryz.underlying36⟩
instance Tryz.tund39:Und Tryz.prog 39 (.slice 95):=⟨Tryz.underlying39⟩
instance Tryz.tund41:Und Tryz.prog 41 (.struct (fOf Tryz.underlying41)):=⟨Tryz.underlying41⟩
instance Tryz.tund50:Und Tryz.prog 50 (.slice 64):=⟨Tryz.underlying50⟩
instance Tryz.tund54:Und Tryz.prog 54 (.struct (fOf Tryz.underlying54)):=⟨Tryz.underlying54⟩
instance Tryz.tund58:Und Tryz.prog 58 (.struct (fOf Tryz.underlying58)):=⟨Tryz.underlying58⟩
instance Tryz.tund60:Und Tryz.prog 60 (.struct (fOf Tryz.underlying60)):=⟨Tryz.underlying60⟩
instance Tryz.tund64:Und Tryz.prog 64 (.struct (fOf Tryz.underlying64)):=⟨Tryz.underlying64⟩
instance Tryz.tund72:Und Tryz.prog 72 (.pointer 75):=⟨Tryz.underlying72⟩
instance Tryz.tund73:Und Tryz.prog 73 (.slice 5):=⟨Tryz.underlying73⟩
instance Tryz.tund77:Und Tryz.prog 77 (.struct (fOf Tryz.underlying77)):=⟨Tryz.underlying77⟩
instance Tryz.tund86:Und Tryz.prog 86 (.pointer 88):=⟨Tryz.underlying86⟩
instance Tryz.tund88:Und Tryz.prog 88 (.struct (fOf Tryz.underlying88)):=⟨Tryz.underlying88⟩
instance Tryz.tund92:Und Tryz.prog 92 (.struct (fOf Tryz.underlying92)):=⟨Tryz.underlying92⟩
instance Tryz.tund95:Und Tryz.prog 95 (.struct (fOf Tryz.underlying95)):=⟨Tryz.underlying95⟩
instance Tryz.tund97:Und Tryz.prog 97 (.map 9 4):=⟨Tryz.underlying97⟩
instance Tryz.tund99:Und Tryz.prog 99 (.struct (fOf Tryz.underlying99)):=⟨Tryz.underlying99⟩
instance Tryz.tund100:Und Tryz.prog 100 (.array 12 9):=⟨Tryz.underlying100⟩
instance Tryz.tund121:Und Tryz.prog 121 (.pointer 5):=⟨Tryz.underlying121⟩
instance Tryz.tund135:Und Tryz.prog 135 (.array 24 9):=⟨Tryz.underlying135⟩
instance Tryz.tfld28_0:Fld Tryz.prog 28 0 0 25:=⟨_,_,Tryz.underlying28,rfl,rfl,rfl⟩
instance Tryz.tfld28_1:Fld Tryz.prog 28 1 1 26:=⟨_,_,Tryz.underlying28,rfl,rfl,rfl⟩
instance Tryz.tpl28:Places Tryz.prog  (fOf Tryz.underlying28) [(0,1),(1,1)]:=⟨by kernel_rfl⟩
instance Tryz.tfld36_0:Fld Tryz.prog 36 0 0 9:=⟨_,_,Tryz.underlying36,rfl,rfl,rfl⟩
instance Tryz.tfld36_1:Fld Tryz.prog 36 1 1 3:=⟨_,_,Tryz.underlying36,rfl,rfl,rfl⟩
instance Tryz.tfld36_2:Fld Tryz.prog 36 2 2 33:=⟨_,_,Tryz.underlying36,rfl,rfl,rfl⟩
instance Tryz.tfld36_3:Fld Tryz.prog 36 3 3 34:=⟨_,_,Tryz.underlying36,rfl,rfl,rfl⟩
instance Tryz.tpl36:Places Tryz.prog  (fOf Tryz.underlying36) [(0,1),(1,1),(2,1),(3,1)]:=⟨by kernel_rfl⟩
instance Tryz.tfld41_0:Fld Tryz.prog 41 0 0 3:=⟨_,_,Tryz.underlying41,rfl,rfl,rfl⟩
instance Tryz.tfld41_1:Fld Tryz.prog 41 1 1 3:=⟨_,_,Tryz.underlying41,rfl,rfl,rfl⟩
instance Tryz.tfld41_3:Fld Tryz.prog 41 3 3 9:=⟨_,_,Tryz.underlying41,rfl,rfl,rfl⟩
instance Tryz.tfld41_4:Fld Tryz.prog 41 4 4 9:=⟨_,_,Tryz.underlying41,rfl,rfl,rfl⟩
instance Tryz.tfld41_5:Fld Tryz.prog 41 5 5 3:=⟨_,_,Tryz.underlying41,rfl,rfl,rfl⟩
instance Tryz.tfld41_7:Fld Tryz.prog 41 7 7 39:=⟨_,_,Tryz.underlying41,rfl,rfl,rfl⟩
instance Tryz.tfld41_8:Fld Tryz.prog 41 8 8 9:=⟨_,_,Tryz.underlying41,rfl,rfl,rfl⟩
instance Tryz.tfld41_10:Fld Tryz.prog 41 10 10 39:=⟨_,_,Tryz.underlying41,rfl,rfl,rfl⟩
instance Tryz.tfld41_11:Fld Tryz.prog 41 11 11 34:=⟨_,_,Tryz.underlying41,rfl,rfl,rfl⟩
instance Tryz.tfld41_12:Fld Tryz.prog 41 12 12 34:=⟨_,_,Tryz.underlying41,rfl,rfl,rfl⟩
instance Tryz.tpl41:Places Tryz.prog  (fOf Tryz.underlying41) [(0,1),(1,1),(2,1),(3,1),(4,1),(5,1),(6,1),(7,1),(8,1),(9,1),(10,1),(11,1),(12,1)]:=⟨by kernel_rfl⟩
instance Tryz.tfld54_0:Fld Tryz.prog 54 0 0 3:=⟨_,_,Tryz.underlying54,rfl,rfl,rfl⟩
instance Tryz.tfld54_1:Fld Tryz.prog 54 1 1 29:=⟨_,_,Tryz.underlying54,rfl,rfl,rfl⟩
instance Tryz.tpl54:Places Tryz.prog  (fOf Tryz.underlying54) [(0,1),(1,1)]:=⟨by kernel_rfl⟩
instance Tryz.tfld58_0:Fld Tryz.prog 58 0 0 50:=⟨_,_,Tryz.underlying58,rfl,rfl,rfl⟩
instance Tryz.tfld58_1:Fld Tryz.prog 58 1 1 3:=⟨_,_,Tryz.underlying58,rfl,rfl,rfl⟩
instance Tryz.tpl58:Places Tryz.prog  (fOf Tryz.underlying58) [(0,1),(1,1)]:=⟨by kernel_rfl⟩
instance Tryz.tfld60_0:Fld Tryz.prog 60 0 0 9:=⟨_,_,Tryz.underlying60,rfl,rfl,rfl⟩
instance Tryz.tfld60_1:Fld Tryz.prog 60 1 1 33:=⟨_,_,Tryz.underlying60,rfl,rfl,rfl⟩
instance Tryz.tpl60:Places Tryz.prog  (fOf Tryz.underlying60) [(0,1),(1,1)]:=⟨by kernel_rfl⟩
instance Tryz.tfld64_0:Fld Tryz.prog 64 0 0 3:=⟨_,_,Tryz.underlying64,rfl,rfl,rfl⟩
instance Tryz.tfld64_1:Fld Tryz.prog 64 1 1 3:=⟨_,_,Tryz.underlying64,rfl,rfl,rfl⟩
instance Tryz.tfld64_2:Fld Tryz.prog 64 2 2 9:=⟨_,_,Tryz.underlying64,rfl,rfl,rfl⟩
instance Tryz.tfld64_3:Fld Tryz.prog 64 3 3 3:=⟨_,_,Tryz.underlying64,rfl,rfl,rfl⟩
instance Tryz.tpl64:Places Tryz.prog  (fOf Tryz.underlying64) [(0,1),(1,1),(2,1),(3,1)]:=⟨by kernel_rfl⟩
instance Tryz.tfld75_0:Fld Tryz.prog 75 0 0 72:=⟨_,_,Tryz.underlying75,rfl,rfl,rfl⟩
instance Tryz.tfld75_1:Fld Tryz.prog 75 1 1 73:=⟨_,_,Tryz.underlying75,rfl,rfl,rfl⟩
instance Tryz.tfld77_0:Fld Tryz.prog 77 0 0 75:=⟨_,_,Tryz.underlying77,rfl,rfl,rfl⟩
instance Tryz.tpl77:Places Tryz.prog  (fOf Tryz.underlying77) [(0,2)]:=⟨by kernel_rfl⟩
instance Tryz.tfld88_0:Fld Tryz.prog 88 0 0 22:=⟨_,_,Tryz.underlying88,rfl,rfl,rfl⟩
instance Tryz.tfld88_1:Fld Tryz.prog 88 1 1 3:=⟨_,_,Tryz.underlying88,rfl,rfl,rfl⟩
instance Tryz.tpl88:Places Tryz.prog  (fOf Tryz.underlying88) [(0,1),(1,1)]:=⟨by kernel_rfl⟩
instance Tryz.tfld92_0:Fld Tryz.prog 92 0 0 86:=⟨_,_,Tryz.underlying92,rfl,rfl,rfl⟩
instance Tryz.tfld92_1:Fld Tryz.prog 92 1 1 3:=⟨_,_,Tryz.underlying92,rfl,rfl,rfl⟩
instance Tryz.tfld92_2:Fld Tryz.prog 92 2 2 3:=⟨_,_,Tryz.underlying92,rfl,rfl,rfl⟩
instance Tryz.tfld92_3:Fld Tryz.prog 92 3 3 22:=⟨_,_,Tryz.underlying92,rfl,rfl,rfl⟩
instance Tryz.tfld92_4:Fld Tryz.prog 92 4 4 33:=⟨_,_,Tryz.underlying92,rfl,rfl,rfl⟩
instance Tryz.tfld92_5:Fld Tryz.prog 92 5 5 33:=⟨_,_,Tryz.underlying92,rfl,rfl,rfl⟩
instance Tryz.tfld92_6:Fld Tryz.prog 92 6 6 33:=⟨_,_,Tryz.underlying92,rfl,rfl,rfl⟩
instance Tryz.tfld92_7:Fld Tryz.prog 92 7 7 3:=⟨_,_,Tryz.underlying92,rfl,rfl,rfl⟩
instance Tryz.tfld92_8:Fld Tryz.prog 92 8 8 3:=⟨_,_,Tryz.underlying92,rfl,rfl,rfl⟩
instance Tryz.tpl92:Places Tryz.prog  (fOf Tryz.underlying92) [(0,1),(1,1),(2,1),(3,1),(4,1),(5,1),(6,1),(7,1),(8,1)]:=⟨by kernel_rfl⟩
instance Tryz.tfld95_0:Fld Tryz.prog 95 0 0 3:=⟨_,_,Tryz.underlying95,rfl,rfl,rfl⟩
instance Tryz.tfld95_1:Fld Tryz.prog 95 1 1 3:=⟨_,_,Tryz.underlying95,rfl,rfl,rfl⟩
instance Tryz.tfld95_3:Fld Tryz.prog 95 3 3 9:=⟨_,_,Tryz.underlying95,rfl,rfl,rfl⟩
instance Tryz.tfld95_4:Fld Tryz.prog 95 4 4 9:=⟨_,_,Tryz.underlying95,rfl,rfl,rfl⟩
instance Tryz.tfld95_5:Fld Tryz.prog 95 5 5 39:=⟨_,_,Tryz.underlying95,rfl,rfl,rfl⟩
instance Tryz.tpl95:Places Tryz.prog  (fOf Tryz.underlying95) [(0,1),(1,1),(2,1),(3,1),(4,1),(5,1)]:=⟨by kernel_rfl⟩
instance Tryz.tfld99_0:Fld Tryz.prog 99 0 0 9:=⟨_,_,Tryz.underlying99,rfl,rfl,rfl⟩
instance Tryz.tfld99_1:Fld Tryz.prog 99 1 1 3:=⟨_,_,Tryz.underlying99,rfl,rfl,rfl⟩
instance Tryz.tfld99_2:Fld Tryz.prog 99 2 2 3:=⟨_,_,Tryz.underlying99,rfl,rfl,rfl⟩
instance Tryz.tfld99_3:Fld Tryz.prog 99 3 3 97:=⟨_,_,Tryz.underlying99,rfl,rfl,rfl⟩
instance Tryz.tpl99:Places Tryz.prog  (fOf Tryz.underlying99) [(0,1),(1,1),(2,1),(3,1)]:=⟨by kernel_rfl⟩
instance Tryz.gofun8:GoFun Tryz.prog 8:=⟨_,Tryz.func8,by kernel_rfl,by kernel_rfl⟩
instance Tryz.gofun9:GoFun Tryz.prog 9:=⟨_,Tryz.func9,by kernel_rfl,by kernel_rfl⟩
instance Tryz.gofun10:GoFun Tryz.prog 10:=⟨_,Tryz.func10,by kernel_rfl,by kernel_rfl⟩
instance Tryz.gofun11:GoFun Tryz.prog 11:=⟨_,Tryz.func11,by kernel_rfl,by kernel_rfl⟩
instance Tryz.gofun12:GoFun Tryz.prog 12:=⟨_,Tryz.func12,by kernel_rfl,by kernel_rfl⟩
instance Tryz.gofun14:GoFun Tryz.prog 14:=⟨_,Tryz.func14,by kernel_rfl,by kernel_rfl⟩
instance Tryz.gofun16:GoFun Tryz.prog 16:=⟨_,Tryz.func16,by kernel_rfl,by kernel_rfl⟩
instance Tryz.gofun17:GoFun Tryz.prog 17:=⟨_,Tryz.func17,by kernel_rfl,by kernel_rfl⟩
instance Tryz.gofun19:GoFun Tryz.prog 19:=⟨_,Tryz.func19,by kernel_rfl,by kernel_rfl⟩
instance Tryz.gofun20:GoFun Tryz.prog 20:=⟨_,Tryz.func20,by kernel_rfl,by kernel_rfl⟩
instance Tryz.gofun21:GoFun Tryz.prog 21:=⟨_,Tryz.func21,by kernel_rfl,by kernel_rfl⟩
instance Tryz.gofun22:GoFun Tryz.prog 22:=⟨_,Tryz.func22,by kernel_rfl,by kernel_rfl⟩
instance Tryz.gofun23:GoFun Tryz.prog 23:=⟨_,Tryz.func23,by kernel_rfl,by kernel_rfl⟩
instance Tryz.gofun24:GoFun Tryz.prog 24:=⟨_,Tryz.func24,by kernel_rfl,by kernel_rfl⟩
instance Tryz.gofun25:GoFun Tryz.prog 25:=⟨_,Tryz.func25,by kernel_rfl,by kernel_rfl⟩
instance Tryz.gofun26:GoFun Tryz.prog 26:=⟨_,Tryz.func26,by kernel_rfl,by kernel_rfl⟩
instance Tryz.gofun29:GoFun Tryz.prog 29:=⟨_,Tryz.func29,by kernel_rfl,by kernel_rfl⟩
instance Tryz.gofun30:GoFun Tryz.prog 30:=⟨_,Tryz.func30,by kernel_rfl,by kernel_rfl⟩
instance Tryz.gofun31:GoFun Tryz.prog 31:=⟨_,Tryz.func31,by kernel_rfl,by kernel_rfl⟩
instance Tryz.gofun32:GoFun Tryz.prog 32:=⟨_,Tryz.func32,by kernel_rfl,by kernel_rfl⟩
instance Tryz.gofun33:GoFun Tryz.prog 33:=⟨_,Tryz.func33,by kernel_rfl,by kernel_rfl⟩
instance Tryz.gofun34:GoFun Tryz.prog 34:=⟨_,Tryz.func34,by kernel_rfl,by kernel_rfl⟩
instance Tryz.gofun37:GoFun Tryz.prog 37:=⟨_,Tryz.func37,by kernel_rfl,by kernel_rfl⟩
instance Tryz.gofun38:GoFun Tryz.prog 38:=⟨_,Tryz.func38,by kernel_rfl,by kernel_rfl⟩
instance Tryz.gofun39:GoFun Tryz.prog 39:=⟨_,Tryz.func39,by kernel_rfl,by kernel_rfl⟩
instance Tryz.gofun40:GoFun Tryz.prog 40:=⟨_,Tryz.func40,by kernel_rfl,by kernel_rfl⟩
instance Tryz.gofun41:GoFun Tryz.prog 41:=⟨_,Tryz.func41,by kernel_rfl,by kernel_rfl⟩
instance Tryz.gofun42:GoFun Tryz.prog 42:=⟨_,Tryz.func42,by kernel_rfl,by kernel_rfl⟩
instance Tryz.gofun43:GoFun Tryz.prog 43:=⟨_,Tryz.func43,by kernel_rfl,by kernel_rfl⟩
instance Tryz.gofun44:GoFun Tryz.prog 44:=⟨_,Tryz.func44,by kernel_rfl,by kernel_rfl⟩
instance Tryz.gofun45:GoFun Tryz.prog 45:=⟨_,Tryz.func45,by kernel_rfl,by kernel_rfl⟩
instance Tryz.gofun46:GoFun Tryz.prog 46:=⟨_,Tryz.func46,by kernel_rfl,by kernel_rfl⟩
instance Tryz.gofun56:GoFun Tryz.prog 56:=⟨_,Tryz.func56,by kernel_rfl,by kernel_rfl⟩
instance Tryz.gofun57:GoFun Tryz.prog 57:=⟨_,Tryz.func57,by kernel_rfl,by kernel_rfl⟩
instance Tryz.gofun59:GoFun Tryz.prog 59:=⟨_,Tryz.func59,by kernel_rfl,by kernel_rfl⟩
instance Tryz.gofun60:GoFun Tryz.prog 60:=⟨_,Tryz.func60,by kernel_rfl,by kernel_rfl⟩
instance Tryz.gofun61:GoFun Tryz.prog 61:=⟨_,Tryz.func61,by kernel_rfl,by kernel_rfl⟩
instance Tryz.gofun62:GoFun Tryz.prog 62:=⟨_,Tryz.func62,by kernel_rfl,by kernel_rfl⟩
instance Tryz.gofun63:GoFun Tryz.prog 63:=⟨_,Tryz.func63,by kernel_rfl,by kernel_rfl⟩
instance Tryz.gofun65:GoFun Tryz.prog 65:=⟨_,Tryz.func65,by kernel_rfl,by kernel_rfl⟩
instance Tryz.gofun66:GoFun Tryz.prog 66:=⟨_,Tryz.func66,by kernel_rfl,by kernel_rfl⟩
instance Tryz.gofun67:GoFun Tryz.prog 67:=⟨_,Tryz.func67,by kernel_rfl,by kernel_rfl⟩
instance Tryz.gofun68:GoFun Tryz.prog 68:=⟨_,Tryz.func68,by kernel_rfl,by kernel_rfl⟩
instance Tryz.gofun69:GoFun Tryz.prog 69:=⟨_,Tryz.func69,by kernel_rfl,by kernel_rfl⟩
instance Tryz.gofun70:GoFun Tryz.prog 70:=⟨_,Tryz.func70,by kernel_rfl,by kernel_rfl⟩
instance Tryz.gofun71:GoFun Tryz.prog 71:=⟨_,Tryz.func71,by kernel_rfl,by kernel_rfl⟩
instance Tryz.gofun72:GoFun Tryz.prog 72:=⟨_,Tryz.func72,by kernel_rfl,by kernel_rfl⟩
instance Tryz.gofun73:GoFun Tryz.prog 73:=⟨_,Tryz.func73,by kernel_rfl,by kernel_rfl⟩
instance Tryz.gofun74:GoFun Tryz.prog 74:=⟨_,Tryz.func74,by kernel_rfl,by kernel_rfl⟩
instance Tryz.gofun75:GoFun Tryz.prog 75:=⟨_,Tryz.func75,by kernel_rfl,by kernel_rfl⟩
instance Tryz.gofun76:GoFun Tryz.prog 76:=⟨_,Tryz.func76,by kernel_rfl,by kernel_rfl⟩
instance Tryz.gofun77:GoFun Tryz.prog 77:=⟨_,Tryz.func77,by kernel_rfl,by kernel_rfl⟩
instance Tryz.gofun78:GoFun Tryz.prog 78:=⟨_,Tryz.func78,by kernel_rfl,by kernel_rfl⟩
instance Tryz.gofun79:GoFun Tryz.prog 79:=⟨_,Tryz.func79,by kernel_rfl,by kernel_rfl⟩
instance Tryz.gofun80:GoFun Tryz.prog 80:=⟨_,Tryz.func80,by kernel_rfl,by kernel_rfl⟩
instance Tryz.gofun87:GoFun Tryz.prog 87:=⟨_,Tryz.func87,by kernel_rfl,by kernel_rfl⟩
instance Tryz.gofun88:GoFun Tryz.prog 88:=⟨_,Tryz.func88,by kernel_rfl,by kernel_rfl⟩
instance Tryz.gofun90:GoFun Tryz.prog 90:=⟨_,Tryz.func90,by kernel_rfl,by kernel_rfl⟩
instance Tryz.gofun91:GoFun Tryz.prog 91:=⟨_,Tryz.func91,by kernel_rfl,by kernel_rfl⟩
instance Tryz.gofun92:GoFun Tryz.prog 92:=⟨_,Tryz.func92,by kernel_rfl,by kernel_rfl⟩
instance Tryz.gofun93:GoFun Tryz.prog 93:=⟨_,Tryz.func93,by kernel_rfl,by kernel_rfl⟩
instance Tryz.gofun94:GoFun Tryz.prog 94:=⟨_,Tryz.func94,by kernel_rfl,by kernel_rfl⟩
instance Tryz.gofun95:GoFun Tryz.prog 95:=⟨_,Tryz.func95,by kernel_rfl,by kernel_rfl⟩
instance Tryz.gofun96:GoFun Tryz.prog 96:=⟨_,Tryz.func96,by kernel_rfl,by kernel_rfl⟩
instance Tryz.gofun97:GoFun Tryz.prog 97:=⟨_,Tryz.func97,by kernel_rfl,by kernel_rfl⟩
instance Tryz.gofun98:GoFun Tryz.prog 98:=⟨_,Tryz.func98,by kernel_rfl,by kernel_rfl⟩
instance Tryz.gofun99:GoFun Tryz.prog 99:=⟨_,Tryz.func99,by kernel_rfl,by kernel_rfl⟩
instance Tryz.gofun100:GoFun Tryz.prog 100:=⟨_,Tryz.func100,by kernel_rfl,by kernel_rfl⟩
instance Tryz.gofun101:GoFun Tryz.prog 101:=⟨_,Tryz.func101,by kernel_rfl,by kernel_rfl⟩
instance Tryz.gofun102:GoFun Tryz.prog 102:=⟨_,Tryz.func102,by kernel_rfl,by kernel_rfl⟩
instance Tryz.gofun109:GoFun Tryz.prog 109:=⟨_,Tryz.func109,by kernel_rfl,by kernel_rfl⟩
instance Tryz.gofun110:GoFun Tryz.prog 110:=⟨_,Tryz.func110,by kernel_rfl,by kernel_rfl⟩
instance Tryz.gofun111:GoFun Tryz.prog 111:=⟨_,Tryz.func111,by kernel_rfl,by kernel_rfl⟩
instance Tryz.gofun112:GoFun Tryz.prog 112:=⟨_,Tryz.func112,by kernel_rfl,by kernel_rfl⟩
instance Tryz.gofun113:GoFun Tryz.prog 113:=⟨_,Tryz.func113,by kernel_rfl,by kernel_rfl⟩
instance Tryz.gofun114:GoFun Tryz.prog 114:=⟨_,Tryz.func114,by kernel_rfl,by kernel_rfl⟩
instance Tryz.gofun115:GoFun Tryz.prog 115:=⟨_,Tryz.func115,by kernel_rfl,by kernel_rfl⟩
instance Tryz.gofun121:GoFun Tryz.prog 121:=⟨_,Tryz.func121,by kernel_rfl,by kernel_rfl⟩
instance Tryz.gofun123:GoFun Tryz.prog 123:=⟨_,Tryz.func123,by kernel_rfl,by kernel_rfl⟩
instance Tryz.gofun124:GoFun Tryz.prog 124:=⟨_,Tryz.func124,by kernel_rfl,by kernel_rfl⟩
instance Tryz.gofun126:GoFun Tryz.prog 126:=⟨_,Tryz.func126,by kernel_rfl,by kernel_rfl⟩
instance Tryz.gofun127:GoFun Tryz.prog 127:=⟨_,Tryz.func127,by kernel_rfl,by kernel_rfl⟩
instance Tryz.gofun129:GoFun Tryz.prog 129:=⟨_,Tryz.func129,by kernel_rfl,by kernel_rfl⟩
instance Tryz.gofun134:GoFun Tryz.prog 134:=⟨_,Tryz.func134,by kernel_rfl,by kernel_rfl⟩
instance Tryz.gofun140:GoFun Tryz.prog 140:=⟨_,Tryz.func140,by kernel_rfl,by kernel_rfl⟩
end Go.Proofs
namespace Go.Proofs
open Go.AM
attribute [local irreducible] AWP AOps ACalls AAny
instance undUP:Und Tryz.prog 148 .unsafePointer:=⟨by kernel_rfl⟩
instance noEsc:SameFun Tryz.prog 107:=⟨_,Tryz.func107,by kernel_rfl,by kernel_rfl,by kernel_rfl,by kernel_rfl⟩
def wS (st:St) (o:Nat) (used:Bool) (l:List UInt8) (oo:Option Nat):St :=
 mst (st.set o (.cells 77 2 [[bif used then .cptr o 2 0 0 else .lit (.pointer none),mslot 1 l.length oo]])) 5 1 (brows l) oo
structure WOk (st:St) (o:Nat) (l:List UInt8) (oo:Option Nat):Prop where
 ne:∀ o',oo=some o'→o'≠o∧st.obj o'=none∧l≠[]
 nil:oo=none→l=[]
theorem mst_set {st:St} {o:Nat} {a b:AObj} {e:TypeId} {sz:Nat} {rows:List (List AV)} {oo:Option Nat} (h:∀ o',oo=some o'→o'≠o):(mst (st.set o a) e sz rows oo).set o b=mst (st.set o b) e sz rows oo:=by
 cases oo with
 | none=>exact St.set_set ..
 | some o'=>exact St.set_inner (h o' rfl) ..
theorem mst_obj {st:St} {o:Nat} {a:AObj} {e:TypeId} {sz:Nat} {rows:List (List AV)} {oo:Option Nat} (h:∀ o',oo=some o'→o'≠o):(mst (st.set o a) e sz rows oo).obj o=some a:=by
 cases oo with
 | none=>exact St.obj_set ..
 | some o'=>exact St.obj_under (h o' rfl) ..
theorem copyCheck_ok {st:St} {o:Nat} {used:Bool} {l:List UInt8} {oo:Option Nat} (h:WOk st o l oo) :
  ACalls Tryz.prog 88 [.cptr o 2 0 0] (wS st o used l oo) (fun _ st'=>st'=wS st o true l oo) (fun _ _=>False):=by
 refine ACalls.ofBody Tryz.func88 rfl Tryz.ntmps88 rfl ?_;have hO:(wS st o used l oo).obj o=some (.cells 77 2 [[bif used then .cptr o 2 0 0 else .lit (.pointer none),mslot 1 l.length oo]]):=mst_obj fun o' e=>(h.ne o' e).1
 have hW:∀ a,(wS st o used l oo).set o a=mst (st.set o a) 5 1 (brows l) oo:=fun a=>mst_set fun o' e=>(h.ne o' e).1;generalize hbf:mslot 1 l.length oo=bf at hO;cases used with
 | false =>
  refine goD ?_;refine eqP (b:=true) rfl rfl (.inl ⟨rfl,rfl⟩) ?_;refine goD ?_;refine cvU rfl rfl hO ?_;refine clE rfl rfl ?_;refine cvP rfl rfl hO (by kernel_rfl) (by kernel_rfl) (by kernel_rfl) ?_;refine goD ?_;refine so (rows':=[[.cptr o 2 0 0,bf]]) rfl rfl rfl hO rfl rfl rfl rfl rfl ?_;refine goD ?_;exact rets rfl (.refl _) (.refl _) (by rw [hW,← hbf]; rfl)
 | true =>
  refine goD ?_;refine eqP (b:=false) rfl rfl (.inr ⟨_,_,_,_,rfl,rfl⟩) ?_;refine goD ?_;refine neQ rfl rfl rfl ?_;refine goD ?_;exact rets rfl (.refl _) (.refl _) rfl

set_option maxHeartbeats 1000000 in
theorem writeString_ok {st:St} {o:Nat} {used:Bool} {l s:List UInt8} {oo:Option Nat} (h:WOk st o l oo) (hb:l.length + s.length≤140737488355328) :
  ACalls Tryz.prog 59 [.cptr o 2 0 0,.str s] (wS st o used l oo) (fun _ st'=>∃ oo',WOk st o (l++s) oo'∧st'=wS st o true (l++s) oo') (fun _ _=>False):=by
 refine ACalls.ofBody Tryz.func59 rfl Tryz.ntmps59 rfl ?_;refine goD ?_;refine cl rfl rfl (copyCheck_ok h) fun v st' hst=>?_;subst hst;have hO0:(wS st o true l oo).obj o=some (.cells 77 2 [[.cptr o 2 0 0,mslot 1 l.length oo]]):=mst_obj fun o' e=>(h.ne o' e).1;refine goD ?_;refine aps (oo:=oo) (l:=l) (s:=s) (e:=5) (st:=st.set o (.cells 77 2 [[.cptr o 2 0 0,mslot 1 l.length oo]])) rfl rfl rfl (by
  cases oo with
  | none=>rw [h.nil rfl]; rfl
  | some o'=>exact (St.obj_set_ne (h.ne o' rfl).1).trans (h.ne o' rfl).2.1) hb (fun o' e=>(h.ne o' e).2.2) fun oo' hf hn=>?_
 have hok:WOk st o (l++s) oo':=⟨fun o' e=>by
  subst e;have hf:(st.set o _).obj o'=none:=hf
  have hne:o'≠o:=fun e=>by subst e; rw [St.obj_set] at hf; cases hf
  exact ⟨hne,by rwa [St.obj_set_ne hne] at hf,hn o' rfl⟩,fun e=>by subst e; exact List.eq_nil_of_length_eq_zero hf⟩
 have hO1:(mst (st.set o (.cells 77 2 [[.cptr o 2 0 0,mslot 1 l.length oo]])) 5 1 (brows (l++s)) oo').obj o=some (.cells 77 2 [[.cptr o 2 0 0,mslot 1 l.length oo]]):=mst_obj fun o' e=>(hok.ne o' e).1;refine goD ?_;refine so (rows':=[[.cptr o 2 0 0,mslot 1 (l++s).length oo']]) rfl rfl rfl hO1 rfl (by cases oo' <;> rfl) (by cases oo' <;> rfl) (by cases oo' <;> rfl) (by cases oo' <;> rfl) ?_
 rw [mst_set fun o' e=>(hok.ne o' e).1];refine goD ?_;exact AWP.ret (rets rfl (.refl _) (.refl _) ⟨oo',hok,rfl⟩)
set_option maxHeartbeats 1000000 in
theorem writeByte_ok {st:St} {o:Nat} {used:Bool} {l:List UInt8} {c:UInt8} {oo:Option Nat} (h:WOk st o l oo) (hb:l.length + 1≤140737488355328) :
  ACalls Tryz.prog 87 [.cptr o 2 0 0,.int .u8 (c.toNat:Int)] (wS st o used l oo) (fun _ st'=>∃ oo',WOk st o (l++[c]) oo'∧st'=wS st o true (l++[c]) oo') (fun _ _=>False):=by
 refine ACalls.ofBody Tryz.func87 rfl Tryz.ntmps87 rfl ?_;refine goD ?_;refine cl rfl rfl (copyCheck_ok h) fun v st' hst=>?_;subst hst;have hO0:(wS st o true l oo).obj o=some (.cells 77 2 [[.cptr o 2 0 0,mslot 1 l.length oo]]):=mst_obj fun o' e=>(h.ne o' e).1;refine goD ?_;refine apq (rows:=brows l) (oo:=oo) (e:=5) (st:=st.set o (.cells 77 2 [[.cptr o 2 0 0,mslot 1 l.length oo]])) rfl (by rw [brows_len]; rfl) rfl (by
  cases oo with
  | none=>rw [h.nil rfl]; rfl
  | some o'=>exact (St.obj_set_ne (h.ne o' rfl).1).trans (h.ne o' rfl).2.1) (by simp) rfl (by rw [brows_len]; simp only [List.length_cons,List.length_nil]; omega) (by rw [brows_len]; simp only [List.length_cons,List.length_nil,maxLen]; omega) fun o' hf=>?_
 have hne:o'≠o:=fun e=>by subst e; rw [St.obj_set] at hf; cases hf
 have hok:WOk st o (l++[c]) (some o'):=⟨fun o2 e=>by
  cases e;exact ⟨hne,by rwa [St.obj_set_ne hne] at hf,by simp⟩,fun e=>by cases e⟩
 have hbr:brows l++[(AV.int .u8 (c.toNat:Int)).cells]=brows (l++[c]):=by rw [brows_append]; rfl
 have hbl:(brows l).length + [(AV.int .u8 (c.toNat:Int)).cells].length=(l++[c]).length:=by rw [brows_len,List.length_append]; rfl
 rw [hbr,hbl];have hO1:((st.set o (.cells 77 2 [[.cptr o 2 0 0,mslot 1 l.length oo]])).set o' (.cells 5 1 (brows (l++[c])))).obj o=some (.cells 77 2 [[.cptr o 2 0 0,mslot 1 l.length oo]]):=St.obj_under hne _ _;refine goD ?_;refine so (rows':=[[.cptr o 2 0 0,mslot 1 (l++[c]).length (some o')]]) rfl rfl rfl hO1 rfl rfl rfl rfl rfl ?_;rw [St.set_inner hne];refine goD ?_;exact AWP.ret (rets rfl (.refl _) (.refl _) ⟨some o',hok,rfl⟩)
set_option maxHeartbeats 1000000 in
theorem builderString_ok {st:St} {o:Nat} {used:Bool} {l:List UInt8} {oo:Option Nat} (h:WOk st o l oo) (hb:l.length≤140737488355328) :
  ACalls Tryz.prog 32 [.cptr o 2 0 0] (wS st o used l oo) (fun v st'=>v=.str l∧∃ c,st'=st.set o c) (fun _ _=>False):=by
 refine ACalls.ofBody Tryz.func32 rfl Tryz.ntmps32 rfl ?_;have hO:(wS st o used l oo).obj o=some (.cells 77 2 [[bif used then .cptr o 2 0 0 else .lit (.pointer none),mslot 1 l.length oo]]):=mst_obj fun o' e=>(h.ne o' e).1;refine goD ?_;refine AWP.any rfl ?_;apply AAny.segQ (k':=10) (hok:=by decide +kernel);repeat (first|apply dsY (hi:=rfl) (hs:=rfl)|apply dqY (hi:=rfl) (hd:=rfl) (hw:=rfl) (h:=fun _ _=>ZC (z:=nz))|apply dqY (hi:=rfl) (hd:=rfl) (hw:=rfl) (h:=fun _ _=>ZH (z:=nz)))
 apply dqY (hi:=rfl) (hd:=rfl) (hw:=rfl) (h:=fun _ _=>sdt rfl rfl (fun o' e=>(h.ne o' e).2.2) nz);repeat (first|apply dsY (hi:=rfl) (hs:=rfl)|apply dqY (hi:=rfl) (hd:=rfl) (hw:=rfl) (h:=fun _ _=>ZC (z:=nz))|apply dqY (hi:=rfl) (hd:=rfl) (hw:=rfl) (h:=fun _ _=>ZH (z:=nz)))
 apply dqY (hi:=rfl) (hd:=rfl) (hw:=rfl) (h:=fun _ _=>lnq rfl rfl (fun e=>by rw [h.nil e]; rfl) nz);refine dnQ ?_;refine AAny.one rfl rfl rfl rfl ?_;refine ust (oo:=oo) (l:=l) (e:=5) (st:=st.set o (.cells 77 2 [[bif used then .cptr o 2 0 0 else .lit (.pointer none),mslot 1 l.length oo]])) (by kernel_rfl) rfl rfl rfl (by
  cases oo with
  | none=>rw [h.nil rfl]; rfl
  | some o'=>exact (St.obj_set_ne (h.ne o' rfl).1).trans (h.ne o' rfl).2.1) (fun o' e=>(h.ne o' e).2.2) hb (nl ⟨_,rfl,?_⟩)
 refine AAny.text rfl ?_;refine goD ?_;exact AWP.ret (rets rfl (.refl _) (.refl _) ⟨rfl,_,rfl⟩)
end Go.Proofs
namespace Go.Proofs
open Go.AM
structure Tk where
 kind:Nat
 line:Nat
 text:List UInt8
 num:Nat
 deriving DecidableEq

def tokRow (t:Tk):List AV:=[.int .i64 (t.kind:Int),.int .i64 (t.line:Int),.str t.text,.int .i64 (t.num:Int)]

def isLet (c:UInt8):Bool:=(decide (97≤c.toNat) && decide (c.toNat≤122)) || (decide (65≤c.toNat) && decide (c.toNat≤90)) || decide (c.toNat=95)
def isDig (c:UInt8):Bool:=decide (48≤c.toNat) && decide (c.toNat≤57)
def isNP (c:UInt8):Bool:=isLet c || isDig c

def skip:Bool→List UInt8→Nat→List UInt8 × Nat
 | _,[],l=>([],l)
 | cm,c::r,l=>if c=10 then skip false r (l + 1) else bif cm then skip true r l else if c=32∨c=9∨c=13 then skip false r l else if c=47∧r.head?=some 47 then skip true r l else (c::r,l)

def words:List (List UInt8):=[[114,101,99,111,114,100],[102,117,110,99],[118,97,114],[105,110,116],[105,102],[101,108,115,101],[119,104,105,108,101],[114,101,116,117,114,110],[116,104,114,111,119],[116,114,121],[99,97,116,99,104],[112,114,105,110,116]]
def signs2:List (List UInt8):=[[60,61],[61,61],[33,61]]
def signs1:List UInt8:=[40,41,123,125,91,93,44,59,58,46,43,45,42,47,37,38,124,94,60,61,33]

def sign (s:List UInt8):List UInt8 :=
 if s.take 2 ∈ signs2 then s.take 2 else match s with
  | c::_=>if c ∈ signs1 then [c] else []
  | []=>[]

def digits (l:List UInt8):Nat:=l.foldl (fun v c=>v * 10 + (c.toNat - 48)) 0

def one (s:List UInt8) (line:Nat):Except Nat (Tk × Nat) :=
 match s with
 | []=>.error 6
 | c::_=>bif isLet c then (let nm:=s.takeWhile isNP; if 12 < nm.length then .error 5 else .ok (⟨if nm ∈ words then 3 else 1,line,nm,0⟩,nm.length))
  else bif isDig c then (let ds:=s.takeWhile isDig; if 18 < ds.length then .error 5 else if ((s.drop ds.length).head?.map isNP).getD false=true then .error 6 else .ok (⟨2,line,[],digits ds⟩,ds.length))
  else if sign s=[] then .error 6 else .ok (⟨4,line,sign s,0⟩,(sign s).length)

def scanL:Nat→List UInt8→Nat→List Tk→List Tk × Nat × Nat
 | 0,_,_,_=>([],0,0)
 | _ + 1,[],line,out=>(out++[⟨0,line,[],0⟩],0,0)
 | k + 1,c::r,line,out=>match one (c::r) line with
  | .error e=>([],line,e)
  | .ok (t,m)=>if 2000≤out.length then ([],line,5) else
   scanL k (skip false ((c::r).drop m) line).1 (skip false ((c::r).drop m) line).2 (out++[t])

def scan (s:List UInt8):List Tk × Nat × Nat :=
 if 4000 < s.length then ([],0,5) else scanL (s.length + 1) (skip false s 1).1 (skip false s 1).2 []

def scanV (r:List Tk × Nat × Nat):AV:=.tuple [.view 4 (r.1.map tokRow) .shared,.int .i64 (r.2.1:Int),.int .i64 (r.2.2:Int)]
def digA (r:Nat):Bool:=decide (48≤r) && decide (r≤57)
def letA (r:Nat):Bool:=(decide (97≤r) && decide (r≤122)) || (decide (65≤r) && decide (r≤90)) || decide (r=95)
def npA (r:Nat):Bool:=letA r || digA r

theorem isDigit_ok (r:Nat) (st:St):ACalls Tryz.prog 76 [.int .i32 (r:Int)] st (fun v st'=>v=.bool (digA r)∧st'=st) (fun _ _=>False):=by
 refine ACalls.ofBody Tryz.func76 rfl Tryz.ntmps76 rfl ?_;refine goA ?_;refine AOps.split 5 rfl (fun h=>?_) (fun h=>?_)
 ·have h':48≤r:=by have:(48:Int)≤(r:Int):=h; omega
  refine goA ?_;refine AWP.ret (rets rfl (.refl _) (.refl _) ⟨?_,rfl⟩);simp only [packA,digA,h',decide_true,Bool.true_and]
  congr 1
  exact decide_eq_decide.2 (by omega)
 ·have h':¬ 48≤r:=by have:¬ (48:Int)≤(r:Int):=h; omega
  refine goA ?_;refine AWP.ret (rets rfl (.refl _) (.refl _) ⟨?_,rfl⟩);simp [packA,digA,h',absV,abs1]

theorem notNl_ok (r:Nat) (st:St):ACalls Tryz.prog 75 [.int .i32 (r:Int)] st (fun v st'=>v=.bool (decide (r≠10))∧st'=st) (fun _ _=>False):=by
 refine ACalls.ofBody Tryz.func75 rfl Tryz.ntmps75 rfl ?_;refine goA ?_;refine AWP.ret (rets rfl (.refl _) (.refl _) ⟨?_,rfl⟩);simp only [packA]
 congr 1
 exact decide_eq_decide.2 (by omega)

theorem isNamePart_ok (r:Nat) (st:St):ACalls Tryz.prog 78 [.int .i32 (r:Int)] st (fun v st'=>v=.bool (npA r)∧st'=st) (fun _ _=>False):=by
 refine ACalls.ofBody Tryz.func78 rfl Tryz.ntmps78 rfl ?_;have fin:∀ {b:Bool},b=npA r→AV.bool b=.bool (npA r):=fun h=>by rw [h]
 refine goA ?_;refine AOps.split 5 rfl (fun h=>?_) (fun h=>?_)
 ·have h':97≤r:=by have:(97:Int)≤(r:Int):=h; omega
  refine goA ?_;refine AOps.split 9 rfl (fun h2=>?_) (fun h2=>?_)
  ·have h2':r≤122:=by have:(r:Int)≤122:=h2; omega
   refine goA ?_;exact AWP.ret (rets rfl (.refl _) (.refl _) ⟨fin (by simp [npA,letA,h',h2']),rfl⟩)
  ·have h2':¬ r≤122:=by have:¬ (r:Int)≤122:=h2; omega
   refine goA ?_;refine AOps.split 12 rfl (fun h3=>?_) (fun h3=>absurd (show (65:Int)≤(r:Int) by omega) h3);refine goA ?_;refine AOps.split 17 rfl (fun h4=>absurd (show (r:Int)≤90 from h4) (by omega)) (fun h4=>?_);refine goA ?_;refine AOps.split 21 rfl (fun h5=>absurd (show (r:Int)=95 from h5) (by omega)) (fun h5=>?_);refine goA ?_;refine cle rfl rfl (isDigit_ok r st) ?_;refine goA ?_;refine AWP.ret (rets rfl (.refl _) (.refl _) ⟨fin ?_,rfl⟩);simp only [npA,letA,h2',show ¬ r≤90 by omega,show ¬ r=95 by omega,decide_false,Bool.and_false,Bool.or_false,Bool.false_or]
 ·have h':¬ 97≤r:=by have:¬ (97:Int)≤(r:Int):=h; omega
  refine goA ?_;refine AOps.split 12 rfl (fun h3=>?_) (fun h3=>?_)
  ·have h3':65≤r:=by have:(65:Int)≤(r:Int):=h3; omega
   refine goA ?_;refine AOps.split 17 rfl (fun h4=>?_) (fun h4=>?_)
   ·have h4':r≤90:=by have:(r:Int)≤90:=h4; omega
    refine goA ?_;exact AWP.ret (rets rfl (.refl _) (.refl _) ⟨fin (by simp [npA,letA,h3',h4']),rfl⟩)
   ·have h4':¬ r≤90:=by have:¬ (r:Int)≤90:=h4; omega
    refine goA ?_;refine AOps.split 21 rfl (fun h5=>?_) (fun h5=>?_)
    ·have h5':r=95:=by have:(r:Int)=95:=h5; omega
     refine goA ?_;exact AWP.ret (rets rfl (.refl _) (.refl _) ⟨fin (by simp [npA,letA,h5']),rfl⟩)
    ·have h5':¬ r=95:=by have:¬ (r:Int)=95:=h5; omega
     refine goA ?_;refine cle rfl rfl (isDigit_ok r st) ?_;refine goA ?_;refine AWP.ret (rets rfl (.refl _) (.refl _) ⟨fin ?_,rfl⟩);simp only [npA,letA,h',h4',h5',decide_false,Bool.false_and,Bool.and_false,Bool.or_false,Bool.false_or]
  ·have h3':¬ 65≤r:=by have:¬ (65:Int)≤(r:Int):=h3; omega
   refine goA ?_;refine AOps.split 21 rfl (fun h5=>absurd (show (r:Int)=95 from h5) (by omega)) (fun h5=>?_);refine goA ?_;refine cle rfl rfl (isDigit_ok r st) ?_;refine goA ?_;refine AWP.ret (rets rfl (.refl _) (.refl _) ⟨fin ?_,rfl⟩);simp only [npA,letA,h',h3',show ¬ r=95 by omega,decide_false,Bool.false_and,Bool.or_false,Bool.false_or]

theorem hasPrefixL_ok (s p:List UInt8) (st:St):ACalls Tryz.prog 98 [.str s,.str p] st (fun v st'=>v=.bool (decide (s.take p.length=p))∧st'=st) (fun _ _=>False):=by
 refine ACalls.ofBody Tryz.func98 rfl Tryz.ntmps98 rfl ?_;refine goA ?_;refine AOps.split 10 rfl (fun h=>?_) (fun h=>?_)
 ·have h':p.length≤s.length:=by have:(p.length:Int)≤(s.length:Int):=h; omega
  refine goA ?_;exact AWP.ret (rets rfl (.refl _) (.refl _) ⟨rfl,rfl⟩)
 ·have h':¬ p.length≤s.length:=by have:¬ (p.length:Int)≤(s.length:Int):=h; omega
  refine goA ?_;refine AWP.ret (rets rfl (.refl _) (.refl _) ⟨?_,rfl⟩);have:¬ s.take p.length=p:=fun e=>by
   have:=congrArg List.length e;simp only [List.length_take] at this;omega
  simp [packA,absV,abs1,this]

theorem hasPrefix_ok (s p:List UInt8) (st:St):ACalls Tryz.prog 73 [.str s,.str p] st (fun v st'=>v=.bool (decide (s.take p.length=p))∧st'=st) (fun _ _=>False):=by
 refine ACalls.ofBody Tryz.func73 rfl Tryz.ntmps73 rfl ?_;refine goA ?_;refine cle rfl rfl (hasPrefixL_ok s p st) ?_;refine goA ?_;exact AWP.ret (rets rfl (.refl _) (.refl _) ⟨rfl,rfl⟩)
theorem tw_len {q:UInt8→Bool} {l:List UInt8}:∀ {p:Nat},(∀ j,j < p→∃ b,l[j]?=some b∧q b=true)→((∃ c,l[p]?=some c∧q c=false)∨l.length≤p)→p≤l.length→(l.takeWhile q).length=p:=by
 induction l with
 | nil=>intro p _ _ h; simp at h; simp [h]
 | cons a l ih =>
  intro p h1 h2 h3;cases p with
  | zero =>
   rcases h2 with ⟨c,hc,hq⟩|h
   ·cases hc;simp [hq]
   ·simp at h
  | succ p =>
   obtain ⟨b,hb,hq⟩:=h1 0 (by omega);cases hb;rw [List.takeWhile_cons,hq,if_pos rfl,List.length_cons];rw [ih (p:=p) (fun j hj=>h1 (j + 1) (by omega)) (by
    rcases h2 with ⟨c,hc,hq⟩|h
    ·exact .inl ⟨c,hc,hq⟩
    ·exact .inr (by simpa using h)) (by simpa using h3)]

set_option maxHeartbeats 1000000 in
theorem prefix_ok (l:List UInt8) (f:Nat) [GoFun Tryz.prog f] (acc:Nat→Bool) (hacc:∀ r,128≤r→acc r=acc 128) (st:St)
  (hf:∀ (r:Nat) (st:St),ACalls Tryz.prog f [.int .i32 (r:Int)] st (fun v st'=>v=.bool (acc r)∧st'=st) (fun _ _=>False)) :
  ACalls Tryz.prog 74 [.str l,.func (.func f) [] []] st (fun v st'=>v=.int .i64 ((l.takeWhile fun c=>acc c.toNat).length:Int)∧st'=st) (fun _ _=>False):=by
 refine ACalls.ofBody Tryz.func74 rfl Tryz.ntmps74 rfl ?_;refine goA ?_;refine rgs rfl rfl fun o ho=>?_;refine goA ?_;refine AWP.loop (α:=Nat) (fun _=>[(8,.iter o),(0,.str l),(1,.func (.func f) [] [])]) (fun p=>st.set o (.iter l p)) (fun p=>p≤l.length∧∀ j,j < p→∃ b,l[j]?=some b∧acc b.toNat=true) (fun p=>l.length - p) 0 ⟨Nat.zero_le _,fun j hj=>by omega⟩ (tl3 rfl rfl rfl) (.refl _) ?_;rintro p ⟨hp,hall⟩;refine goC ?_;refine rg ?_;rcases Nat.lt_or_ge p l.length with hlt|hge
 ·have hc:l[p]?=some l[p]:=List.getElem?_eq_getElem hlt;refine nxu rfl rfl (St.obj_set _ _ _) hc fun r w hch=>?_;rw [St.set_set];refine goA ?_;refine AWP.cond_true rfl (AWP.skip ?_);refine goA ?_;refine clv rfl rfl rfl (hf r _) ?_;refine goA ?_;have hpos:=hch.pos
  have hle:=hch.le
  have hre:acc r=acc (l[p]).toNat:=by
   rcases Nat.lt_or_ge (l[p]).toNat 128 with h|h
   ·rw [(hch.low h).1]
   ·rw [hacc r (hch.high h).1,hacc _ h]
  refine AWP.cond_bool rfl (fun hb=>?_) (fun hb=>AWP.skip ?_)
  ·have hb':acc (l[p]).toNat=false:=by rw [← hre]; simpa using hb
   refine goA ?_;refine AWP.ret (rets rfl (.refl _) (StLe.new ho (.refl _)) ⟨?_,rfl⟩);rw [tw_len (q:=fun c=>acc c.toNat) hall (.inl ⟨_,hc,hb'⟩) hp];rfl
  ·have hb':acc (l[p]).toNat=true:=by rw [← hre]; simpa using hb
   refine ⟨p + w,⟨hle,fun j hj=>?_⟩,by omega,(tl3 rfl rfl rfl),.refl _⟩;rcases Nat.lt_or_ge j p with h|h
   ·exact hall j h
   ·rcases Nat.lt_or_ge (l[p]).toNat 128 with h'|h'
    ·have:=(hch.low h').2
     have:j=p:=by omega
     subst this;exact ⟨_,hc,hb'⟩
    ·obtain ⟨b,hb1,hb2⟩:=(hch.high h').2 j h hj;refine ⟨b,hb1,?_⟩;rw [hacc _ hb2,← hacc _ h',hb']
 ·refine nxe rfl rfl (St.obj_set _ _ _) hge ?_;refine goA ?_;refine AWP.cond_false rfl (AWP.exit (blk_hit ?_));refine goA ?_;refine AWP.ret (rets rfl (.refl _) (StLe.new ho (.refl _)) ⟨?_,rfl⟩);rw [tw_len (q:=fun c=>acc c.toNat) hall (.inr hge) hp];have:p=l.length:=by omega
  rw [this];rfl
theorem skip_comment:∀ (x:List UInt8) (l:Nat),skip true x l=skip false (x.drop (x.takeWhile fun c=>decide (c.toNat≠10)).length) l
 | [],l=>rfl
 | c::r,l=>by
  by_cases hc:c=10
  ·subst hc;rfl
  ·have hn:c.toNat≠10:=fun h=>hc (UInt8.toNat_inj.1 h);rw [skip,if_neg hc,cond_true,skip_comment r l,List.takeWhile_cons,if_pos (by simpa using hn),List.length_cons,List.drop_succ_cons]

def scanRow (s:List UInt8) (pos line:Nat) (om:Nat):List AV:=[.str s,.int .i64 (pos:Int),.int .i64 (line:Int),.amap om]

theorem skip_le:∀ (cm:Bool) (x:List UInt8) (l:Nat),(skip cm x l).1.length≤x.length∧(skip cm x l).2≤l + x.length∧l≤(skip cm x l).2∧∃ k,(skip cm x l).1=x.drop k
 | cm,[],l=>by simp [skip]
 | cm,c::r,l=>by
  have pass:∀ cm' l',l≤l'→l'≤l + 1→((skip cm' r l').1.length≤(c::r).length∧(skip cm' r l').2≤l + (c::r).length∧l≤(skip cm' r l').2∧∃ k,(skip cm' r l').1=(c::r).drop k):=by
   intro cm' l' h1 h2;obtain ⟨q1,q2,q3,k,q4⟩:=skip_le cm' r l';refine ⟨?_,?_,by omega,k + 1,by rw [q4,List.drop_succ_cons]⟩
   ·simp only [List.length_cons]; omega
   ·simp only [List.length_cons]; omega
  unfold skip;split
  ·exact pass _ _ (by omega) (by omega)
  ·cases cm
   ·rw [cond_false];split
    ·exact pass _ _ (by omega) (by omega)
    ·split
     ·exact pass _ _ (by omega) (by omega)
     ·exact ⟨Nat.le_refl _,by simp,Nat.le_refl _,0,rfl⟩
   ·exact pass _ _ (by omega) (by omega)

set_option maxHeartbeats 4000000 in
theorem skip_ok (s:List UInt8) (hs:s.length≤1000000) (pos line om os:Nat) (hp:pos≤s.length) (hline:line≤1000000 + pos) (st:St) :
  ACalls Tryz.prog 40 [.cptr os 4 0 0] (st.set os (.cells 99 4 [scanRow s pos line om]))
   (fun _ st'=>st'=st.set os (.cells 99 4 [scanRow s (s.length - (skip false (s.drop pos) line).1.length) (skip false (s.drop pos) line).2 om])) (fun _ _=>False):=by
 refine ACalls.ofBody Tryz.func40 rfl Tryz.ntmps40 rfl ?_;refine goA ?_;refine AWP.loop (α:=Nat × Nat) (fun _=>[(0,.cptr os 4 0 0)]) (fun x=>st.set os (.cells 99 4 [scanRow s x.1 x.2 om])) (fun x=>x.1≤s.length∧x.2≤1000000 + x.1∧skip false (s.drop x.1) x.2=skip false (s.drop pos) line) (fun x=>s.length - x.1) (pos,line) ⟨hp,hline,rfl⟩ (tl1 rfl) (.refl _) ?_;rintro ⟨p,ln⟩ ⟨h1,h2,h3⟩;simp only at h1 h2 h3;refine goC ?_;refine AWP.draw rfl 10 10 (fun _ _=>False) rfl ?_;repeat (first|refine ds rfl rfl ?_|refine dq rfl rfl rfl (fun st1 hle=>fa rfl rfl (nl ⟨_,rfl,rfl,rfl⟩)) ?_|refine dq rfl rfl rfl (fun st1 hle=>lns rfl rfl (nl ⟨_,rfl,rfl,rfl⟩)) ?_|refine dq rfl rfl rfl (fun st1 hle=>lc rfl rfl (hle.obj _ _ (St.obj_set _ _ _)) rfl rfl (nl ⟨_,rfl,rfl,rfl⟩)) ?_)
 refine dn ⟨fun _=>?_,fun h=>absurd h (by decide)⟩;refine goA ?_;refine AWP.cond_dec rfl (fun h=>AWP.skip ?_) (fun h=>AWP.exit (blk_hit ?_))
 ·have hlt:p < s.length:=by have:(p:Int) < (s.length:Int):=h; omega
  have hc:s[p]?=some s[p]:=List.getElem?_eq_getElem hlt
  have hd:s.drop p=s[p]::s.drop (p + 1):=List.drop_eq_getElem_cons hlt;generalize s[p]=c at hc hd;refine AWP.weaken (tl1 (i0:=0) rfl) (.refl _) ?_;refine goC ?_;refine AWP.draw rfl 10 10 (fun _ _=>False) rfl ?_;repeat (first|refine ds rfl rfl ?_|refine dq rfl rfl rfl (fun st1 hle=>fa rfl rfl (nl ⟨_,rfl,rfl,rfl⟩)) ?_|refine dq rfl rfl rfl (fun st1 hle=>lc rfl rfl (hle.obj _ _ (St.obj_set _ _ _)) rfl rfl (nl ⟨_,rfl,rfl,rfl⟩)) ?_|refine dq rfl rfl rfl (fun st1 hle=>sx rfl rfl rfl rfl (by assumption) (nl ⟨_,rfl,rfl,rfl⟩)) ?_)
  refine dn ⟨fun _=>?_,fun h=>absurd h (by decide)⟩;refine goA ?_;have hcn:∀ k:Nat,((c.toNat:Int)=(k:Int)) ↔ c.toNat=k:=fun k=>by omega
  refine AWP.cond_dec rfl (fun h=>?_) (fun h=>?_)
  ·have hc10:c=10:=UInt8.toNat_inj.1 (by have:(c.toNat:Int)=10:=h; show c.toNat=10; omega);refine goA ?_;refine sos (rows':=[scanRow s p (ln + 1) om]) rfl rfl rfl rfl rfl rfl rfl rfl ?_;refine goA ?_;refine sos (rows':=[scanRow s (p + 1) (ln + 1) om]) rfl rfl rfl rfl rfl rfl rfl rfl ?_;refine goA ?_;refine ⟨(p + 1,ln + 1),⟨hlt,by simp only; omega,?_⟩,by simp only; omega,(tl1 rfl),.refl _⟩;rw [← h3,hd,hc10];rfl
  ·have hc10:c≠10:=fun e=>h (by rw [e]; rfl)
   have hnum:∀ k:UInt8,((c.toNat:Int)=(k.toNat:Int)) ↔ c=k:=fun k=>by
    rw [Int.ofNat_inj];exact UInt8.toNat_inj
   refine AWP.weaken (tl2 (i0:=2) (i1:=0) rfl rfl) (.refl _) ?_;refine tst 39 (.bool (decide (c=32∨c=9∨c=13))) (rg ?_) ?_
   ·refine goB ?_;refine AOps.split 42 rfl (fun h1=>?_) (fun h1=>?_)
    ·have h1':c=32:=(hnum 32).1 h1;refine goB ?_;exact nl ⟨TLe.consE rfl (by simp [h1',absV,abs1]) (tl2 rfl rfl),.refl _⟩
    ·have h1':c≠32:=fun e=>h1 ((hnum 32).2 e);refine goB ?_;refine AOps.split 46 rfl (fun h2=>?_) (fun h2=>?_)
     ·have h2':c=9:=(hnum 9).1 h2;refine goB ?_;exact nl ⟨TLe.consE rfl (by simp [h2',absV,abs1]) (tl2 rfl rfl),.refl _⟩
     ·have h2':c≠9:=fun e=>h2 ((hnum 9).2 e);refine goB ?_;exact nl ⟨TLe.consE rfl (by simp only [h1',h2',false_or]; congr 1; exact decide_eq_decide.2 (hnum 13)) (tl2 rfl rfl),.refl _⟩
   ·refine AWP.cond_dec rfl (fun hb=>?_) (fun hb=>?_)
    ·refine goA ?_;refine sos (rows':=[scanRow s (p + 1) ln om]) rfl rfl rfl rfl rfl rfl rfl rfl ?_;refine goA ?_;refine ⟨(p + 1,ln),⟨hlt,by simp only; omega,?_⟩,by simp only; omega,(tl1 rfl),.refl _⟩;rw [← h3,hd,skip,if_neg hc10,cond_false,if_pos hb]
    ·have hpl:p≤s.length:=h1;refine goC ?_;refine AWP.draw rfl 8 8 (fun _ _=>False) rfl ?_;repeat (first|refine ds rfl rfl ?_|refine dq rfl rfl rfl (fun st1 hle=>fa rfl rfl (nl ⟨_,rfl,rfl,rfl⟩)) ?_|refine dq rfl rfl rfl (fun st1 hle=>lc rfl rfl (hle.obj _ _ (St.obj_set _ _ _)) rfl rfl (nl ⟨_,rfl,rfl,rfl⟩)) ?_)
     refine dn ⟨fun _=>?_,fun h=>absurd h (by decide)⟩;refine goA ?_;refine cle rfl rfl (hasPrefix_ok (s.drop p) [47,47] _) ?_;refine goA ?_;have htw:(s.drop p).take [47,47].length=[47,47] ↔ (c=47∧(s.drop (p + 1)).head?=some 47):=by
      rw [hd];cases hr:s.drop (p + 1) with
      | nil=>simp
      | cons b r=>simp
     refine AWP.cond_dec rfl (fun ht=>?_) (fun ht=>?_)
     ·obtain ⟨ht1,ht2⟩:=htw.1 ht
      skip
      refine AWP.draw rfl 14 14 (fun _ _=>False) rfl ?_;repeat (first|refine ds rfl rfl ?_|refine dq rfl rfl rfl (fun st1 hle=>fa rfl rfl (nl ⟨_,rfl,rfl,rfl⟩)) ?_|refine dq rfl rfl rfl (fun st1 hle=>lc rfl rfl (hle.obj _ _ (St.obj_set _ _ _)) rfl rfl (nl ⟨_,rfl,rfl,rfl⟩)) ?_|refine dq rfl rfl rfl (fun st1 hle=>ssl rfl rfl rfl (by omega) (nl ⟨_,rfl,rfl,rfl⟩)) ?_)
      refine dq rfl rfl rfl (fun st1 hle=>cle rfl rfl (prefix_ok (s.drop p) 75 (fun r=>decide (r≠10)) (fun r hr=>by simp; omega) st1 notNl_ok) (nl ⟨_,rfl,rfl,rfl⟩)) ?_;refine dn ⟨fun _=>?_,fun h=>absurd h (by decide)⟩;have htl:=(List.takeWhile_prefix (fun c:UInt8=>decide (c.toNat≠10)) (l:=s.drop p)).length_le
      have htp:1≤((s.drop p).takeWhile fun c=>decide (c.toNat≠10)).length:=by
       have hn:c.toNat≠10:=fun h=>hc10 (UInt8.toNat_inj.1 h);rw [hd,List.takeWhile_cons,if_pos (by simpa using hn)];simp
      rw [List.length_drop] at htl;have hsk:skip false (s.drop p) ln=skip false (s.drop (p + ((s.drop p).takeWhile fun c=>decide (c.toNat≠10)).length)) ln:=by
       have e1:skip false (s.drop p) ln=skip true (s.drop p) ln:=by
        rw [hd,skip,if_neg hc10,cond_false,if_neg hb,if_pos ⟨ht1,ht2⟩,skip,if_neg hc10,cond_true]
       rw [e1,skip_comment,List.drop_drop]
      generalize ((s.drop p).takeWhile fun c=>decide (c.toNat≠10)).length=m at htl htp hsk;refine goA ?_;refine sos (rows':=[scanRow s (p + m) ln om]) rfl rfl rfl rfl rfl rfl rfl rfl ?_;refine goA ?_;refine ⟨(p + m,ln),⟨by simp only; omega,by simp only; omega,?_⟩,by simp only; omega,(tl1 rfl),.refl _⟩;rw [← h3];exact hsk.symm
     ·refine AWP.ret (rets rfl (.refl _) (.refl _) ?_);have hfin:skip false (s.drop p) ln=(s.drop p,ln):=by
       rw [hd,skip,if_neg hc10,cond_false,if_neg hb,if_neg (fun e=>ht (htw.2 e))]
      rw [← h3,hfin,List.length_drop,show s.length - (s.length - p)=p by omega]
 ·have hpe:p=s.length:=by have:¬ (p:Int) < (s.length:Int):=h; omega
  subst hpe;refine rets rfl (.refl _) (.refl _) ?_;rw [← h3,List.drop_length];rfl
def zTk:Tk:=⟨0,0,[],0⟩
def tkE (t:Tk) (e:Nat):AV:=.tuple [.agg (tokRow t),.int .i64 (e:Int)]

theorem digits_snoc (l:List UInt8) (c:UInt8):digits (l++[c])=digits l * 10 + (c.toNat - 48):=by simp [digits]

theorem digits_lt:∀ (n:Nat) (l:List UInt8),l.length=n→(∀ c ∈ l,isDig c=true)→digits l < 10 ^ n
 | 0,l,h,_=>by
  have:l=[]:=List.eq_nil_of_length_eq_zero h;subst this;simp [digits]
 | n + 1,l,h,hd=>by
  obtain ⟨l',c,rfl⟩:∃ l' c,l=l'++[c]:=⟨l.dropLast,l.getLast (by rintro rfl; simp at h),(List.dropLast_concat_getLast _).symm⟩;have ih:=digits_lt n l' (by simpa using h) fun c hc=>hd c (by simp [hc])
  have hc:=hd c (by simp);simp only [isDig,Bool.and_eq_true,decide_eq_true_eq] at hc;rw [digits_snoc,Nat.pow_succ];omega

theorem wrap32 {a:Int} (h:-2147483648≤a∧a < 2147483648):IntKind.i32.wrap a=a:=by
 simp only [IntKind.wrap,IntKind.bits,IntKind.signed];simp;split <;> omega

theorem npA_const:∀ r,128≤r→npA r=npA 128:=by
 intro r hr;have h1:¬ r≤122:=by omega
 have h2:¬ r≤90:=by omega
 have h3:¬ r=95:=by omega
 have h4:¬ r≤57:=by omega
 simp [npA,letA,digA,h1,h2,h3,h4]
theorem digA_const:∀ r,128≤r→digA r=digA 128:=by
 intro r hr;have h4:¬ r≤57:=by omega
 simp [digA,h4]

theorem tw_pos (q:UInt8→Bool) (l:List UInt8):0 < (l.takeWhile q).length ↔ (l.head?.map q).getD false=true:=by
 cases l with
 | nil=>simp
 | cons c l =>
  cases h:q c <;> simp [h]

def numR (rest:List UInt8) (n line:Nat):Except Nat Tk:=if 18 < n then .error 5 else if ((rest.drop n).head?.map isNP).getD false=true then .error 6 else .ok ⟨2,line,[],digits (rest.take n)⟩

def exV:Except Nat Tk→AV
 | .error e=>tkE zTk e
 | .ok t=>tkE t 0
def exP {α:Type} (pos n:Nat):Except Nat α→Nat
 | .error _=>pos
 | .ok _=>pos + n

set_option maxHeartbeats 4000000 in
theorem number_ok (s rest:List UInt8) (hs:s.length≤1000000) (n pos line om os:Nat) (hn:n≤rest.length) (hp:pos + n≤s.length) (hd:∀ c ∈ rest.take n,isDig c=true) (st:St) :
  ACalls Tryz.prog 77 [.cptr os 4 0 0,.str rest,.int .i64 (n:Int)] (st.set os (.cells 99 4 [scanRow s pos line om]))
   (fun v st'=>v=exV (numR rest n line)∧st'=st.set os (.cells 99 4 [scanRow s (exP pos n (numR rest n line)) line om])) (fun _ _=>False):=by
 refine ACalls.ofBody Tryz.func77 rfl Tryz.ntmps77 rfl ?_;refine goC ?_;refine rg ?_;refine al rfl rfl fun o6 ho6=>?_;have hne:o6≠os:=by rintro rfl; rw [St.obj_set] at ho6; cases ho6
 have hn6:st.obj o6=none:=by rwa [St.obj_set_ne hne] at ho6
 have hos:∀ (c:AObj) (d:AObj),((st.set os c).set o6 d).obj os=some c:=fun c d=>(St.obj_set_ne (fun e=>hne e.symm)).trans (St.obj_set _ _ _);refine goA ?_;refine AWP.cond_dec rfl (fun h=>?_) (fun h=>AWP.skip ?_)
 ·have h':18 < n:=by have:(18:Int) < (n:Int):=h; omega
  have e:numR rest n line=.error 5:=by rw [numR,if_pos h']
  refine goC ?_;refine rg ?_;refine bds (cs:=tokRow zTk) rfl rfl rfl rfl ?_;refine soV rfl rfl rfl rfl rfl rfl ?_;refine goA ?_;refine AWP.ret (rets (resCW rfl (St.obj_set _ _ _) rfl rfl rfl rfl) (.refl _) (StLe.new ho6 (.refl _)) ⟨?_,?_⟩)
  ·rw [e]; rfl
  ·rw [e]; rfl
 ·have h':n≤18:=by have:¬ (18:Int) < (n:Int):=h; omega
  refine goA ?_;refine cle rfl rfl (prefix_ok (rest.drop n) 78 npA npA_const _ isNamePart_ok) ?_;refine goA ?_;refine AWP.cond_dec rfl (fun h2=>?_) (fun h2=>AWP.skip ?_)
  ·have h2':((rest.drop n).head?.map isNP).getD false=true:=(tw_pos isNP _).1 (Int.ofNat_lt.1 h2)
   have e:numR rest n line=.error 6:=by rw [numR,if_neg (by omega),if_pos h2']
   refine goC ?_;refine rg ?_;refine bds (cs:=tokRow zTk) rfl rfl rfl rfl ?_;refine soV rfl rfl rfl rfl rfl rfl ?_;refine goA ?_;refine AWP.ret (rets (resCW rfl (St.obj_set _ _ _) rfl rfl rfl rfl) (.refl _) (StLe.new ho6 (.refl _)) ⟨?_,?_⟩)
   ·rw [e]; rfl
   ·rw [e]; rfl
  ·have h2':¬ ((rest.drop n).head?.map isNP).getD false=true:=fun e=>h2 (Int.ofNat_lt.2 ((tw_pos isNP _).2 e))
   have e:numR rest n line=.ok ⟨2,line,[],digits (rest.take n)⟩:=by rw [numR,if_neg (by omega),if_neg h2']
   rw [e];refine AWP.weaken (tl4 (i0:=0) (i1:=1) (i2:=2) (i3:=6) rfl rfl rfl rfl) (.refl _) ?_;refine goC ?_;refine rg ?_;refine sm rfl ?_;refine sm rfl ?_;refine fa rfl rfl ?_;refine lc rfl rfl (hos _ _) rfl rfl ?_;refine goA ?_;refine so (rows':=[scanRow s (pos + n) line om]) rfl rfl rfl (hos _ _) rfl rfl rfl rfl rfl ?_;rw [St.set_inner hne];refine goA ?_;refine rgs rfl rfl fun oi hoi=>?_;refine goA ?_;have hds:(rest.take n).length=n:=by rw [List.length_take]; omega
   have hneo:=St.new_ne hoi;refine AWP.loop (α:=Nat) (fun j=>[(31,.iter oi),(8,.int .i64 ((digits ((rest.take n).take j):Nat):Int)),(0,.cptr os 4 0 0),(6,.cptr o6 4 0 0)])
    (fun j=>((st.set os (.cells 99 4 [scanRow s (pos + n) line om])).set o6 (.cells 64 4 [tokRow zTk])).set oi (.iter (rest.take n) j)) (fun j=>j≤n) (fun j=>n - j) 0 (Nat.zero_le _) (tl4 rfl rfl rfl rfl) (.refl _) ?_
   intro j hj;refine goC ?_;refine rg ?_;rcases Nat.lt_or_ge j n with hlt|hge
   ·have hc:(rest.take n)[j]?=some (rest.take n)[j]:=List.getElem?_eq_getElem (by omega)
    have hdc:=hd _ (List.getElem_mem (show j < (rest.take n).length by omega))
    have hsn:digits ((rest.take n).take (j + 1))=digits ((rest.take n).take j) * 10 + ((rest.take n)[j].toNat - 48):=by
     rw [List.take_add_one,hc,Option.toList_some,digits_snoc]
    have hb:digits ((rest.take n).take j) < 10 ^ j:=digits_lt j _ (by rw [List.length_take,hds]; omega) fun c hc=>hd c (List.mem_of_mem_take hc)
    have hb2:10 ^ j≤10 ^ 17:=Nat.pow_le_pow_right (by omega) (by omega);generalize (rest.take n)[j]=c at hc hdc hsn;simp only [isDig,Bool.and_eq_true,decide_eq_true_eq] at hdc;refine nxu rfl rfl (St.obj_set _ _ _) hc fun r w hch=>?_;obtain ⟨rfl,rfl⟩:=hch.low (by omega);rw [St.set_set];refine goA ?_;refine AWP.cond_true rfl (AWP.skip ?_);refine goA ?_;generalize digits ((rest.take n).take j)=v at hsn hb;have hb3:v < 10 ^ 17:=by omega
    refine mlk (c:=((v * 10:Nat):Int)) rfl rfl rfl (by rw [wrap64 (by omega)]; omega) ?_;refine goA ?_;refine sbk (c:=((c.toNat - 48:Nat):Int)) rfl rfl rfl (by rw [wrap32 (by omega)]; omega) ?_;refine cv (c:=((c.toNat - 48:Nat):Int)) rfl rfl (wrap64 (by omega)) ?_;refine goA ?_;refine ⟨j + 1,hlt,by omega,?_,.refl _⟩;rw [hsn];exact (tl4 rfl rfl rfl rfl)
   ·have hjn:j=n:=by omega
    subst hjn;refine nxe rfl rfl (St.obj_set _ _ _) (by omega) ?_;refine goA ?_;refine AWP.cond_false rfl (AWP.exit (blk_hit ?_));rw [show (rest.take j).take j=rest.take j from List.take_of_length_le (by omega)];refine AWP.weaken (T':=[(8,.int .i64 ((digits (rest.take j):Nat):Int)),(0,.cptr os 4 0 0),(6,.cptr o6 4 0 0)]) (tl3 rfl rfl rfl) (StLe.new hoi (.refl _)) ?_;refine goC ?_;refine rg ?_;refine sm rfl ?_;refine sm rfl ?_;refine fa rfl rfl ?_;refine lc rfl rfl (hos _ _) rfl rfl ?_;refine goA ?_;refine bds (cs:=tokRow ⟨2,line,[],digits (rest.take j)⟩) rfl rfl rfl rfl ?_;refine soV rfl rfl rfl rfl rfl rfl ?_;refine goA ?_;refine AWP.ret (rets (resCW rfl (St.obj_set _ _ _) rfl rfl rfl rfl) (.refl _) (StLe.new (by rw [St.obj_set_ne hne]; exact hn6) (.refl _)) ⟨rfl,rfl⟩)
def allSigns:List (List UInt8):=signs2++signs1.map fun c=>[c]
def signRow:List AV:=allSigns.map .str

theorem find_len (k:Nat) (rest:List UInt8):∀ (S:List (List UInt8)),(∀ g ∈ S,g.length=k)→S.find? (fun g=>decide (rest.take g.length=g))=if rest.take k ∈ S then some (rest.take k) else none
 | [],_=>by simp
 | g::S,h=>by
  have hg:=h g (by simp)
  have ih:=find_len k rest S fun g hg=>h g (List.mem_cons_of_mem _ hg);rw [List.find?_cons];by_cases e:rest.take k=g
  ·simp [hg,e]
  ·rw [hg,decide_eq_false e,ih];simp [List.mem_cons,e]

theorem sign_find (rest:List UInt8):sign rest=(allSigns.find? fun g=>decide (rest.take g.length=g)).getD []:=by
 unfold allSigns;rw [List.find?_append,find_len 2 rest signs2 (by decide),find_len 1 rest _ (by decide)];unfold sign;by_cases h2:rest.take 2 ∈ signs2
 ·simp [h2]
 ·rw [if_neg h2,if_neg h2];cases rest with
  | nil=>simp
  | cons c r =>
   by_cases h1:c ∈ signs1
   ·have:(c::r).take 1 ∈ signs1.map fun c=>[c]:=List.mem_map.2 ⟨c,h1,by simp⟩;rw [if_pos this];simp [h1]
   ·have:¬ (c::r).take 1 ∈ signs1.map fun c=>[c]:=by
     simp only [List.mem_map,List.take_succ_cons,List.take_zero,List.cons.injEq,and_true,exists_eq_right];exact h1
    rw [if_neg this];simp [h1]

theorem sign_at {rest:List UInt8} {i:Nat} {g:List UInt8} (hi:allSigns[i]?=some g) (hno:∀ j,j < i→∀ g',allSigns[j]?=some g'→¬ rest.take g'.length=g') (hg:rest.take g.length=g):sign rest=g:=by
 rw [sign_find];have:allSigns.find? (fun g=>decide (rest.take g.length=g))=some g:=by
  rw [List.find?_eq_some_iff_getElem];refine ⟨by simpa using hg,i,(List.getElem?_eq_some_iff.1 hi).1,(List.getElem?_eq_some_iff.1 hi).2,fun j hj=>?_⟩;have hjl:j < allSigns.length:=by have:=(List.getElem?_eq_some_iff.1 hi).1; omega
  simpa using hno j hj _ (List.getElem?_eq_getElem hjl)
 rw [this];rfl

theorem sign_none {rest:List UInt8} (hno:∀ j,j < 24→∀ g',allSigns[j]?=some g'→¬ rest.take g'.length=g'):sign rest=[]:=by
 rw [sign_find];have:allSigns.find? (fun g=>decide (rest.take g.length=g))=none:=by
  rw [List.find?_eq_none];intro g hg;obtain ⟨j,hj,rfl⟩:=List.getElem_of_mem hg
  simpa using hno j hj _ (List.getElem?_eq_getElem hj)
 rw [this];rfl

theorem mem_tw {q:UInt8→Bool}:∀ {l:List UInt8} {c:UInt8},c ∈ l.takeWhile q→q c=true
 | [],c,h=>by cases h
 | a::l,c,h=>by
  rw [List.takeWhile_cons] at h;split at h
  ·rename_i ha;rcases List.mem_cons.1 h with rfl|h
   ·exact ha
   ·exact mem_tw h
  ·cases h

def oneV:Except Nat (Tk × Nat)→AV
 | .error e=>tkE zTk e
 | .ok (t,_)=>tkE t 0
def oneP (pos:Nat):Except Nat (Tk × Nat)→Nat
 | .error _=>pos
 | .ok (_,m)=>pos + m

structure WMap (m:List (List UInt8 × AV)):Prop where
 look:∀ nm,slook nm m=if nm ∈ words then some (.bool true) else none

set_option maxHeartbeats 8000000 in
theorem token_ok (s:List UInt8) (hs:s.length≤1000000) (pos line om os:Nat) (hp:pos < s.length) (wm:List (List UInt8 × AV)) (hwm:WMap wm) (st:St) (hom:st.obj om=some (.smap wm)) (hoo:om≠os) (hg:st.row 1=some signRow) :
  ACalls Tryz.prog 41 [.cptr os 4 0 0] (st.set os (.cells 99 4 [scanRow s pos line om]))
   (fun v st'=>v=oneV (one (s.drop pos) line)∧st'=st.set os (.cells 99 4 [scanRow s (oneP pos (one (s.drop pos) line)) line om])) (fun _ _=>False):=by
 refine ACalls.ofBody Tryz.func41 rfl Tryz.ntmps41 rfl ?_;have hple:pos≤s.length:=by omega
 have hd:s.drop pos=s[pos]::s.drop (pos + 1):=List.drop_eq_getElem_cons hp
 have hdl:(s.drop pos).length=s.length - pos:=List.length_drop ..;refine goC ?_;refine rg ?_;refine al rfl rfl fun o2 ho2=>?_;have hne:=St.new_ne ho2
 have hn2:=St.new_old ho2
 have hos:∀ (c:AObj) (d:AObj),((st.set os c).set o2 d).obj os=some c:=fun c d=>St.obj_under hne c d
 have hosn:∀ (c:AObj) (d:AObj),((st.set os c).set o2 d).notok.obj os=some c:=fun c d=>St.obj_under hne c d
 have homn:∀ (c:AObj) (d:AObj),((st.set os c).set o2 d).obj om=some (.smap wm):=fun c d=>by
  have h2:om≠o2:=by rintro rfl; rw [hn2] at hom; cases hom
  rw [St.obj_set_ne h2,St.obj_set_ne hoo];exact hom
 refine goA ?_;have hosn1:=hosn (.cells 99 4 [scanRow s pos line om]) (.cells 64 4 [tokRow zTk]);refine AWP.draw rfl 8 8 (fun _ _=>False) rfl ?_;repeat (first|refine ds rfl rfl ?_|refine dq rfl rfl rfl (fun st1 hle=>fa rfl rfl (nl ⟨_,rfl,rfl,rfl⟩)) ?_|refine dq rfl rfl rfl (fun st1 hle=>lc rfl rfl (hle.obj _ _ (by assumption)) rfl rfl (nl ⟨_,rfl,rfl,rfl⟩)) ?_)
 refine dn ⟨fun _=>?_,fun h=>absurd h (by decide)⟩;refine goA ?_;refine cle rfl rfl (prefix_ok (s.drop pos) 76 digA digA_const _ isDigit_ok) ?_;refine goA ?_;have hdt:=tw_pos isDig (s.drop pos)
 have hnt:=tw_pos isNP (s.drop pos)
 have hdle:=(List.takeWhile_prefix isDig (l:=s.drop pos)).length_le
 have hnle:=(List.takeWhile_prefix isNP (l:=s.drop pos)).length_le;rw [hdl] at hdle hnle;have hone:one (s.drop pos) line=bif isLet s[pos] then (let nm:=(s.drop pos).takeWhile isNP; if 12 < nm.length then .error 5 else .ok (⟨if nm ∈ words then 3 else 1,line,nm,0⟩,nm.length))
  else bif isDig s[pos] then (let ds:=(s.drop pos).takeWhile isDig; if 18 < ds.length then .error 5 else if (((s.drop pos).drop ds.length).head?.map isNP).getD false=true then .error 6 else .ok (⟨2,line,[],digits ds⟩,ds.length))
  else if sign (s.drop pos)=[] then .error 6 else .ok (⟨4,line,sign (s.drop pos),0⟩,(sign (s.drop pos)).length):=by
  rw [hd];rfl
 have hhead:(s.drop pos).head?=some s[pos]:=by rw [hd]; rfl
 rw [hhead] at hdt hnt;simp only [Option.map_some,Option.getD_some] at hdt hnt;generalize s[pos]=c at hone hdt hnt;refine AWP.cond_dec rfl (fun h=>?_) (fun h=>AWP.skip ?_)
 ·have hcd:isDig c=true:=hdt.1 (Int.ofNat_lt.1 h)
  have hcl:isLet c=false:=by
   cases hl:isLet c with
   | false=>rfl
   | true=>simp [isLet,isDig] at hl hcd; omega
  rw [hcl,cond_false,hcd,cond_true] at hone;have htk:(s.drop pos).take ((s.drop pos).takeWhile isDig).length=(s.drop pos).takeWhile isDig:=(List.prefix_iff_eq_take.1 (List.takeWhile_prefix isDig)).symm
  have hres:one (s.drop pos) line=(match numR (s.drop pos) ((s.drop pos).takeWhile isDig).length line with|.error e=>.error e|.ok t=>.ok (t,((s.drop pos).takeWhile isDig).length)):=by
   rw [hone,numR,htk];simp only;split
   ·rfl
   ·split <;> rfl
  refine goA ?_;rw [St.set_comm st (Ne.symm hne)];refine cl rfl rfl (number_ok s (s.drop pos) hs ((s.drop pos).takeWhile isDig).length pos line om os (by omega) (by omega) (by
   rw [htk];intro c hc;exact mem_tw hc) _) fun v st' ⟨hv,hst⟩=>?_
  subst hv;subst hst;rw [St.set_comm st hne];have hn2':∀ c:AObj,(st.set os c).obj o2=none:=fun c=>by rw [St.obj_set_ne hne]; exact hn2
  cases hnr:numR (s.drop pos) ((s.drop pos).takeWhile isDig).length line with
  | error e =>
   rw [hnr] at hres;rw [hres];refine AOps.weaken (T':=[(26,exV (.error e)),(2,.cptr o2 4 0 0)]) (tl2 rfl rfl) (.refl _) ?_;refine goB ?_;refine soV rfl rfl rfl rfl rfl rfl ?_;refine goA ?_;exact AWP.ret (rets (resCW rfl (St.obj_set _ _ _) rfl rfl rfl rfl) (.refl _) (StLe.new (hn2' _) (.refl _)) ⟨rfl,rfl⟩)
  | ok t =>
   rw [hnr] at hres;rw [hres];refine AOps.weaken (T':=[(26,exV (.ok t)),(2,.cptr o2 4 0 0)]) (tl2 rfl rfl) (.refl _) ?_;refine goB ?_;refine soV rfl rfl rfl rfl rfl rfl ?_;refine goA ?_;exact AWP.ret (rets (resCW rfl (St.obj_set _ _ _) rfl rfl rfl rfl) (.refl _) (StLe.new (hn2' _) (.refl _)) ⟨rfl,rfl⟩)
 ·have hcd:isDig c=false:=by
   cases hl:isDig c with
   | false=>rfl
   | true=>exact absurd (Int.ofNat_lt.2 (hdt.2 hl)) h
  have hn2':∀ c:AObj,(st.set os c).obj o2=none:=fun c=>by rw [St.obj_set_ne hne]; exact hn2
  refine AWP.weaken (tl4 (i0:=4) (i1:=3) (i2:=2) (i3:=0) rfl rfl rfl rfl) (.refl _) ?_;refine goA ?_;refine cle rfl rfl (prefix_ok (s.drop pos) 78 npA npA_const _ isNamePart_ok) ?_;refine goA ?_;refine AWP.cond_dec rfl (fun h=>?_) (fun h=>AWP.skip ?_)
  ·have hcl:isLet c=true:=by
    have h1:isNP c=true:=hnt.1 (Int.ofNat_lt.1 h)
    simpa [isNP,hcd] using h1
   rw [hcl,cond_true] at hone;have htk:(s.drop pos).take ((s.drop pos).takeWhile isNP).length=(s.drop pos).takeWhile isNP:=(List.prefix_iff_eq_take.1 (List.takeWhile_prefix isNP)).symm
   change _=(((s.drop pos).takeWhile fun c=>npA c.toNat)) at htk
   have hnpe:((s.drop pos).takeWhile fun c=>npA c.toNat)=(s.drop pos).takeWhile isNP:=rfl;rw [hnpe] at htk ⊢;generalize (s.drop pos).takeWhile isNP=nm at hone htk hnle;simp only at hone;refine AWP.weaken (tl5 (i0:=6) (i1:=4) (i2:=3) (i3:=2) (i4:=0) rfl rfl rfl rfl rfl) (.refl _) ?_;refine goA ?_;refine AWP.cond_dec rfl (fun h2=>?_) (fun h2=>AWP.skip ?_)
   ·have h2':12 < nm.length:=by have:(12:Int) < (nm.length:Int):=h2; omega
    rw [if_pos h2'] at hone;rw [hone];refine goC ?_;refine rg ?_;refine bds (cs:=tokRow zTk) rfl rfl rfl rfl ?_;refine soV rfl rfl rfl rfl rfl rfl ?_;refine goA ?_;exact AWP.ret (rets (resCW rfl (St.obj_set _ _ _) rfl rfl rfl rfl) (.refl _) (StLe.new ho2 (.refl _)) ⟨rfl,rfl⟩)
   ·have h2':¬ 12 < nm.length:=by have:¬ (12:Int) < (nm.length:Int):=h2; omega
    rw [if_neg h2'] at hone;rw [hone];have hos1:=hos (.cells 99 4 [scanRow s pos line om]) (.cells 64 4 [tokRow zTk]);refine goA ?_;refine so (rows':=[scanRow s (pos + nm.length) line om]) rfl rfl rfl (hos _ _) rfl rfl rfl rfl rfl ?_;rw [St.set_inner hne];refine goA ?_;have hosn2:=hosn (.cells 99 4 [scanRow s (pos + nm.length) line om]) (.cells 64 4 [tokRow zTk]);refine AWP.weaken (tl5 (i0:=7) (i1:=6) (i2:=4) (i3:=2) (i4:=0) rfl rfl rfl rfl rfl) (.refl _) ?_
    skip
    refine AWP.draw rfl 7 7 (fun _ _=>False) rfl ?_;repeat (first|refine ds rfl rfl ?_|refine dq rfl rfl rfl (fun st1 hle=>fa rfl rfl (nl ⟨_,rfl,rfl,rfl⟩)) ?_|refine dq rfl rfl rfl (fun st1 hle=>lc rfl rfl (hle.obj _ _ (by assumption)) rfl rfl (nl ⟨_,rfl,rfl,rfl⟩)) ?_|refine dq rfl rfl rfl (fun st1 hle=>ssh rfl rfl rfl (by omega) (nl ⟨_,rfl,rfl,rfl⟩)) ?_)
    refine dn ⟨fun _=>?_,fun h=>absurd h (by decide)⟩;refine lku rfl rfl rfl (homn _ _) ?_;rw [htk,hwm.look];have hval:((if nm ∈ words then some (AV.bool true) else none).getD (absV (.bool false)))=.bool (decide (nm ∈ words)):=by
     by_cases hw:nm ∈ words <;> simp [hw,absV,abs1]
    rw [hval];refine goA ?_;refine midk [(7,.int .i64 ((if nm ∈ words then 3 else 1:Nat):Int)),(6,.int .i64 (nm.length:Int)),(4,.str (s.drop pos)),(2,.cptr o2 4 0 0),(0,.cptr os 4 0 0)] ((st.set os (.cells 99 4 [scanRow s (pos + nm.length) line om])).set o2 (.cells 64 4 [tokRow zTk])) ?_ ?_
    ·refine AWP.cond_dec rfl (fun hw=>?_) (fun hw=>AWP.skip ?_)
     ·rw [if_pos hw];refine goA ?_;exact ⟨(tl5 rfl rfl rfl rfl rfl),.refl _⟩
     ·rw [if_neg hw];exact ⟨(tl5 rfl rfl rfl rfl rfl),.refl _⟩
    ·refine goC ?_;refine AWP.draw rfl 8 8 (fun _ _=>False) rfl ?_;repeat (first|refine ds rfl rfl ?_|refine dq rfl rfl rfl (fun st1 hle=>fa rfl rfl (nl ⟨_,rfl,rfl,rfl⟩)) ?_|refine dq rfl rfl rfl (fun st1 hle=>lc rfl rfl (hle.obj _ _ (by assumption)) rfl rfl (nl ⟨_,rfl,rfl,rfl⟩)) ?_|refine dq rfl rfl rfl (fun st1 hle=>ssh rfl rfl rfl (by omega) (nl ⟨_,rfl,rfl,rfl⟩)) ?_)
     refine dn ⟨fun _=>?_,fun h=>absurd h (by decide)⟩;rw [htk];refine bds (cs:=tokRow ⟨if nm ∈ words then 3 else 1,line,nm,0⟩) rfl rfl rfl rfl ?_;refine soV rfl rfl rfl rfl rfl rfl ?_;refine goA ?_;exact AWP.ret (rets (resCW rfl (St.obj_set _ _ _) rfl rfl rfl rfl) (.refl _) (StLe.new (hn2' _) (.refl _)) ⟨rfl,rfl⟩)
  ·have hcn:isNP c=false:=by
    cases hl:isNP c with
    | false=>rfl
    | true=>exact absurd (Int.ofNat_lt.2 (hnt.2 hl)) h
   have hcl:isLet c=false:=by
    simp only [isNP,Bool.or_eq_false_iff] at hcn;exact hcn.1
   rw [hcl,cond_false,hcd,cond_false] at hone;refine AWP.weaken (tl3 (i0:=4) (i1:=2) (i2:=0) rfl rfl rfl) (.refl _) ?_;refine goC ?_;refine rg ?_;refine leW (row:=signRow) (rows:=[signRow]) (i:=0) (s:=24) rfl rfl (congrArg (Option.map fun row:List AV=>AV.eptr row.length [row] 0 0) hg) rfl rfl ?_;refine goA ?_;refine AWP.loop (α:=Nat) (fun i=>[(62,.int .i64 (i:Int)),(61,.agg signRow),(4,.str (s.drop pos)),(2,.cptr o2 4 0 0),(0,.cptr os 4 0 0)]) (fun _=>(st.set os (.cells 99 4 [scanRow s pos line om])).set o2 (.cells 64 4 [tokRow zTk]))
    (fun i=>i≤24∧∀ j,j < i→∀ g',allSigns[j]?=some g'→¬ (s.drop pos).take g'.length=g') (fun i=>24 - i) 0 ⟨Nat.zero_le _,fun j hj=>by omega⟩ (tl5 rfl rfl rfl rfl rfl) (.refl _) ?_
   rintro i ⟨hi,hno⟩;refine goA ?_;refine AWP.cond_dec rfl (fun h=>AWP.skip ?_) (fun h=>AWP.exit (blk_hit ?_))
   ·have hi':i < 24:=by have:(i:Int) < 24:=h; omega
    have hil:i < allSigns.length:=hi'
    have hgi:allSigns[i]?=some allSigns[i]:=List.getElem?_eq_getElem hil
    have hlen:allSigns[i].length≤2∧allSigns[i]≠[]:=(show ∀ g ∈ allSigns,g.length≤2∧g≠[] by decide) _ (List.getElem_mem hil)
    have hrow:signRow[i * 1]?=some (.str allSigns[i]):=by simp [signRow,hil]
    generalize allSigns[i]=sg at hgi hlen hrow;refine AWP.weaken (tl5 (i0:=62) (i1:=61) (i2:=4) (i3:=2) (i4:=0) rfl rfl rfl rfl rfl) (.refl _) ?_;refine goC ?_;refine rg ?_;refine ixg rfl rfl rfl rfl rfl hi' hrow ?_;refine goA ?_;refine cle rfl rfl (hasPrefix_ok (s.drop pos) sg _) ?_;refine goA ?_;refine AWP.cond_dec rfl (fun hm=>?_) (fun hm=>AWP.skip ?_)
    ·have hsg:=sign_at hgi hno hm;rw [hsg,if_neg hlen.2] at hone;rw [hone];have hle:sg.length≤s.length - pos:=by
      have:=congrArg List.length hm;rw [List.length_take,hdl] at this;omega
     have hos1:=hos (.cells 99 4 [scanRow s pos line om]) (.cells 64 4 [tokRow zTk]);refine goA ?_;refine so (rows':=[scanRow s (pos + sg.length) line om]) rfl rfl rfl (hos _ _) rfl rfl rfl rfl rfl ?_;rw [St.set_inner hne];have hos2:=hos (.cells 99 4 [scanRow s (pos + sg.length) line om]) (.cells 64 4 [tokRow zTk]);refine goA ?_;refine bds (cs:=tokRow ⟨4,line,sg,0⟩) rfl rfl rfl rfl ?_;refine soV rfl rfl rfl rfl rfl rfl ?_;refine goA ?_;exact AWP.ret (rets (resCW rfl (St.obj_set _ _ _) rfl rfl rfl rfl) (.refl _) (StLe.new (hn2' _) (.refl _)) ⟨rfl,rfl⟩)
    ·refine goA ?_;refine ⟨i + 1,⟨hi',fun j hj g' hg'=>?_⟩,by omega,(tl5 rfl rfl rfl rfl rfl),.refl _⟩;rcases Nat.lt_or_ge j i with h1|h1
     ·exact hno j h1 g' hg'
     ·have:j=i:=by omega
      subst this;rw [hgi] at hg';cases hg';exact hm
   ·have hi':i=24:=by have:¬ (i:Int) < 24:=h; omega
    subst hi';rw [sign_none hno,if_pos rfl] at hone;rw [hone];refine goC ?_;refine rg ?_;refine bds (cs:=tokRow zTk) rfl rfl rfl rfl ?_;refine soV rfl rfl rfl rfl rfl rfl ?_;refine goA ?_;exact AWP.ret (rets (resCW rfl (St.obj_set _ _ _) rfl rfl rfl rfl) (.refl _) (StLe.new ho2 (.refl _)) ⟨rfl,rfl⟩)
def wordRow:List AV:=words.map .str

theorem slook_supd (k k':List UInt8) (v:AV):∀ m,slook k (supd k' v m)=if k=k' then some v else slook k m
 | []=>by simp [supd,slook]
 | (a,b)::m=>by
  have ih:=slook_supd k k' v m;rw [supd];by_cases h1:k'=a
  ·subst h1;rw [if_pos rfl,slook,slook];by_cases h2:k=k' <;> simp [h2]
  ·rw [if_neg h1,slook,slook,ih];by_cases h2:k=a
   ·subst h2;have:¬ k=k':=fun e=>h1 e.symm;simp [this]
   ·simp [h2]

def wmap (l:List (List UInt8)):List (List UInt8 × AV):=l.foldl (fun m w=>supd w (.bool true) m) []

theorem wmap_snoc (l:List (List UInt8)) (w:List UInt8):wmap (l++[w])=supd w (.bool true) (wmap l):=by simp [wmap]

theorem wmap_look (nm:List UInt8):∀ (n:Nat) (l:List (List UInt8)),l.length=n→slook nm (wmap l)=if nm ∈ l then some (.bool true) else none
 | 0,l,h=>by
  have:l=[]:=List.eq_nil_of_length_eq_zero h;subst this;rfl
 | n + 1,l,h=>by
  obtain ⟨l',c,rfl⟩:∃ l' c,l=l'++[c]:=⟨l.dropLast,l.getLast (by rintro rfl; simp at h),(List.dropLast_concat_getLast _).symm⟩;rw [wmap_snoc,slook_supd,wmap_look nm n l' (by simpa using h)];by_cases h1:nm=c
  ·simp [h1]
  ·simp [h1]

theorem WMap.words:WMap (wmap words):=⟨fun nm=>wmap_look nm 12 _ rfl⟩

theorem skip_sum:∀ (cm:Bool) (x:List UInt8) (l:Nat),(skip cm x l).2 + (skip cm x l).1.length≤l + x.length
 | cm,[],l=>by simp [skip]
 | cm,c::r,l=>by
  have pass:∀ cm' l',l'≤l + 1→(skip cm' r l').2 + (skip cm' r l').1.length≤l + (c::r).length:=by
   intro cm' l' h2;have:=skip_sum cm' r l';simp only [List.length_cons];omega
  unfold skip;split
  ·exact pass _ _ (by omega)
  ·cases cm
   ·rw [cond_false];split
    ·exact pass _ _ (by omega)
    ·split
     ·exact pass _ _ (by omega)
     ·exact Nat.le_refl _
   ·exact pass _ _ (by omega)

theorem skip_tail (s:List UInt8) (line:Nat):s.drop (s.length - (skip false s line).1.length)=(skip false s line).1:=by
 obtain ⟨q1,q2,q3,k,q4⟩:=skip_le false s line;have hl:=congrArg List.length q4;rw [List.length_drop] at hl;rcases Nat.lt_or_ge k s.length with hk|hk
 ·rw [show s.length - (skip false s line).1.length=k by omega,q4]
 ·have:(skip false s line).1=[]:=by rw [q4,List.drop_eq_nil_of_le hk]
  rw [this,List.length_nil,Nat.sub_zero,List.drop_length]

theorem one_err {s:List UInt8} {line e:Nat} (h:one s line=.error e):e=5∨e=6:=by
 unfold one at h;split at h
 ·cases h; exact .inr rfl
 ·rename_i c r;cases hl:isLet c
  ·cases hd:isDig c
   ·simp only [hl,hd,cond_false] at h;split at h
    ·cases h; exact .inr rfl
    ·cases h
   ·simp only [hl,hd,cond_false,cond_true] at h;split at h
    ·cases h; exact .inl rfl
    ·split at h
     ·cases h; exact .inr rfl
     ·cases h
  ·simp only [hl,cond_true] at h;split at h
   ·cases h; exact .inl rfl
   ·cases h

theorem sign_le (s:List UInt8):(sign s).length≤s.length:=by
 unfold sign;split
 ·exact List.length_take_le' ..
 ·split
  ·split
   ·simp
   ·simp
  ·simp

theorem one_ok {s:List UInt8} {line m:Nat} {t:Tk} (h:one s line=.ok (t,m)):1≤m∧m≤s.length∧t.line=line:=by
 unfold one at h;split at h
 ·cases h
 ·rename_i c r;have hnp:isLet c=true→isNP c=true:=fun h=>by simp [isNP,h]
  cases hl:isLet c
  ·cases hd:isDig c
   ·simp only [hl,hd,cond_false] at h;split at h
    ·cases h
    ·rename_i hs;cases h;exact ⟨by have:=List.length_pos_iff.2 hs; omega,sign_le _,rfl⟩
   ·simp only [hl,hd,cond_false,cond_true] at h;split at h
    ·cases h
    ·split at h
     ·cases h
     ·cases h;exact ⟨by simp [hd],(List.takeWhile_prefix isDig).length_le,rfl⟩
  ·simp only [hl,cond_true] at h;split at h
   ·cases h
   ·cases h;exact ⟨by simp [hnp hl],(List.takeWhile_prefix isNP).length_le,rfl⟩

set_option maxHeartbeats 8000000 in
theorem scan_ok (s:List UInt8) (st:St) (hg1:st.row 1=some signRow) (hg0:st.row 0=some wordRow) :
  ACalls Tryz.prog 20 [.str s] st (fun v st'=>v=scanV (scan s)∧st'=st) (fun _ _=>False):=by
 refine ACalls.ofBody Tryz.func20 rfl Tryz.ntmps20 rfl ?_;refine goA ?_;refine AWP.cond_dec rfl (fun h=>?_) (fun h=>AWP.skip ?_)
 ·have h':4000 < s.length:=by have:(4000:Int) < (s.length:Int):=h; omega
  refine goA ?_;refine AWP.ret (rets rfl (Le.tri (.nilShared 0 4) (.refl _) (.refl _)) (.refl _) ⟨?_,rfl⟩);rw [scan,if_pos h'];rfl
 ·have h':s.length≤4000:=by have:¬ (4000:Int) < (s.length:Int):=h; omega
  have hscan:scan s=scanL (s.length + 1) (skip false s 1).1 (skip false s 1).2 []:=by rw [scan,if_neg (by omega)]
  refine goC ?_;refine rg ?_;refine sm rfl ?_;refine mkm rfl fun om hom=>?_;refine bds (cs:=scanRow s 0 1 om) rfl rfl rfl rfl ?_;refine al rfl rfl fun os hos=>?_;have hne:=St.new_ne hos
  have hns:=St.new_old hos;refine soV rfl rfl rfl rfl rfl rfl ?_;refine goC ?_;refine rg ?_;refine leW (row:=wordRow) (rows:=[wordRow]) (i:=0) (s:=12) rfl rfl (congrArg (Option.map fun row:List AV=>AV.eptr row.length [row] 0 0) hg0) rfl rfl ?_;refine goA ?_;refine AWP.loop (α:=Nat) (fun i=>[(18,.int .i64 (i:Int)),(17,.agg wordRow),(5,.cptr os 4 0 0),(0,.str s)]) (fun i=>(st.set om (.smap (wmap (words.take i)))).set os (.cells 99 4 [scanRow s 0 1 om])) (fun i=>i≤12) (fun i=>12 - i) 0 (Nat.zero_le _) (tl4 rfl rfl rfl rfl) (.refl _) ?_;intro i hi;refine goA ?_;refine AWP.cond_dec rfl (fun h=>AWP.skip ?_) (fun h=>AWP.exit (blk_hit ?_))
  ·have hi':i < 12:=by have:(i:Int) < 12:=h; omega
   have hil:i < words.length:=hi'
   have hrow:wordRow[i * 1]?=some (.str words[i]):=by simp [wordRow,hil]
   have hsn:wmap (words.take (i + 1))=supd words[i] (.bool true) (wmap (words.take i)):=by
    rw [List.take_add_one,List.getElem?_eq_getElem hil,Option.toList_some,wmap_snoc]
   generalize words[i]=w at hrow hsn;refine goA ?_;refine ixg rfl rfl rfl rfl rfl hi' hrow ?_;refine goA ?_;refine mup rfl rfl rfl rfl (St.obj_under hne _ _) ?_;rw [St.set_inner hne];refine goA ?_;refine ⟨i + 1,hi',by omega,(tl4 rfl rfl rfl rfl),?_⟩;rw [hsn];exact .refl _
  ·have hi':i=12:=by have:¬ (i:Int) < 12:=h; omega
   subst hi';rw [show words.take 12=words from rfl];refine AWP.weaken (tl2 (i0:=5) (i1:=0) rfl rfl) (.refl _) ?_;refine goC ?_;refine rg ?_;refine goB ?_;refine goC ?_;refine AWP.nilTok 8 64 4 rfl fun tk htk=>?_;have hst:∀ (tk:Nat) (c:AObj),((st.set om (.smap (wmap words))).set os c).addTok tk=((st.set om (.smap (wmap words))).addTok tk).set os c:=fun _ _=>rfl;rw [hst]
   skip
   refine rg ?_;refine cl rfl rfl (skip_ok s (by omega) 0 1 om os (Nat.zero_le _) (by omega) _) fun _ st' hst'=>?_;subst hst';rw [List.drop_zero];obtain ⟨q1,q2,q3,q4⟩:=skip_le false s 1;have q6:=skip_sum false s 1;refine goA ?_;refine AWP.loop (α:=Nat × Nat × Nat × List Tk × Nat)
    (fun x=>[(8,.view 4 (x.2.2.2.1.map tokRow) (.own x.2.2.2.2 64)),(5,.cptr os 4 0 0),(0,.str s)])
    (fun x=>((st.set om (.smap (wmap words))).addTok x.2.2.2.2).set os (.cells 99 4 [scanRow s x.2.1 x.2.2.1 om]))
    (fun x=>x.2.1≤s.length∧x.2.2.1≤x.2.1 + 1∧scan s=scanL x.1 (s.drop x.2.1) x.2.2.1 x.2.2.2.1∧s.length - x.2.1 < x.1∧x.2.2.2.1.length≤2000∧st.tok x.2.2.2.2=false) (fun x=>x.1)
    (s.length + 1,s.length - (skip false s 1).1.length,(skip false s 1).2,[],tk) ⟨by simp only; omega,by simp only; omega,?_,by simp only; omega,by simp,htk⟩ (tl3 rfl rfl rfl) (.refl _) ?_
   ·simp only;rw [hscan]
    congr 1
    exact (skip_tail s 1).symm
   ·rintro ⟨fuel,pos,line,out,tk⟩ ⟨h1,h2,h3,h4,h5,h6⟩;simp only at h1 h2 h3 h4 h5 h6;refine goA ?_;refine AWP.cond_dec rfl (fun h=>AWP.skip ?_) (fun h=>AWP.exit (blk_hit ?_))
    ·have hlt:pos < s.length:=by have:(pos:Int) < (s.length:Int):=h; omega
     obtain ⟨fuel,rfl⟩:∃ k,fuel=k + 1:=⟨fuel - 1,by omega⟩;have hd:s.drop pos=s[pos]::s.drop (pos + 1):=List.drop_eq_getElem_cons hlt
     have hstep:scan s=match one (s.drop pos) line with
       | .error e=>([],line,e)
       | .ok (t,m)=>if 2000≤out.length then ([],line,5) else scanL fuel (skip false ((s.drop pos).drop m) line).1 (skip false ((s.drop pos).drop m) line).2 (out++[t]):=by
      rw [h3,hd];rfl
     clear h3;refine AWP.weaken (tl3 (i0:=8) (i1:=5) (i2:=0) rfl rfl rfl) (.refl _) ?_;refine goC ?_;refine rg ?_;refine cl rfl rfl (token_ok s (by omega) pos line om os hlt (wmap words) WMap.words ((st.set om (.smap (wmap words))).addTok tk) (St.obj_set _ _ _) (Ne.symm hne) hg1) fun v st' ⟨hv,hst'⟩=>?_;subst hv;subst hst';cases ho:one (s.drop pos) line with
     | error e =>
      rw [ho] at hstep;refine AOps.weaken (T':=[(33,tkE zTk e),(8,.view 4 (out.map tokRow) (.own tk 64)),(5,.cptr os 4 0 0),(0,.str s)]) (tl4 rfl rfl rfl rfl) (.refl _) ?_;refine goA ?_;refine al rfl rfl fun o9 ho9=>?_;refine soN 9 rfl rfl rfl rfl rfl rfl ho9 ?_;have he:=one_err ho
      have he0:(AV.bool (decide ((e:Int)=0)))=.bool false:=by
       have:¬ e=0:=by omega
       simp [this]
      have he1:(AV.bool (decide ((e:Int)≠0)))=.bool true:=by
       have:¬ e=0:=by omega
       simp [this]
      refine goA ?_;rw [he0];refine goA ?_;refine AWP.cond_false rfl (AWP.skip ?_);refine goA ?_;rw [he1]
      skip
      refine AWP.cond_true rfl ?_;refine goC ?_;refine AWP.draw rfl 5 5 (fun _ _=>False) rfl ?_;repeat (first|refine ds rfl rfl ?_|refine dq rfl rfl rfl (fun st1 hle=>fa rfl rfl (nl ⟨_,rfl,rfl,rfl⟩)) ?_|refine dq rfl rfl rfl (fun st1 hle=>lc rfl rfl (hle.obj _ _ (St.obj_set _ _ _)) rfl rfl (nl ⟨_,rfl,rfl,rfl⟩)) ?_)
      refine dn ⟨fun _=>?_,fun h=>absurd h (by decide)⟩;refine goA ?_;refine AWP.ret (rets rfl (Le.tri (.nilShared 0 4) (.refl _) (.refl _)) (StLe.new (show ((st.set om (.smap (wmap words))).addTok tk).obj os=none from (St.obj_set_ne hne).trans hns) (StLe.new (st:=st.addTok tk) hom (StLe.addTok _ (.refl _)))) ⟨?_,rfl⟩);rw [hstep];rfl
     | ok p =>
      obtain ⟨t,m⟩:=p;rw [ho] at hstep;simp only at hstep;obtain ⟨m1,m2,m3⟩:=one_ok ho;rw [List.length_drop] at m2;refine AOps.weaken (T':=[(33,tkE t 0),(8,.view 4 (out.map tokRow) (.own tk 64)),(5,.cptr os 4 0 0),(0,.str s)]) (tl4 rfl rfl rfl rfl) (.refl _) ?_;refine goA ?_;refine al rfl rfl fun o9 ho9=>?_;refine soN 9 rfl rfl rfl rfl rfl rfl ho9 ?_;refine goA ?_;refine AWP.cond_dec rfl (fun h=>?_) (fun h=>AWP.skip ?_)
      ·have hge:2000≤out.length:=by
        rw [List.length_map] at h;omega
       rw [if_pos hge] at hstep;refine goA ?_;refine AWP.cond_true rfl ?_;refine goC ?_;refine AWP.draw rfl 5 5 (fun _ _=>False) rfl ?_;repeat (first|refine ds rfl rfl ?_|refine dq rfl rfl rfl (fun st1 hle=>fa rfl rfl (nl ⟨_,rfl,rfl,rfl⟩)) ?_|refine dq rfl rfl rfl (fun st1 hle=>lc rfl rfl (hle.obj _ _ (St.obj_set _ _ _)) rfl rfl (nl ⟨_,rfl,rfl,rfl⟩)) ?_)
       refine dn ⟨fun _=>?_,fun h=>absurd h (by decide)⟩;refine goA ?_;refine AWP.ret (rets rfl (Le.tri (.nilShared 0 4) (.refl _) (.refl _)) (StLe.new (show ((st.set om (.smap (wmap words))).addTok tk).obj os=none from (St.obj_set_ne hne).trans hns) (StLe.new (st:=st.addTok tk) hom (StLe.addTok _ (.refl _)))) ⟨?_,rfl⟩);rw [hstep];rfl
      ·have hge:¬ 2000≤out.length:=by
        rw [List.length_map] at h;omega
       rw [if_neg hge] at hstep;refine goA ?_;refine AWP.cond_false rfl (AWP.skip ?_);refine goA ?_;refine ap rfl rfl rfl (St.tok_addTok _ _) rfl (by simp only [List.length_cons,List.length_nil,List.length_map]; omega) (by simp only [List.length_cons,List.length_nil,List.length_map,maxLen]; omega) fun tk' htk'=>?_;have hm:out.map tokRow++[(AV.agg (AV.agg (tokRow t)).cells).cells]=(out++[t]).map tokRow:=by rw [List.map_append]; rfl
       rw [hm];have hst2:∀ (c:AObj),((((st.set om (.smap (wmap words))).addTok tk).set os c).untok tk).addTok tk'=((((st.set om (.smap (wmap words))).addTok tk).untok tk).addTok tk').set os c:=fun _=>rfl;rw [hst2];have htk2:st.tok tk'=false:=St.tok_of_add (st:=st) htk';refine goA ?_;refine AOps.weaken (tl3 (i0:=8) (i1:=5) (i2:=0) rfl rfl rfl) (.refl _) ?_;have hdd:(s.drop pos).drop m=s.drop (pos + m):=List.drop_drop ..;rw [hdd] at hstep;refine cl rfl rfl (skip_ok s (by omega) (pos + m) line om os (by omega) (by omega) _) fun _ st' hst'=>?_;subst hst';obtain ⟨w1,w2,w3,w4⟩:=skip_le false (s.drop (pos + m)) line;have w6:=skip_sum false (s.drop (pos + m)) line
       have w7:=skip_tail (s.drop (pos + m)) line;rw [List.length_drop] at w1 w2 w6 w7;rw [List.drop_drop] at w7;generalize skip false (s.drop (pos + m)) line=sk at w1 w2 w3 w6 w7 hstep ⊢;refine goA ?_;refine ⟨(fuel,s.length - sk.1.length,sk.2,out++[t],tk'),⟨by simp only; omega,by simp only; omega,?_,by simp only; omega,by simp only [List.length_append,List.length_cons,List.length_nil]; omega,htk2⟩,by simp only; omega,(tl3 rfl rfl rfl),?_⟩
       ·simp only;rw [hstep];have w8:s.length - sk.1.length=pos + m + (s.length - (pos + m) - sk.1.length):=by omega
        rw [w8,w7]
       ·exact StLe.set _ _ (StLe.reTok (st:=st.set om (.smap (wmap words))) h6 tk')
    ·have hlt:pos=s.length:=by have:¬ (pos:Int) < (s.length:Int):=h; omega
     subst hlt;obtain ⟨fuel,rfl⟩:∃ k,fuel=k + 1:=⟨fuel - 1,by omega⟩;rw [List.drop_length] at h3;have hstep:scan s=(out++[⟨0,line,[],0⟩],0,0):=h3;refine AWP.weaken (T':=[(8,.view 4 (out.map tokRow) (.own tk 64)),(5,.cptr os 4 0 0),(0,.str s)]) (st':=((st.set om (.smap (wmap words))).addTok tk).set os (.cells 99 4 [scanRow s s.length line om])) (tl3 rfl rfl rfl) (.refl _) ?_;refine goA ?_;refine bds (cs:=tokRow ⟨0,line,[],0⟩) rfl rfl rfl rfl ?_;refine goA ?_;refine ap rfl rfl rfl (St.tok_addTok _ _) rfl (by simp only [List.length_cons,List.length_nil,List.length_map]; omega) (by simp only [List.length_cons,List.length_nil,List.length_map,maxLen]; omega) fun tk' htk'=>?_;have hm:out.map tokRow++[(AV.agg (tokRow ⟨0,line,[],0⟩)).cells]=(out++[(⟨0,line,[],0⟩:Tk)]).map tokRow:=by rw [List.map_append]; rfl
     rw [hm];refine goA ?_;refine AWP.ret (rets rfl (Le.tri (.shared _ _ _) (.refl _) (.refl _)) (StLe.new (st:=(((st.set om (.smap (wmap words))).addTok tk).untok tk).addTok tk') (show ((((st.set om (.smap (wmap words))).addTok tk).untok tk).addTok tk').obj os=none from (St.obj_set_ne hne).trans hns) (StLe.new (st:=((st.addTok tk).untok tk).addTok tk') hom ((StLe.reTok h6 tk').trans (StLe.addTok _ (.refl _))))) ⟨?_,rfl⟩);rw [hstep];rfl
end Go.Proofs
namespace Go.Proofs
inductive Xp where
 | lit (n:Nat)
 | var (s:List UInt8)
 | fld (s f:List UInt8)
 | elt (s:List UInt8) (a:Xp)
 | una (op:Nat) (a:Xp)
 | bin (op:Nat) (a b:Xp)

def tk0:Tk:=⟨0,0,[],0⟩
def hd (ts:List Tk):Tk:=ts.headD tk0
def sg (t:Tk) (s:List UInt8):Bool:=decide (t.kind=4∧t.text=s)
def beg (t:Tk):Bool:=decide (t.kind=1) || decide (t.kind=2) || sg t [45] || sg t [33] || sg t [40]

def binL:List (List UInt8 × Nat × Nat):=[([43],3,6),([45],3,7),([42],4,8),([47],4,9),([37],4,10),([38],2,11),([124],2,12),([94],2,13),([60],1,14),([60,61],1,15),([61,61],1,16),([33,61],1,17)]
def bin (t:Tk):Nat × Nat:=((binL.find? fun o=>sg t o.1).map Prod.snd).getD (0,0)


theorem beg_nil:beg (hd [])=false:=by decide
theorem bin_nil:bin (hd [])=(0,0):=by decide

abbrev FR:=Except (Nat × List Tk) (Xp × List Tk)
mutual
def fe:Nat→Nat→Nat→List Tk→FR
 | 0,_,_,_=>.error (99,[])
 | k + 1,lv,d,ts =>
  if 5≤lv then fo k d ts
  else match fe k (lv + 1) d ts with
   | .error e=>.error e
   | .ok (x,r)=>fl k lv d x r
def fl:Nat→Nat→Nat→Xp→List Tk→FR
 | 0,_,_,_,_=>.error (99,[])
 | k + 1,lv,d,x,ts =>
  if (bin (hd ts)).1=lv then
   match fe k (lv + 1) d ts.tail with
   | .error e=>.error e
   | .ok (y,r)=>if lv=1 then .ok (.bin (bin (hd ts)).2 x y,r) else fl k lv d (.bin (bin (hd ts)).2 x y) r
  else .ok (x,ts)
def fo:Nat→Nat→List Tk→FR
 | 0,_,_=>.error (99,[])
 | k + 1,d,ts =>
  if beg (hd ts) then
   if 8 < d then .error (5,ts)
   else if (hd ts).kind=2 then .ok (.lit (hd ts).num,ts.tail)
   else if (hd ts).kind=1 then
    if sg (hd ts.tail) [46] then
     if (hd ts.tail.tail).kind=1 then .ok (.fld (hd ts).text (hd ts.tail.tail).text,ts.tail.tail.tail) else .error (7,ts.tail.tail)
    else if sg (hd ts.tail) [91] then
     match fe k 1 (d + 1) ts.tail.tail with
     | .error e=>.error e
     | .ok (x,r)=>if sg (hd r) [93] then .ok (.elt (hd ts).text x,r.tail) else .error (7,r)
    else .ok (.var (hd ts).text,ts.tail)
   else if (hd ts).text=[40] then
    match fe k 1 (d + 1) ts.tail with
    | .error e=>.error e
    | .ok (x,r)=>if sg (hd r) [41] then .ok (x,r.tail) else .error (7,r)
   else match fo k (d + 1) ts.tail with
    | .error e=>.error e
    | .ok (x,r)=>.ok (.una (if (hd ts).text=[45] then 4 else 5) x,r)
  else .error (7,ts)
end

def FRlt (n:Nat):FR→Prop
 | .error e=>e.1=5∨e.1=7
 | .ok (_,r)=>r.length < n

theorem fe_all:∀ k:Nat,(∀ lv d ts,1≤lv→lv≤5→7 * ts.length + (6 - lv) < k→FRlt ts.length (fe k lv d ts)) ∧
  (∀ lv d x ts,1≤lv→lv≤4→7 * ts.length < k→FRlt (ts.length + 1) (fl k lv d x ts)) ∧
  (∀ d ts,7 * ts.length < k→FRlt ts.length (fo k d ts))
 | 0=>⟨fun _ _ _ _ _ h=>absurd h (Nat.not_lt_zero _),fun _ _ _ _ _ _ h=>absurd h (Nat.not_lt_zero _),fun _ _ h=>absurd h (Nat.not_lt_zero _)⟩
 | k + 1=>by
  obtain ⟨i1,i2,i3⟩:=fe_all k;refine ⟨fun lv d ts h1 h5 hk=>?_,fun lv d x ts h1 h4 hk=>?_,fun d ts hk=>?_⟩
  ·rw [fe];split
   ·exact i3 d ts (by omega)
   ·rename_i hlv;have h:=i1 (lv + 1) d ts (by omega) (by omega) (by omega);cases hp:fe k (lv + 1) d ts with
    | error e=>rw [hp] at h; exact h
    | ok p =>
     obtain ⟨x,r⟩:=p;rw [hp] at h;have h:r.length < ts.length:=h
     have h2:=i2 lv d x r h1 (by omega) (by omega);simp only;cases hq:fl k lv d x r with
     | error e=>rw [hq] at h2; exact h2
     | ok q =>
      rw [hq] at h2;have h2:q.2.length < r.length + 1:=h2
      show q.2.length < ts.length;omega
  ·rw [fl];split
   ·rename_i hb;have hne:ts≠[]:=by
     intro e;subst e;rw [bin_nil] at hb;simp only at hb;omega
    have ht:ts.tail.length + 1=ts.length:=by
     cases ts with
     | nil=>exact absurd rfl hne
     | cons a b=>rfl
    have h:=i1 (lv + 1) d ts.tail (by omega) (by omega) (by omega);cases hp:fe k (lv + 1) d ts.tail with
    | error e=>rw [hp] at h; exact h
    | ok p =>
     obtain ⟨y,r⟩:=p;rw [hp] at h;have h:r.length < ts.tail.length:=h;simp only;split
     ·show r.length < ts.length + 1;omega
     ·have h2:=i2 lv d (.bin (bin (hd ts)).2 x y) r h1 h4 (by omega);cases hq:fl k lv d (.bin (bin (hd ts)).2 x y) r with
      | error e=>rw [hq] at h2; exact h2
      | ok q =>
       rw [hq] at h2;have h2:q.2.length < r.length + 1:=h2
       show q.2.length < ts.length + 1;omega
   ·show ts.length < ts.length + 1;omega
  ·rw [fo];split
   ·rename_i hb;have hne:ts≠[]:=by
     intro e;subst e;rw [beg_nil] at hb;cases hb
    have ht:ts.tail.length + 1=ts.length:=by
     cases ts with
     | nil=>exact absurd rfl hne
     | cons a b=>rfl
    have ht2:ts.tail.tail.length≤ts.tail.length:=by rw [List.length_tail]; omega
    have ht3:ts.tail.tail.tail.length≤ts.tail.tail.length:=by rw [List.length_tail]; omega
    split
    ·exact .inl rfl
    split
    ·show ts.tail.length < ts.length;omega
    split
    ·split
     ·split
      ·show ts.tail.tail.tail.length < ts.length;omega
      ·exact .inr rfl
     split
     ·have h:=i1 1 (d + 1) ts.tail.tail (by omega) (by omega) (by omega);cases hp:fe k 1 (d + 1) ts.tail.tail with
      | error e=>rw [hp] at h; exact h
      | ok p =>
       obtain ⟨y,r⟩:=p;rw [hp] at h;have h:r.length < ts.tail.tail.length:=h
       have h4:r.tail.length≤r.length:=by rw [List.length_tail]; omega
       simp only;split
       ·show r.tail.length < ts.length;omega
       ·exact .inr rfl
     ·show ts.tail.length < ts.length;omega
    split
    ·have h:=i1 1 (d + 1) ts.tail (by omega) (by omega) (by omega);cases hp:fe k 1 (d + 1) ts.tail with
     | error e=>rw [hp] at h; exact h
     | ok p =>
      obtain ⟨y,r⟩:=p;rw [hp] at h;have h:r.length < ts.tail.length:=h
      have h4:r.tail.length≤r.length:=by rw [List.length_tail]; omega
      simp only;split
      ·show r.tail.length < ts.length;omega
      ·exact .inr rfl
    ·have h:=i3 (d + 1) ts.tail (by omega);cases hp:fo k (d + 1) ts.tail with
     | error e=>rw [hp] at h; exact h
     | ok p =>
      obtain ⟨y,r⟩:=p;rw [hp] at h;have h:r.length < ts.tail.length:=h
      show r.length < ts.length;omega
   ·exact .inr rfl

end Go.Proofs
namespace Go.Proofs
open Go.AM
def exRow (op num:Int) (name field:List UInt8) (args:AV):List AV:=[.int .i64 op,.int .i64 num,.int .i64 0,.str name,.str field,args]
def nilV:AV:=.view 0 [] .nil
def noE:AV:=.view 6 [] .shared
theorem ex_nil (op num:Int) (name field:List UInt8):Le (.agg (exRow op num name field nilV)) (.agg (exRow op num name field noE)):=by
 refine .agg _ _ rfl (fun c hc=>by simp only [exRow,List.mem_cons,List.not_mem_nil,or_false] at hc; rcases hc with rfl|rfl|rfl|rfl|rfl|rfl <;> rfl) fun i a b h1 h2=>?_
 match i,h1,h2 with
 | 0,h1,h2=>cases h1; cases h2; exact .refl _
 | 1,h1,h2=>cases h1; cases h2; exact .refl _
 | 2,h1,h2=>cases h1; cases h2; exact .refl _
 | 3,h1,h2=>cases h1; cases h2; exact .refl _
 | 4,h1,h2=>cases h1; cases h2; exact .refl _
 | 5,h1,h2=>cases h1; cases h2; exact .nilShared 0 6
 | n + 6,h1,_=>cases h1
end Go.Proofs
namespace Go.Proofs
open Go.AM
attribute [local irreducible] AWP AOps ACalls AAny
def prC (X:List (List AV)) (a:Nat):AObj:=.cells 58 2 [[.view 4 X .shared,.int .i64 (a:Int)]]
def fai (line err:Int):AV:=.iface 54 (.agg [.int .i64 line,.int .i64 err])
structure RdH (ts:List Tk):Prop where
 len:ts.length≤100000
 last:∀ i t,ts[i]?=some t→t.kind≠0→i + 1 < ts.length
theorem map_at {ts:List Tk} {a:Nat} (h:a < ts.length):∃ t,ts[a]?=some t∧(ts.map tokRow)[a]?=some (tokRow t)∧hd (ts.drop a)=t∧a < (ts.map tokRow).length∧(ts.drop a).tail=ts.drop (a + 1):=by
 refine ⟨ts[a],List.getElem?_eq_getElem h,?_,?_,by rw [List.length_map]; exact h,?_⟩
 ·rw [List.getElem?_map,List.getElem?_eq_getElem h]; rfl
 ·rw [List.drop_eq_getElem_cons h]; rfl
 ·rw [List.tail_drop]
theorem ptoken_ok {X:List (List AV)} {a o:Nat} {t:Tk} {st:St} (ho:st.obj o=some (prC X a)) (ha:a < X.length) (hX:X[a]?=some (tokRow t)) (_:X.length≤100000) :
  ACalls Tryz.prog 25 [.cptr o 2 0 0] st (fun v st'=>v=.agg (tokRow t)∧st'=st) (fun _ _=>False):=by
 refine ACalls.ofBody Tryz.func25 rfl Tryz.ntmps25 rfl ?_;unfold prC at ho;refine goC ?_;refine rg ?_;refine al rfl rfl fun o2 h2=>?_;have hne:o≠o2:=fun h=>by subst h; rw [ho] at h2; cases h2
 have hM:∀ c,(st.set o2 c).obj o=some (.cells 58 2 [[.view 4 X .shared,.int .i64 (a:Int)]]):=fun c=>by
  rw [← ho];simp [St.set,hne]
 have hM0:=hM (.cells 64 4 [tokRow ⟨0,0,[],0⟩]);refine goC ?_;refine AWP.draw rfl 10 10 (fun _ _=>False) rfl ?_;refine goF ?_;refine dn ⟨fun _=>?_,fun h=>absurd h (by decide)⟩
 skip
 refine soV rfl rfl rfl rfl rfl rfl ?_;refine goD ?_;exact AWP.ret (rets (resCW rfl (St.obj_set _ _ _) rfl rfl rfl rfl) (.refl _) (StLe.new h2 (.refl _)) ⟨rfl,rfl⟩)
theorem pfail_ok {ts:List Tk} (H:RdH ts) {a o:Nat} {st:St} (ho:st.obj o=some (prC (ts.map tokRow) a)) (ha:a < ts.length) (e:Int) :
  ACalls Tryz.prog 26 [.cptr o 2 0 0,.int .i64 e] st (fun _ _=>False) (fun pv st'=>pv=fai (hd (ts.drop a)).line e∧st'=st):=by
 refine ACalls.ofBody Tryz.func26 rfl Tryz.ntmps26 rfl ?_;obtain ⟨t,t1,t2,t3,t4,_⟩:=map_at ha;have hl:(ts.map tokRow).length≤100000:=by rw [List.length_map]; exact H.len
 refine rg ?_;refine goE ?_;refine cle rfl rfl (ptoken_ok ho t4 t2 hl) ?_
 skip
 refine fd (v:=.int .i64 (t.line:Int)) rfl rfl rfl ?_;refine goE ?_;refine bds (cs:=[.int .i64 (t.line:Int),.int .i64 e]) rfl rfl rfl rfl ?_;refine mif rfl rfl rfl ?_;refine pnk rfl rfl ?_;exact ⟨st,.refl _,by rw [t3]; rfl,rfl⟩
theorem psees_ok {X:List (List AV)} {a o:Nat} {t:Tk} {st:St} (ho:st.obj o=some (prC X a)) (ha:a < X.length) (hX:X[a]?=some (tokRow t)) (hl:X.length≤100000) (k:Nat) (s:List UInt8) :
  ACalls Tryz.prog 42 [.cptr o 2 0 0,.int .i64 (k:Int),.str s] st (fun v st'=>v=.bool (decide (t.kind=k∧t.text=s))∧st'=st) (fun _ _=>False):=by
 refine ACalls.ofBody Tryz.func42 rfl Tryz.ntmps42 rfl ?_;refine goC ?_;refine rg ?_;refine goB ?_;refine goD ?_;refine cle rfl rfl (ptoken_ok ho ha hX hl) ?_;refine goD ?_;refine AOps.split 13 rfl (fun h1=>?_) (fun h1=>?_)
 ·have h2:t.kind=k:=by have h0:(t.kind:Int)=k:=h1; omega
  have h3:decide (t.kind=k∧t.text=s)=decide (t.text=s):=decide_eq_decide.2 ⟨fun h=>h.2,fun h=>⟨h2,h⟩⟩;rw [h3];refine goD ?_;exact AWP.ret (rets rfl (.refl _) (.refl _) ⟨rfl,rfl⟩)
 ·have h2:¬ t.kind=k:=fun h0=>h1 (by show (t.kind:Int)=k; omega)
  have h3:decide (t.kind=k∧t.text=s)=false:=decide_eq_false fun h=>h2 h.1;rw [h3];refine goD ?_;exact AWP.ret (rets rfl (.refl _) (.refl _) ⟨rfl,rfl⟩)
def kw (t:Tk) (s:List UInt8):Bool:=decide (t.kind=3∧t.text=s)
theorem pword_ok {X:List (List AV)} {a o:Nat} {t:Tk} {st:St} (ho:st.obj o=some (prC X a)) (ha:a < X.length) (hX:X[a]?=some (tokRow t)) (hl:X.length≤100000) (s:List UInt8) :
  ACalls Tryz.prog 22 [.cptr o 2 0 0,.str s] st (fun v st'=>v=.bool (kw t s)∧st'=if kw t s=true then st.set o (prC X (a + 1)) else st) (fun _ _=>False):=by
 refine ACalls.ofBody Tryz.func22 rfl Tryz.ntmps22 rfl ?_;have ho':=ho;unfold prC at ho;refine goD ?_;refine cle rfl rfl (psees_ok ho' ha hX hl 3 s) ?_;unfold kw;by_cases h:t.kind=3∧t.text=s
 ·rw [decide_eq_true h,if_pos rfl];refine goD ?_;refine so (rows':=[[.view 4 X .shared,.int .i64 ((a + 1:Nat):Int)]]) rfl rfl rfl ho rfl rfl rfl rfl rfl ?_;refine goD ?_;exact AWP.ret (rets rfl (.refl _) (.refl _) ⟨rfl,rfl⟩)
 ·rw [decide_eq_false h,if_neg (by decide)];refine goD ?_;exact AWP.ret (rets rfl (.refl _) (.refl _) ⟨rfl,rfl⟩)
theorem psign_ok {X:List (List AV)} {a o:Nat} {t:Tk} {st:St} (ho:st.obj o=some (prC X a)) (ha:a < X.length) (hX:X[a]?=some (tokRow t)) (hl:X.length≤100000) (s:List UInt8) :
  ACalls Tryz.prog 79 [.cptr o 2 0 0,.str s] st (fun v st'=>v=.bool (sg t s)∧st'=if sg t s=true then st.set o (prC X (a + 1)) else st) (fun _ _=>False):=by
 refine ACalls.ofBody Tryz.func79 rfl Tryz.ntmps79 rfl ?_;have ho':=ho;unfold prC at ho;refine goD ?_;refine cle rfl rfl (psees_ok ho' ha hX hl 4 s) ?_;unfold sg;by_cases h:t.kind=4∧t.text=s
 ·rw [decide_eq_true h,if_pos rfl];refine goD ?_;refine so (rows':=[[.view 4 X .shared,.int .i64 ((a + 1:Nat):Int)]]) rfl rfl rfl ho rfl rfl rfl rfl rfl ?_;refine goD ?_;exact AWP.ret (rets rfl (.refl _) (.refl _) ⟨rfl,rfl⟩)
 ·rw [decide_eq_false h,if_neg (by decide)];refine goD ?_;exact AWP.ret (rets rfl (.refl _) (.refl _) ⟨rfl,rfl⟩)
abbrev QR (α:Type):=Except (Nat × List Tk) (α × List Tk)
def PaR {α:Type} (ts:List Tk) (o:Nat) (st:St) (row:α→AV) (r:QR α) (v:AV) (st':St):Prop :=
 ∃ x k,v=row x∧k < ts.length∧st'=st.set o (prC (ts.map tokRow) k)∧r=.ok (x,ts.drop k)
def PaU {α:Type} (ts:List Tk) (o:Nat) (st:St) (r:QR α) (_:AV) (st':St):Prop :=
 ∃ x k,k < ts.length∧st'=st.set o (prC (ts.map tokRow) k)∧r=.ok (x,ts.drop k)
def PaP {α:Type} (ts:List Tk) (o:Nat) (st:St) (r:QR α) (pv:AV) (st':St):Prop :=
 ∃ e k,k < ts.length∧pv=fai (hd (ts.drop k)).line (e:Nat)∧st'=st.set o (prC (ts.map tokRow) k)∧r=.error (e,ts.drop k)
theorem St.set_same {st:St} {o:Nat} {c:AObj} (h:st.obj o=some c):st.set o c=st:=by
 have:(fun p=>if p=o then some c else st.obj p)=st.obj:=by
  funext p
  split
  ·rename_i e; rw [e,h]
  ·rfl
 show ({ st with obj:=_ }:St)=st;rw [this]

def fneed (s:List UInt8) (ts:List Tk):QR Unit:=if sg (hd ts) s then .ok ((),ts.tail) else .error (7,ts)
def fname (ts:List Tk):QR (List UInt8):=if (hd ts).kind=1 then .ok ((hd ts).text,ts.tail) else .error (7,ts)

theorem pfail_P {ts:List Tk} (H:RdH ts) {α:Type} {a o:Nat} {st:St} (ho:st.obj o=some (prC (ts.map tokRow) a)) (ha:a < ts.length) (e:Nat) {r:QR α} (hr:r=.error (e,ts.drop a)) :
  ACalls Tryz.prog 26 [.cptr o 2 0 0,.int .i64 (e:Int)] st (fun _ _=>False) (PaP ts o st r) :=
 (pfail_ok H ho ha e).mono (fun _ _ h=>h) fun pv st' ⟨h1,h2⟩=>⟨e,a,ha,h1,by rw [h2,St.set_same ho],hr⟩
theorem pneed_ok {ts:List Tk} (H:RdH ts) {a o:Nat} {st:St} (ho:st.obj o=some (prC (ts.map tokRow) a)) (ha:a < ts.length) (s:List UInt8) :
  ACalls Tryz.prog 44 [.cptr o 2 0 0,.str s] st (PaU ts o st (fneed s (ts.drop a))) (PaP ts o st (fneed s (ts.drop a))):=by
 refine ACalls.ofBody Tryz.func44 rfl Tryz.ntmps44 rfl ?_;obtain ⟨t,t1,t2,t3,t4,t5⟩:=map_at ha;have hl:(ts.map tokRow).length≤100000:=by rw [List.length_map]; exact H.len
 unfold fneed;rw [t3,t5];refine goD ?_;refine cl rfl rfl (psign_ok ho t4 t2 hl s) fun v st' ⟨hv,hst⟩=>?_;subst hv;subst hst;by_cases hs:sg t s=true
 ·rw [hs,if_pos rfl,if_pos rfl];refine goD ?_;exact rets rfl (.refl _) (.refl _) ⟨(),a + 1,H.last _ _ t1 (by rw [(of_decide_eq_true hs).1]; decide),rfl,rfl⟩
 ·rw [if_neg hs,if_neg hs];rw [Bool.not_eq_true] at hs;rw [hs];refine goD ?_;exact clq rfl rfl (pfail_P H ho ha 7 rfl) (fun v st' h=>⟨st',.refl _,h⟩) fun v st' h=>h.elim
theorem pname_ok {ts:List Tk} (H:RdH ts) {a o:Nat} {st:St} (ho:st.obj o=some (prC (ts.map tokRow) a)) (ha:a < ts.length) :
  ACalls Tryz.prog 43 [.cptr o 2 0 0] st (PaR ts o st .str (fname (ts.drop a))) (PaP ts o st (fname (ts.drop a))):=by
 refine ACalls.ofBody Tryz.func43 rfl Tryz.ntmps43 rfl ?_;obtain ⟨t,t1,t2,t3,t4,t5⟩:=map_at ha;have hl:(ts.map tokRow).length≤100000:=by rw [List.length_map]; exact H.len
 have ho':=ho;unfold prC at ho;unfold fname;rw [t3,t5];refine goD ?_;refine cle rfl rfl (ptoken_ok ho' t4 t2 hl) ?_;by_cases hk:t.kind=1
 ·have hk':(t.kind:Int)=1:=by omega
  rw [if_pos hk];refine goD ?_;refine so (rows':=[[.view 4 (ts.map tokRow) .shared,.int .i64 ((a + 1:Nat):Int)]]) rfl rfl rfl ho rfl rfl rfl rfl rfl ?_;refine goD ?_;exact AWP.ret (rets rfl (.refl _) (.refl _) ⟨t.text,a + 1,rfl,H.last _ _ t1 (by rw [hk]; decide),rfl,rfl⟩)
 ·have hk':¬ (t.kind:Int)=1:=by omega
  rw [if_neg hk];refine goD ?_;exact clq rfl rfl (pfail_P H ho' ha 7 rfl) (fun v st' h=>⟨st',.refl _,h⟩) fun v st' h=>h.elim
abbrev Names:=List (List UInt8)
def fmore:Nat→Names→List Tk→QR Names
 | 0,_,_=>.error (99,[])
 | k + 1,l,ts=>if sg (hd ts) [44] then
   match fname ts.tail with
   | .error e=>.error e
   | .ok (n,r)=>fmore k (l++[n]) r
  else .ok (l,ts)
def fnames (ts:List Tk):QR Names :=
 match fname ts with
 | .error e=>.error e
 | .ok (n,r)=>fmore (ts.length + 1) [n] r
def nrow (l:Names):List (List AV):=l.map fun s=>[.str s]
theorem nrow_len (l:Names):(nrow l).length=l.length:=List.length_map ..
theorem fname_lt {ts:List Tk} {n:List UInt8} {r:List Tk} (h:fname ts=.ok (n,r)) (h0:ts≠[]):r.length < ts.length:=by
 unfold fname at h;split at h
 ·cases h;cases ts with
  | nil=>exact absurd rfl h0
  | cons a b=>exact Nat.lt_succ_self _
 ·cases h
theorem drop_lt {ts:List Tk} {a b:Nat} (ha:a < ts.length) (h:(ts.drop b).length < (ts.drop a).length):a < b:=by
 rw [List.length_drop,List.length_drop] at h;omega
theorem drop_ne {ts:List Tk} {a:Nat} (h:a < ts.length):ts.drop a≠[]:=fun e=>by
 have:=congrArg List.length e;rw [List.length_drop,List.length_nil] at this;omega

theorem pnames_ok {ts:List Tk} (H:RdH ts) {a o:Nat} {st:St} (ho:st.obj o=some (prC (ts.map tokRow) a)) (ha:a < ts.length) :
  ACalls Tryz.prog 45 [.cptr o 2 0 0] st (PaR ts o st (fun l=>.view 1 (nrow l) .shared) (fnames (ts.drop a))) (PaP ts o st (fnames (ts.drop a))):=by
 refine ACalls.ofBody Tryz.func45 rfl Tryz.ntmps45 rfl ?_;have hl:(ts.map tokRow).length≤100000:=by rw [List.length_map]; exact H.len
 refine goD ?_;refine clq rfl rfl (pname_ok H ho ha) (fun v st' ⟨e,k,h1,h2,h3,h4⟩=>⟨st',.refl _,e,k,h1,h2,h3,by rw [fnames,h4]⟩) fun v st' hR=>?_;obtain ⟨n,k,hv,hk,hst,hr⟩:=hR;subst hv;subst hst;have hak:=drop_lt ha (fname_lt hr (drop_ne ha));refine bs1o rfl rfl rfl rfl rfl rfl fun tk htk=>?_;refine goD ?_;refine AWP.loop (α:=Names × Nat × Nat × Nat) (fun y=>[(3,.view 1 (nrow y.1) (.own y.2.2.1 9)),(0,.cptr o 2 0 0)]) (fun y=>(st.set o (prC (ts.map tokRow) y.2.1)).addTok y.2.2.1)
  (fun y=>a < y.2.1∧y.2.1 < ts.length∧st.tok y.2.2.1=false∧y.1.length + a≤y.2.1∧(ts.drop y.2.1).length < y.2.2.2∧fnames (ts.drop a)=fmore y.2.2.2 y.1 (ts.drop y.2.1)) (fun y=>ts.length - y.2.1) ([n],k,tk,(ts.drop a).length + 1)
  ⟨hak,hk,htk,by simp only [List.length_cons,List.length_nil]; omega,by simp only [List.length_drop]; omega,by rw [fnames,hr]⟩ (tl2 rfl rfl) (.refl _) ?_
 clear htk hak hr hk n k tk;rintro ⟨l,k,tk,fu⟩ ⟨h1,h2,h3,h4,h5,h6⟩;simp only at h1 h2 h3 h4 h5 h6;refine AWP.weaken (T':=[(3,.view 1 (nrow l) (.own tk 9)),(0,.cptr o 2 0 0)]) (st':=(st.set o (prC (ts.map tokRow) k)).addTok tk) (tl2 rfl rfl) (.refl _) ?_;obtain ⟨t,t1,t2,t3,t4,t5⟩:=map_at h2;have hok:∀ k',((st.set o (prC (ts.map tokRow) k')).addTok tk).obj o=some (prC (ts.map tokRow) k'):=fun k'=>St.obj_set _ _ _;obtain ⟨fu,rfl⟩:∃ f,fu=f + 1:=⟨fu - 1,by omega⟩;rw [fmore,t3,t5] at h6;refine goD ?_;refine cl rfl rfl (psign_ok (hok k) t4 t2 hl [44]) fun v st' ⟨hv,hst⟩=>?_;subst hv;subst hst;by_cases hs:sg t [44]=true
 ·rw [if_pos hs] at h6;rw [hs,if_pos rfl];have hk1:=H.last _ _ t1 (by rw [(of_decide_eq_true hs).1]; decide);refine goD ?_;have hS:((st.set o (prC (ts.map tokRow) k)).addTok tk).set o (prC (ts.map tokRow) (k + 1))=(st.set o (prC (ts.map tokRow) (k + 1))).addTok tk:=by
   show ((st.addTok tk).set o _).set o _=(st.addTok tk).set o _;rw [St.set_set]
  rw [hS];have hset:∀ k',((st.set o (prC (ts.map tokRow) (k + 1))).addTok tk).set o (prC (ts.map tokRow) k')=(st.set o (prC (ts.map tokRow) k')).addTok tk:=fun k'=>by
   show ((st.addTok tk).set o _).set o _=(st.addTok tk).set o _;rw [St.set_set]
  refine clq rfl rfl (pname_ok H (hok (k + 1)) hk1) (fun v st' ⟨e,k',g1,g2,g3,g4⟩=>⟨st.set o (prC (ts.map tokRow) k'),by rw [g3,hset]; exact StLe.addTok _ (.refl _),e,k',g1,g2,rfl,by rw [h6,g4]⟩) fun v st' hR=>?_;obtain ⟨n,k',hv,hk',hst,hr⟩:=hR;subst hv;subst hst;rw [hset];have hkk:=drop_lt hk1 (fname_lt hr (drop_ne hk1));refine goD ?_;refine ap rfl rfl rfl (St.tok_addTok _ _) rfl (by simp only [List.length_cons,List.length_nil,nrow_len]; have:=H.len; omega) (by simp only [List.length_cons,List.length_nil,nrow_len,maxLen]; have:=H.len; omega) fun tk' htk'=>?_;have hm:nrow l++[(AV.str n).cells]=nrow (l++[n]):=by unfold nrow; rw [List.map_append]; rfl
  rw [hm];refine goD ?_;refine ⟨(l++[n],k',tk',fu),⟨by simp only; omega,hk',St.tok_of_add htk',by simp only [List.length_append,List.length_cons,List.length_nil]; omega,by simp only [List.length_drop] at h5 ⊢; omega,by rw [h6,hr]⟩,by simp only; omega,(tl2 rfl rfl),StLe.reTok (st:=st.set o (prC (ts.map tokRow) k')) h3 tk'⟩
 ·rw [if_neg hs] at h6;rw [if_neg hs];rw [Bool.not_eq_true] at hs;rw [hs];refine goD ?_;refine AWP.exit (blk_hit ?_);refine goD ?_;exact AWP.ret (rets rfl (.shared _ _ _) (StLe.addTok _ (.refl _)) ⟨l,k,rfl,h2,rfl,h6⟩)
def wMax:Nat:=140737488355328
def WrP (st:St) (o:Nat) (L:List UInt8) (_:AV) (st':St):Prop:=∃ u oo,WOk st o L oo∧st'=wS st o u L oo
theorem wS_push {st:St} {o p:Nat} {u:Bool} {l:List UInt8} {oo:Option Nat} (h:WOk st o l oo) (hp:(wS st o u l oo).obj p=none) (c:AObj) :
  (wS st o u l oo).set p c=wS (st.set p c) o u l oo∧WOk (st.set p c) o l oo∧st.obj p=none∧p≠o:=by
 unfold wS at hp ⊢;cases oo with
 | none =>
  have hne:p≠o:=fun e=>by subst e; rw [mst,St.obj_set] at hp; cases hp
  refine ⟨?_,⟨fun o' e=>(by cases e),h.nil⟩,by rwa [mst,St.obj_set_ne hne] at hp,hne⟩;exact St.set_comm _ hne.symm ..
 | some o' =>
  obtain ⟨h1,h2,h3⟩:=h.ne o' rfl;have hp':((st.set o _).set o' _).obj p=none:=hp
  have hne':p≠o':=fun e=>by subst e; rw [St.obj_set] at hp'; cases hp'
  rw [St.obj_set_ne hne'] at hp';have hne:p≠o:=fun e=>by subst e; rw [St.obj_set] at hp'; cases hp'
  rw [St.obj_set_ne hne] at hp';refine ⟨?_,⟨fun o2 e=>?_,fun e=>(by cases e)⟩,hp',hne⟩
  ·show ((st.set o _).set o' _).set p c=((st.set p c).set o _).set o' _;rw [St.set_comm _ hne'.symm,St.set_comm _ hne.symm]
  ·cases e;exact ⟨h1,by rw [St.obj_set_ne hne'.symm]; exact h2,h3⟩
theorem wS_pop {st:St} {o p:Nat} {u:Bool} {l:List UInt8} {oo:Option Nat} {c:AObj} (h:WOk (st.set p c) o l oo) (hp:st.obj p=none):StLe (wS (st.set p c) o u l oo) (wS st o u l oo)∧WOk st o l oo:=by
 refine ⟨?_,⟨fun o' e=>?_,h.nil⟩⟩
 ·unfold wS;cases oo with
  | none=>exact StLe.set _ _ (StLe.new hp (.refl _))
  | some o'=>exact StLe.set _ _ (StLe.set _ _ (StLe.new hp (.refl _)))
 ·obtain ⟨h1,h2,h3⟩:=h.ne o' e;refine ⟨h1,?_,h3⟩;by_cases hpo:o'=p
  ·rw [hpo]; exact hp
  ·rwa [St.obj_set_ne hpo] at h2
theorem WrP.pop {st:St} {o p:Nat} {L:List UInt8} {c:AObj} (hp:st.obj p=none) {v:AV} {st':St} (h:WrP (st.set p c) o L v st'):∃ st2,StLe st' st2∧WrP st o L v st2:=by
 obtain ⟨u,oo,h1,rfl⟩:=h;obtain ⟨h2,h3⟩:=wS_pop (u:=u) h1 hp;exact ⟨_,h2,u,oo,h3,rfl⟩
theorem wS_row {st:St} {o:Nat} {u:Bool} {l:List UInt8} {oo:Option Nat} (g:Nat):(wS st o u l oo).row g=st.row g:=by
 cases oo <;> rfl

theorem flatten_take (l:Names) (i:Nat) (s:List UInt8) (h:l[i]?=some s):(l.take (i + 1)).flatten=(l.take i).flatten++s:=by
 rw [List.take_add_one,h];simp
theorem flatten_le (l:Names) (i:Nat):(l.take i).flatten.length≤l.flatten.length:=by
 have h:l.flatten=(l.take i).flatten++(l.drop i).flatten:=by rw [← List.flatten_append,List.take_append_drop]
 rw [h,List.length_append];omega
set_option maxHeartbeats 1000000 in
theorem texts_ok {st:St} {o:Nat} {u:Bool} {L:List UInt8} {oo:Option Nat} (h:WOk st o L oo) (l:Names) (tk:Go.AM.Tok) (hl:l.length≤100000) (hb:L.length + l.flatten.length≤wMax) :
  ACalls Tryz.prog 57 [.cptr o 2 0 0,.view 1 (nrow l) tk] (wS st o u L oo) (WrP st o (L++l.flatten)) (fun _ _=>False):=by
 refine ACalls.ofBody Tryz.func57 rfl Tryz.ntmps57 rfl ?_;unfold wMax at hb;refine goD ?_;refine AWP.loop (α:=Nat × Bool × Option Nat) (fun y=>[(8,.int .i64 (y.1:Int)),(7,.int .i64 ((nrow l).length:Int)),(6,.view 1 (nrow l) tk),(0,.cptr o 2 0 0)]) (fun y=>wS st o y.2.1 (L++(l.take y.1).flatten) y.2.2) (fun y=>y.1≤l.length∧WOk st o (L++(l.take y.1).flatten) y.2.2) (fun y=>l.length - y.1) (0,u,oo)
  ⟨Nat.zero_le _,by simpa using h⟩ (tl4 rfl rfl rfl rfl) (by simp only [List.take_zero,List.flatten_nil,List.append_nil]; exact .refl _) ?_
 clear h oo u;rintro ⟨i,u,oo⟩ ⟨hi,h⟩;simp only at hi h;refine AWP.weaken (T':=[(8,.int .i64 (i:Int)),(7,.int .i64 ((nrow l).length:Int)),(6,.view 1 (nrow l) tk),(0,.cptr o 2 0 0)]) (st':=wS st o u (L++(l.take i).flatten) oo) (tl4 rfl rfl rfl rfl) (.refl _) ?_;have hnl:=nrow_len l;by_cases hlt:i < l.length
 ·obtain ⟨s,hs⟩:∃ s,l[i]?=some s:=⟨_,List.getElem?_eq_getElem hlt⟩;have hr:(nrow l)[i]?=some [.str s]:=by unfold nrow; rw [List.getElem?_map,hs]; rfl
  have hir:i < (nrow l).length:=by omega
  have hft:=flatten_take l i s hs
  have hle:=flatten_le l (i + 1);rw [hft,List.length_append] at hle;refine goD ?_;refine cl rfl rfl (writeString_ok h (by rw [List.length_append]; omega)) fun v st' ⟨oo',h',hst⟩=>?_;subst hst;rw [List.append_assoc,← hft] at h' ⊢;refine goD ?_;exact ⟨(i + 1,true,oo'),⟨by simp only; omega,h'⟩,by simp only; omega,(tl4 rfl rfl rfl rfl),.refl _⟩
 ·have hil:i=l.length:=by omega
  subst hil;rw [List.take_length] at h ⊢;refine goD ?_;refine AWP.exit (blk_hit ?_);exact rets rfl (.refl _) (.refl _) ⟨u,oo,h,rfl⟩
set_option maxHeartbeats 1000000 in
theorem tabs_ok {st:St} {o:Nat} {u:Bool} {L:List UInt8} {oo:Option Nat} (h:WOk st o L oo) (n:Nat) (hb:L.length + n≤wMax) :
  ACalls Tryz.prog 56 [.cptr o 2 0 0,.int .i64 (n:Int)] (wS st o u L oo) (WrP st o (L++List.replicate n 9)) (fun _ _=>False):=by
 refine ACalls.ofBody Tryz.func56 rfl Tryz.ntmps56 rfl ?_;unfold wMax at hb;refine goD ?_;refine AWP.loop (α:=Nat × Bool × Option Nat) (fun y=>[(5,.int .i64 (y.1:Int)),(4,.int .i64 (n:Int)),(0,.cptr o 2 0 0)]) (fun y=>wS st o y.2.1 (L++List.replicate y.1 9) y.2.2) (fun y=>y.1≤n∧WOk st o (L++List.replicate y.1 9) y.2.2) (fun y=>n - y.1) (0,u,oo)
  ⟨Nat.zero_le _,by simpa using h⟩ (tl3 rfl rfl rfl) (by simp only [List.replicate_zero,List.append_nil]; exact .refl _) ?_
 clear h oo u;rintro ⟨i,u,oo⟩ ⟨hi,h⟩;simp only at hi h;refine AWP.weaken (T':=[(5,.int .i64 (i:Int)),(4,.int .i64 (n:Int)),(0,.cptr o 2 0 0)]) (st':=wS st o u (L++List.replicate i 9) oo) (tl3 rfl rfl rfl) (.refl _) ?_;by_cases hlt:i < n
 ·refine goD ?_;refine cl rfl rfl (writeByte_ok (c:=9) h (by rw [List.length_append,List.length_replicate]; omega)) fun v st' ⟨oo',h',hst⟩=>?_;subst hst;rw [List.append_assoc,← List.replicate_succ'] at h' ⊢;refine goD ?_;exact ⟨(i + 1,true,oo'),⟨by simp only; omega,h'⟩,by simp only; omega,(tl3 rfl rfl rfl),.refl _⟩
 ·have hil:i=n:=by omega
  subst hil;refine goD ?_;refine AWP.exit (blk_hit ?_);exact rets rfl (.refl _) (.refl _) ⟨u,oo,h,rfl⟩
def lnT (d:Nat) (l:Names):List UInt8:=List.replicate d 9++(l.flatten++[10])
theorem line_ok {st:St} {o:Nat} {u:Bool} {L:List UInt8} {oo:Option Nat} (h:WOk st o L oo) (d:Nat) (l:Names) (tk:Go.AM.Tok) (hl:l.length≤100000) (hb:L.length + (lnT d l).length≤wMax) :
  ACalls Tryz.prog 29 [.cptr o 2 0 0,.int .i64 (d:Int),.view 1 (nrow l) tk] (wS st o u L oo) (WrP st o (L++lnT d l)) (fun _ _=>False):=by
 refine ACalls.ofBody Tryz.func29 rfl Tryz.ntmps29 rfl ?_;simp only [lnT,List.length_append,List.length_replicate,List.length_cons,List.length_nil] at hb;refine goD ?_;refine cl rfl rfl (tabs_ok h d (by omega)) fun v st' ⟨u2,oo2,h2,hst⟩=>?_;subst hst;refine goD ?_;refine cl rfl rfl (texts_ok h2 l tk hl (by simp only [List.length_append,List.length_replicate]; omega)) fun v st' ⟨u3,oo3,h3,hst⟩=>?_;subst hst;refine goD ?_;refine cl rfl rfl (texts_ok h3 [[10]] _ (by decide) (by simp only [List.length_append,List.length_replicate,List.flatten_cons,List.flatten_nil,List.length_cons,List.length_nil]; omega)) fun v st' ⟨u4,oo4,h4,hst⟩=>?_;subst hst;have e:L++List.replicate d 9++l.flatten++[[10]].flatten=L++lnT d l:=by simp [lnT]
 rw [e] at h4 ⊢;refine goD ?_;exact rets rfl (.refl _) (.refl _) ⟨u4,oo4,h4,rfl⟩
end Go.Proofs
namespace Go.Proofs
open Go.AM
attribute [local irreducible] AWP AOps ACalls AAny
def qb {α β:Type} (r:QR α) (f:α→List Tk→QR β):QR β :=
 match r with
 | .error e=>.error e
 | .ok (x,r)=>f x r
theorem qb_ok {α β:Type} {r:QR α} {f:α→List Tk→QR β} {x:α} {t:List Tk} (h:r=.ok (x,t)):qb r f=f x t:=by rw [h]; rfl
theorem qb_err {α β:Type} {r:QR α} {f:α→List Tk→QR β} {e:Nat × List Tk} (h:r=.error e):qb r f=.error e:=by rw [h]; rfl

structure Rec where
 name:List UInt8
 fields:Names
def recRow (r:Rec):List AV:=[.str r.name,.view 1 (nrow r.fields) .shared]
def frecord (ts:List Tk):QR Rec :=
 qb (fname ts) fun n r1=>qb (fneed [123] r1) fun _ r2=>qb (fnames r2) fun l r3=>qb (fneed [125] r3) fun _ r4=>.ok (⟨n,l⟩,r4)

/-! States: the parser's object innermost, what is local behind it. -/
theorem set_ne_new {st:St} {o p:Nat} {a:AObj} (h:(st.set o a).obj p=none):o≠p:=fun e=>by subst e; rw [St.obj_set] at h; cases h
theorem none_set {st:St} {o p:Nat} {a:AObj} (h:(st.set o a).obj p=none) (r:AObj):(st.set o r).obj p=none:=by
 have hne:=set_ne_new h;rw [St.obj_set_ne (Ne.symm hne)] at h ⊢;exact h
theorem none_set2 {st:St} {o o2 p:Nat} {a y:AObj} (h:((st.set o a).set o2 y).obj p=none) (r z:AObj):((st.set o r).set o2 z).obj p=none:=by
 have hne:=set_ne_new h;rw [St.obj_set_ne (Ne.symm hne)] at h ⊢;exact none_set h r
theorem none_set3 {st:St} {o o2 o3 p:Nat} {a y x:AObj} (h:(((st.set o a).set o2 y).set o3 x).obj p=none) (r z w:AObj):(((st.set o r).set o2 z).set o3 w).obj p=none:=by
 have hne:=set_ne_new h;rw [St.obj_set_ne (Ne.symm hne)] at h ⊢;exact none_set2 h r z
theorem ne_inner {st:St} {o o2 p:Nat} {a y:AObj} (h:((st.set o a).set o2 y).obj p=none):o≠p:=by
 have hne:=set_ne_new h;rw [St.obj_set_ne (Ne.symm hne)] at h;exact set_ne_new h
theorem ne_inner2 {st:St} {o o2 o3 p:Nat} {a y x:AObj} (h:(((st.set o a).set o2 y).set o3 x).obj p=none):o≠p:=by
 have hne:=set_ne_new h;rw [St.obj_set_ne (Ne.symm hne)] at h;exact ne_inner h
def ob0:AObj:=.iter [] 0
section
variable {st:St} {o o2 o3 o4:Nat} (h2:∀ r,(st.set o r).obj o2=none) (h3:∀ r z,((st.set o r).set o2 z).obj o3=none) (h4:∀ r z w,(((st.set o r).set o2 z).set o3 w).obj o4=none)
include h2 in
theorem push1 (b z r:AObj):((st.set o b).set o2 z).set o r=(st.set o r).set o2 z:=by
 rw [St.set_comm _ (Ne.symm (set_ne_new (h2 ob0))),St.set_set]
include h2 h3 in
theorem push2 (b z w r:AObj):(((st.set o b).set o2 z).set o3 w).set o r=((st.set o r).set o2 z).set o3 w:=by
 rw [St.set_comm _ (Ne.symm (ne_inner (h3 ob0 ob0))),push1 h2]
include h2 in
theorem drop1 (z r:AObj):StLe ((st.set o r).set o2 z) (st.set o r):=StLe.new (h2 r) (.refl _)
include h2 h3 in
theorem drop2 (z w r:AObj):StLe (((st.set o r).set o2 z).set o3 w) (st.set o r):=StLe.new (h3 r z) (drop1 h2 z r)
include h2 in
theorem obj1 (z r:AObj):((st.set o r).set o2 z).obj o=some r:=St.obj_under (Ne.symm (set_ne_new (h2 ob0))) _ _
include h2 h3 in
theorem obj2 (z w r:AObj):(((st.set o r).set o2 z).set o3 w).obj o=some r:=by
 rw [St.obj_set_ne (ne_inner (h3 ob0 ob0))];exact obj1 h2 z r
end
theorem ACalls.inSet {P:Program} {f:FuncId} {args:List AV} {st:St} {Rt RP:AV→St→Prop} {o:Nat} {c:AObj} (ho:st.obj o=some c) (h:ACalls P f args (st.set o c) Rt RP):ACalls P f args st Rt RP:=by
 rw [St.set_same ho] at h;exact h

theorem precord_ok {ts:List Tk} (H:RdH ts) {a o:Nat} {st:St} (ho:st.obj o=some (prC (ts.map tokRow) a)) (ha:a < ts.length) :
  ACalls Tryz.prog 23 [.cptr o 2 0 0] st (PaR ts o st (fun r=>.agg (recRow r)) (frecord (ts.drop a))) (PaP ts o st (frecord (ts.drop a))):=by
 refine ACalls.inSet ho (ACalls.ofBody Tryz.func23 rfl Tryz.ntmps23 rfl ?_);have hl:(ts.map tokRow).length≤100000:=by rw [List.length_map]; exact H.len
 refine goC ?_;refine rg ?_;refine al rfl rfl fun o2 h2=>?_
 replace h2:=none_set h2
 refine goD ?_;refine clq rfl rfl (pname_ok H (obj1 h2 _ _) ha) (fun v st' ⟨e,k,q1,q2,q3,q4⟩=>⟨_,by rw [q3,push1 h2]; exact drop1 h2 _ _,e,k,q1,q2,rfl,by rw [frecord,qb_err q4]⟩) fun v st' hR=>?_;obtain ⟨n,k,hv,hk,hst,hr⟩:=hR;subst hv;subst hst;rw [push1 h2,frecord,qb_ok hr];clear hr
 skip
 refine bds (cs:=[.str n,nilV]) rfl rfl rfl rfl ?_;refine al rfl rfl fun o3 h3=>?_
 replace h3:=none_set2 h3
 refine soV rfl rfl rfl rfl rfl rfl ?_;refine goD ?_;refine clq rfl rfl (pneed_ok H (obj2 h2 h3 _ _ _) hk [123]) (fun v st' ⟨e,k,q1,q2,q3,q4⟩=>⟨_,by rw [q3,push2 h2 h3]; exact drop2 h2 h3 _ _ _,e,k,q1,q2,rfl,by rw [qb_err q4]⟩) fun v st' hR=>?_;obtain ⟨x1,k2,hk2,hst,hr⟩:=hR;subst hst;rw [push2 h2 h3,qb_ok hr];clear hr;refine goD ?_;refine clq rfl rfl (pnames_ok H (obj2 h2 h3 _ _ _) hk2) (fun v st' ⟨e,k,q1,q2,q3,q4⟩=>⟨_,by rw [q3,push2 h2 h3]; exact drop2 h2 h3 _ _ _,e,k,q1,q2,rfl,by rw [qb_err q4]⟩) fun v st' hR=>?_;obtain ⟨l,k3,hv,hk3,hst,hr⟩:=hR;subst hv;subst hst;rw [push2 h2 h3,qb_ok hr];clear hr;refine goD ?_;refine so1 (row':=recRow ⟨n,l⟩) rfl rfl rfl rfl rfl (by exact Nat.le_of_ble_eq_true rfl) rfl ?_;refine goD ?_;refine clq rfl rfl (pneed_ok H (obj2 h2 h3 _ _ _) hk3 [125]) (fun v st' ⟨e,k,q1,q2,q3,q4⟩=>⟨_,by rw [q3,push2 h2 h3]; exact drop2 h2 h3 _ _ _,e,k,q1,q2,rfl,by rw [qb_err q4]⟩) fun v st' hR=>?_;obtain ⟨x1,k4,hk4,hst,hr⟩:=hR;subst hst;rw [push2 h2 h3,qb_ok hr];clear hr;refine goD ?_;refine soU rfl (Ne.symm (set_ne_new (h3 ob0 ob0))) rfl rfl rfl rfl rfl ?_;refine goD ?_;exact AWP.ret (rets (resCW rfl (St.obj_under (Ne.symm (set_ne_new (h3 ob0 ob0))) _ _) rfl rfl rfl rfl) (.refl _) (drop2 h2 h3 _ _ _) ⟨⟨n,l⟩,k4,rfl,hk4,rfl,rfl⟩)
end Go.Proofs
namespace Go.Proofs
open Go.AM
attribute [local irreducible] AWP AOps ACalls AAny
theorem pbeg_ok (t:Tk) (st:St):ACalls Tryz.prog 140 [.agg (tokRow t)] st (fun v st'=>v=.bool (beg t)∧st'=st) (fun _ _=>False):=by
 refine ACalls.ofBody Tryz.func140 rfl Tryz.ntmps140 rfl ?_;by_cases h1:t.kind=1
 ·have hb:beg t=true:=by unfold beg; rw [h1]; rfl
  rw [hb];have h1':(t.kind:Int)=1:=by omega
  refine goD ?_;exact AWP.ret (rets rfl (.refl _) (.refl _) ⟨rfl,rfl⟩)
 have h1':¬ (t.kind:Int)=1:=by omega
 by_cases h2:t.kind=2
 ·have hb:beg t=true:=by unfold beg; rw [h2]; rfl
  rw [hb];have h2':(t.kind:Int)=2:=by omega
  refine goD ?_;exact AWP.ret (rets rfl (.refl _) (.refl _) ⟨rfl,rfl⟩)
 have h2':¬ (t.kind:Int)=2:=by omega
 by_cases h4:t.kind=4
 ·have h4':(t.kind:Int)=4:=by omega
  have hb:beg t=(decide (t.text=[45]) || decide (t.text=[33]) || decide (t.text=[40])):=by
   unfold beg sg;simp only [h4,true_and];rfl
  rw [hb];clear hb;refine goD ?_;by_cases k1:t.text=[45]
  ·rw [decide_eq_true k1,Bool.true_or,Bool.true_or];refine goD ?_;exact AWP.ret (rets rfl (.refl _) (.refl _) ⟨rfl,rfl⟩)
  rw [decide_eq_false k1,Bool.false_or];by_cases k2:t.text=[33]
  ·rw [decide_eq_true k2,Bool.true_or];refine goD ?_;exact AWP.ret (rets rfl (.refl _) (.refl _) ⟨rfl,rfl⟩)
  rw [decide_eq_false k2,Bool.false_or];refine goD ?_;exact AWP.ret (rets rfl (.refl _) (.refl _) ⟨rfl,rfl⟩)
 ·have h4':¬ (t.kind:Int)=4:=by omega
  have hb:beg t=false:=by
   unfold beg sg;simp [h1,h2,h4]
  rw [hb];refine goD ?_;exact AWP.ret (rets rfl (.refl _) (.refl _) ⟨rfl,rfl⟩)

def sgnRow:List AV:=[.str [43],.str [45],.str [42],.str [47],.str [37],.str [38],.str [124],.str [94],.str [60],.str [60,61],.str [61,61],.str [33,61]]
def opLo:Nat→Nat
 | 1=>14|2=>11|3=>6|_=>8
def opHi:Nat→Nat
 | 1=>17|2=>13|3=>7|_=>10
theorem sgnRow_at:∀ m,m < 12→∃ s l,binL[m]?=some (s,l,m + 6)∧sgnRow[m]?=some (.str s)∧1≤l∧l≤4∧(∀ lv,1≤lv→lv≤4→(l=lv ↔ opLo lv≤m + 6∧m + 6≤opHi lv))
 | 0,_=>⟨_,_,rfl,rfl,by decide,by decide,fun lv h1 h4=>by rcases (by omega:lv=1∨lv=2∨lv=3∨lv=4) with rfl|rfl|rfl|rfl <;> decide⟩
 | 1,_=>⟨_,_,rfl,rfl,by decide,by decide,fun lv h1 h4=>by rcases (by omega:lv=1∨lv=2∨lv=3∨lv=4) with rfl|rfl|rfl|rfl <;> decide⟩
 | 2,_=>⟨_,_,rfl,rfl,by decide,by decide,fun lv h1 h4=>by rcases (by omega:lv=1∨lv=2∨lv=3∨lv=4) with rfl|rfl|rfl|rfl <;> decide⟩
 | 3,_=>⟨_,_,rfl,rfl,by decide,by decide,fun lv h1 h4=>by rcases (by omega:lv=1∨lv=2∨lv=3∨lv=4) with rfl|rfl|rfl|rfl <;> decide⟩
 | 4,_=>⟨_,_,rfl,rfl,by decide,by decide,fun lv h1 h4=>by rcases (by omega:lv=1∨lv=2∨lv=3∨lv=4) with rfl|rfl|rfl|rfl <;> decide⟩
 | 5,_=>⟨_,_,rfl,rfl,by decide,by decide,fun lv h1 h4=>by rcases (by omega:lv=1∨lv=2∨lv=3∨lv=4) with rfl|rfl|rfl|rfl <;> decide⟩
 | 6,_=>⟨_,_,rfl,rfl,by decide,by decide,fun lv h1 h4=>by rcases (by omega:lv=1∨lv=2∨lv=3∨lv=4) with rfl|rfl|rfl|rfl <;> decide⟩
 | 7,_=>⟨_,_,rfl,rfl,by decide,by decide,fun lv h1 h4=>by rcases (by omega:lv=1∨lv=2∨lv=3∨lv=4) with rfl|rfl|rfl|rfl <;> decide⟩
 | 8,_=>⟨_,_,rfl,rfl,by decide,by decide,fun lv h1 h4=>by rcases (by omega:lv=1∨lv=2∨lv=3∨lv=4) with rfl|rfl|rfl|rfl <;> decide⟩
 | 9,_=>⟨_,_,rfl,rfl,by decide,by decide,fun lv h1 h4=>by rcases (by omega:lv=1∨lv=2∨lv=3∨lv=4) with rfl|rfl|rfl|rfl <;> decide⟩
 | 10,_=>⟨_,_,rfl,rfl,by decide,by decide,fun lv h1 h4=>by rcases (by omega:lv=1∨lv=2∨lv=3∨lv=4) with rfl|rfl|rfl|rfl <;> decide⟩
 | 11,_=>⟨_,_,rfl,rfl,by decide,by decide,fun lv h1 h4=>by rcases (by omega:lv=1∨lv=2∨lv=3∨lv=4) with rfl|rfl|rfl|rfl <;> decide⟩
 | n + 12,h=>absurd h (by omega)
theorem bin_at {t:Tk} {s:List UInt8} {x:List UInt8 × Nat × Nat} (hx:x ∈ binL) (hs:x.1=s) (h:sg t s=true):bin t=x.2:=by
 have hk:=of_decide_eq_true h;subst hs;obtain ⟨k1,k2⟩:=hk;unfold bin binL sg;simp only [k1,k2,true_and];simp only [binL,List.mem_cons,List.not_mem_nil,or_false] at hx;rcases hx with rfl|rfl|rfl|rfl|rfl|rfl|rfl|rfl|rfl|rfl|rfl|rfl <;> decide
theorem bin_no {t:Tk} {lv:Nat} (h1:1≤lv) (h:∀ x,x ∈ binL→x.2.1=lv→sg t x.1=false):(bin t).1≠lv:=by
 unfold bin;cases hf:binL.find? fun o=>sg t o.1 with
 | none=>intro e; simp at e; omega
 | some x =>
  intro e;have hm:=List.mem_of_find?_eq_some hf
  have hp:=List.find?_some hf;simp only [Option.map_some,Option.getD_some] at e;rw [h x hm e] at hp;cases hp
theorem poperator_ok {X:List (List AV)} {a o:Nat} {t:Tk} {st:St} (ho:st.obj o=some (prC X a)) (ha:a < X.length) (hX:X[a]?=some (tokRow t)) (hl:X.length≤100000) (lv:Nat) (h1:1≤lv) (h4:lv≤4) (hg:st.row 3=some sgnRow) :
  ACalls Tryz.prog 112 [.cptr o 2 0 0,.int .i64 (opLo lv:Int),.int .i64 (opHi lv:Int)] st
   (fun v st'=>v=.int .i64 ((if (bin t).1=lv then (bin t).2 else 0:Nat):Int)∧st'=if (bin t).1=lv then st.set o (prC X (a + 1)) else st) (fun _ _=>False):=by
 refine ACalls.ofBody Tryz.func112 rfl Tryz.ntmps112 rfl ?_;have hlo:6≤opLo lv∧opLo lv≤opHi lv∧opHi lv≤17:=by rcases (by omega:lv=1∨lv=2∨lv=3∨lv=4) with rfl|rfl|rfl|rfl <;> decide
 refine goD ?_;refine AWP.loop (α:=Nat) (fun i=>[(7,.int .i64 (i:Int)),(2,.int .i64 (opHi lv:Int)),(0,.cptr o 2 0 0)]) (fun _=>st) (fun i=>opLo lv≤i∧i≤opHi lv + 1∧∀ x,x ∈ binL→opLo lv≤x.2.2→x.2.2 < i→sg t x.1=false) (fun i=>18 - i) (opLo lv)
  ⟨Nat.le_refl _,by omega,fun x _ h2 h3=>by omega⟩ (tl3 rfl rfl rfl) (.refl _) ?_
 rintro i ⟨k1,k2,k3⟩;refine AWP.weaken (T':=[(7,.int .i64 (i:Int)),(2,.int .i64 (opHi lv:Int)),(0,.cptr o 2 0 0)]) (tl3 rfl rfl rfl) (.refl _) ?_;by_cases hi:i≤opHi lv
 ·obtain ⟨m,rfl⟩:∃ m,i=m + 6:=⟨i - 6,by omega⟩;obtain ⟨s,l,q1,q2,q3,q4,q5⟩:=sgnRow_at m (by omega);refine goD ?_;refine sbn (a:=m + 6) (b:=6) rfl rfl rfl (by omega) ?_
  skip
  have hgl:∀ T:Tmps,ev st T (.global 3)=some (.eptr 12 [sgnRow] 0 0):=fun T=>congrArg (Option.map fun row:List AV=>AV.eptr row.length [row] 0 0) hg;refine ixa (m:=m) (q:=.eptr 12 [sgnRow] 0 (0 + m * 1)) rfl rfl (by omega) (by omega) (by rw [hgl]; rfl) ?_;refine Go.AM.le (v:=.str s) rfl rfl rfl (by rw [Nat.zero_add,Nat.mul_one]; exact sel_one q2) ?_
  skip
  refine cl rfl rfl (psign_ok ho ha hX hl s) fun v st' ⟨hv,hst⟩=>?_;subst hv;subst hst;by_cases hs:sg t s=true
  ·have hb:bin t=(l,m + 6):=bin_at (List.mem_of_getElem? q1) rfl hs
   have hl:l=lv:=(q5 lv h1 h4).2 ⟨k1,hi⟩;rw [hb,if_pos hl,if_pos hl,hs,if_pos rfl];refine goD ?_;exact AWP.ret (rets rfl (.refl _) (.refl _) ⟨rfl,rfl⟩)
  ·rw [if_neg hs];rw [Bool.not_eq_true] at hs;rw [hs];refine goD ?_;refine ⟨m + 6 + 1,⟨by omega,by omega,fun x hx h2 h3=>?_⟩,by omega,(tl3 rfl rfl rfl),.refl _⟩;rcases Nat.lt_or_ge x.2.2 (m + 6) with h|h
   ·exact k3 x hx h2 h
   ·obtain ⟨m',hm'⟩:=List.getElem?_of_mem hx;obtain ⟨s',l',r1,_,_,_,_⟩:=sgnRow_at m' (List.getElem?_eq_some_iff.1 hm').1;rw [r1] at hm';cases hm';simp only at h h3;have:m'=m:=by omega
    subst this;rw [q1] at r1;cases r1;exact hs
 ·refine goD ?_;refine AWP.exit (blk_hit ?_);refine goD ?_;have hno:(bin t).1≠lv:=bin_no h1 fun x hx he=>by
   obtain ⟨m,hm⟩:=List.getElem?_of_mem hx;have hm12:m < 12:=(List.getElem?_eq_some_iff.1 hm).1;obtain ⟨s,l,q1,q2,q3,q4,q5⟩:=sgnRow_at m hm12;rw [q1] at hm;cases hm;have:=(q5 lv h1 h4).1 he;exact k3 _ hx this.1 (by simp only; omega)
  rw [if_neg hno,if_neg hno];exact AWP.ret (rets rfl (.refl _) (.refl _) ⟨rfl,rfl⟩)
def xrow:Xp→List AV
 | .lit n=>exRow 0 n [] [] noE
 | .var s=>exRow 1 0 s [] noE
 | .fld s f=>exRow 2 0 s f noE
 | .elt s a=>exRow 3 0 s [] (.view 6 [xrow a] .shared)
 | .una op a=>exRow op 0 [] [] (.view 6 [xrow a] .shared)
 | .bin op a b=>exRow op 0 [] [] (.view 6 [xrow a,xrow b] .shared)
theorem xrow_ex (x:Xp):∃ (op num:Int) (name field:List UInt8) (args:List (List AV)),xrow x=exRow op num name field (.view 6 args .shared):=by
 cases x <;> exact ⟨_,_,_,_,_,rfl⟩
def xv (x:Xp):AV:=.agg (xrow x)

def ftg (k d:Nat) (ts:List Tk):FR :=
 qb (fname ts) fun n r=>if sg (hd r) [46] then qb (fname r.tail) fun f r2=>.ok (.fld n f,r2)
  else if sg (hd r) [91] then qb (fe k 1 (d + 1) r.tail) fun x r2=>qb (fneed [93] r2) fun _ r3=>.ok (.elt n x,r3)
  else .ok (.var n,r)
theorem fo_name {k d:Nat} {ts:List Tk} (h1:(hd ts).kind=1) (h8:¬ 8 < d):fo (k + 1) d ts=ftg k d ts:=by
 have hb:beg (hd ts)=true:=by unfold beg; rw [h1]; rfl
 rw [fo,if_pos hb,if_neg h8,if_neg (by omega),if_pos h1,ftg,fname,if_pos h1,qb_ok rfl];split
 ·rw [fname];split <;> rfl
 ·split
  ·cases fe k 1 (d + 1) ts.tail.tail with
   | error e=>rfl
   | ok p =>
    obtain ⟨x,r⟩:=p;rw [qb_ok rfl,fneed];simp only;split <;> rfl
  ·rfl

def fnLv:Nat→Nat
 | 1=>101|2=>111|3=>124|4=>129|_=>134
def FeOk (ts:List Tk) (K:Nat):Prop:=∀ k,k≤K→∀ (lv d a o:Nat) (st:St),1≤lv→lv≤5→d≤9→a < ts.length→7 * (ts.length - a) + (6 - lv) < k→st.obj o=some (prC (ts.map tokRow) a)→st.row 3=some sgnRow →
 ACalls Tryz.prog (fnLv lv) [.cptr o 2 0 0,.int .i64 (d:Int)] st (PaR ts o st xv (fe k lv d (ts.drop a))) (PaP ts o st (fe k lv d (ts.drop a)))

theorem pneed_of {ts:List Tk} (H:RdH ts) {a o:Nat} {st:St} (ho:st.obj o=some (prC (ts.map tokRow) a)) (ha:a < ts.length):∃ t,ts[a]?=some t∧hd (ts.drop a)=t∧(ts.drop a).tail=ts.drop (a + 1)∧(t.kind≠0→a + 1 < ts.length) ∧
  (∀ s,ACalls Tryz.prog 79 [.cptr o 2 0 0,.str s] st (fun v st'=>v=.bool (sg t s)∧st'=if sg t s=true then st.set o (prC (ts.map tokRow) (a + 1)) else st) (fun _ _=>False)) ∧
  (∀ s,ACalls Tryz.prog 22 [.cptr o 2 0 0,.str s] st (fun v st'=>v=.bool (kw t s)∧st'=if kw t s=true then st.set o (prC (ts.map tokRow) (a + 1)) else st) (fun _ _=>False)) ∧
  ACalls Tryz.prog 25 [.cptr o 2 0 0] st (fun v st'=>v=.agg (tokRow t)∧st'=st) (fun _ _=>False):=by
 obtain ⟨t,t1,t2,t3,t4,t5⟩:=map_at ha;have hl:(ts.map tokRow).length≤100000:=by rw [List.length_map]; exact H.len
 exact ⟨t,t1,t3,t5,H.last _ _ t1,psign_ok ho t4 t2 hl,pword_ok ho t4 t2 hl,ptoken_ok ho t4 t2 hl⟩
theorem sg_kind {t:Tk} {s:List UInt8} (h:sg t s=true):t.kind≠0:=by rw [(of_decide_eq_true h).1]; decide

theorem ptarget_ok {ts:List Tk} (H:RdH ts) {k:Nat} (hK:FeOk ts k) {d a o:Nat} {st:St} (hd8:d≤8) (ho:st.obj o=some (prC (ts.map tokRow) a)) (ha:a < ts.length) (hk:7 * (ts.length - a) < k + 2) (hg:st.row 3=some sgnRow) :
  ACalls Tryz.prog 115 [.cptr o 2 0 0,.int .i64 (d:Int)] st (PaR ts o st xv (ftg k d (ts.drop a))) (PaP ts o st (ftg k d (ts.drop a))):=by
 refine ACalls.inSet ho (ACalls.ofBody Tryz.func115 rfl Tryz.ntmps115 rfl ?_);refine goC ?_;refine rg ?_;refine al rfl rfl fun o2 h2=>?_
 replace h2:=none_set h2
 refine goD ?_;refine clq rfl rfl (pname_ok H (obj1 h2 _ _) ha) (fun v st' ⟨e,k,q1,q2,q3,q4⟩=>⟨_,by rw [q3,push1 h2]; exact drop1 h2 _ _,e,k,q1,q2,rfl,by rw [ftg,qb_err q4]⟩) fun v st' hR=>?_;obtain ⟨n,b,hv,hb,hst,hr⟩:=hR;subst hv;subst hst;have hab:=drop_lt ha (fname_lt hr (drop_ne ha));rw [push1 h2,ftg,qb_ok hr];clear hr;refine bds (cs:=exRow 1 0 n [] nilV) rfl rfl rfl rfl ?_;refine al rfl rfl fun o3 h3=>?_
 replace h3:=none_set2 h3
 refine soV rfl rfl rfl rfl rfl rfl ?_;refine goD ?_;obtain ⟨t,t1,t3,t5,t6,ps,_,_⟩:=pneed_of H (obj2 h2 h3 (.cells 95 6 [exRow 0 0 [] [] nilV]) (.cells 95 6 [exRow 1 0 n [] nilV]) _) hb;rw [t3,t5];refine cl rfl rfl (ps [46]) fun v st' ⟨hv,hst⟩=>?_;subst hv;subst hst;by_cases c1:sg t [46]=true
 ·rw [if_pos c1,if_pos c1,c1,push2 h2 h3];have hb1:=t6 (sg_kind c1);obtain ⟨u,_,u3,u5,u6,_,_,_⟩:=pneed_of H (obj2 h2 h3 (.cells 95 6 [exRow 0 0 [] [] nilV]) (.cells 95 6 [exRow 1 0 n [] nilV]) _) hb1;refine goD ?_;refine so1 (row':=exRow 2 0 n [] nilV) rfl rfl rfl rfl rfl (by exact Nat.le_of_ble_eq_true rfl) rfl ?_;refine goD ?_;refine clq rfl rfl (pname_ok H (obj2 h2 h3 _ _ _) hb1) (fun v st' ⟨e,k,q1,q2,q3,q4⟩=>⟨_,by rw [q3,push2 h2 h3]; exact drop2 h2 h3 _ _ _,e,k,q1,q2,rfl,by rw [qb_err q4]⟩) fun v st' hR=>?_;obtain ⟨f,c,hv,hc,hst,hr⟩:=hR;subst hv;subst hst;rw [push2 h2 h3,qb_ok hr];refine goD ?_;refine so1 (row':=exRow 2 0 n f nilV) rfl rfl rfl rfl rfl (by exact Nat.le_of_ble_eq_true rfl) rfl ?_;refine goD ?_;refine soU rfl (Ne.symm (set_ne_new (h3 ob0 ob0))) rfl rfl rfl rfl rfl ?_;refine goD ?_;exact AWP.ret (rets (resCW rfl (St.obj_under (Ne.symm (set_ne_new (h3 ob0 ob0))) _ _) rfl rfl rfl rfl) (ex_nil _ _ _ _) (drop2 h2 h3 _ _ _) ⟨.fld n f,c,rfl,hc,rfl,rfl⟩)
 rw [if_neg c1,if_neg c1];rw [Bool.not_eq_true] at c1;rw [c1];refine goD ?_;refine cl rfl rfl (ps [91]) fun v st' ⟨hv,hst⟩=>?_;subst hv;subst hst;by_cases c2:sg t [91]=true
 ·rw [if_pos c2,if_pos c2,c2,push2 h2 h3];have hb1:=t6 (sg_kind c2);refine goD ?_;refine so1 (row':=exRow 3 0 n [] nilV) rfl rfl rfl rfl rfl (by exact Nat.le_of_ble_eq_true rfl) rfl ?_;refine goD ?_;refine clq rfl rfl (hK k (Nat.le_refl _) 1 (d + 1) (b + 1) o _ (Nat.le_refl _) (by omega) (by omega) hb1 (by omega) (obj2 h2 h3 _ _ _) hg) (fun v st' ⟨e,k,q1,q2,q3,q4⟩=>⟨_,by rw [q3,push2 h2 h3]; exact drop2 h2 h3 _ _ _,e,k,q1,q2,rfl,by rw [qb_err q4]⟩) fun v st' hR=>?_;obtain ⟨x,c,hv,hc,hst,hr⟩:=hR;subst hv;subst hst;rw [push2 h2 h3,qb_ok hr];obtain ⟨op,num,name,field,args,hx⟩:=xrow_ex x;rw [xv,hx];refine bsh (cs:=exRow op num name field (.view 6 args .shared)) rfl rfl rfl rfl rfl ?_;refine goD ?_;refine so1 (row':=exRow 3 0 n [] (.view 6 [exRow op num name field (.view 6 args .shared)] .shared)) rfl rfl rfl rfl rfl (by exact Nat.le_of_ble_eq_true rfl) rfl ?_;refine goD ?_;refine clq rfl rfl (pneed_ok H (obj2 h2 h3 _ _ _) hc [93]) (fun v st' ⟨e,k,q1,q2,q3,q4⟩=>⟨_,by rw [q3,push2 h2 h3]; exact drop2 h2 h3 _ _ _,e,k,q1,q2,rfl,by rw [qb_err q4]⟩) fun v st' hR=>?_;obtain ⟨_,c2,hc2,hst,hr2⟩:=hR;subst hst;rw [push2 h2 h3,qb_ok hr2];refine goD ?_;refine soU rfl (Ne.symm (set_ne_new (h3 ob0 ob0))) rfl rfl rfl rfl rfl ?_;refine goD ?_;refine AWP.ret (rets (resCW rfl (St.obj_under (Ne.symm (set_ne_new (h3 ob0 ob0))) _ _) rfl rfl rfl rfl) (.refl _) (drop2 h2 h3 _ _ _) ⟨.elt n x,c2,?_,hc2,rfl,rfl⟩);show AV.agg _=AV.agg (exRow 3 0 n [] (.view 6 [xrow x] .shared));rw [hx] <;> rfl
 ·rw [if_neg c2,if_neg c2];rw [Bool.not_eq_true] at c2;rw [c2];refine goD ?_;refine soU rfl (Ne.symm (set_ne_new (h3 ob0 ob0))) rfl rfl rfl rfl rfl ?_;refine goD ?_;exact AWP.ret (rets (resCW rfl (St.obj_under (Ne.symm (set_ne_new (h3 ob0 ob0))) _ _) rfl rfl rfl rfl) (ex_nil _ _ _ _) (drop2 h2 h3 _ _ _) ⟨.var n,b,rfl,hb,rfl,rfl⟩)
end Go.Proofs
namespace Go.Proofs
def lvO (op:Nat):Nat:=if 14≤op then 1 else if 11≤op then 2 else if 8≤op then 4 else if 6≤op then 3 else if 4≤op then 5 else 6
def lvX:Xp→Nat
 | .una _ _=>5
 | .bin op _ _=>lvO op
 | _=>6
def sgO (op:Nat):List UInt8:=((binL.find? fun o=>decide (o.2.2=op)).map Prod.fst).getD []
def tS (s:List UInt8):Tk:=⟨4,1,s,0⟩
def lpar (op:Nat) (a:Xp):Bool:=decide (lvX a < lvO op∨lvX a=1)
def rpar (op:Nat) (b:Xp):Bool:=decide (lvX b≤lvO op)
def nd:Xp→Nat
 | .elt _ a=>nd a + 1
 | .una _ a=>1 + (nd a + if lvX a < 5 then 1 else 0)
 | .bin op a b=>max (nd a + if lpar op a then 1 else 0) (nd b + if rpar op b then 1 else 0)
 | _=>0
def Wop:Xp→Prop
 | .elt _ a=>Wop a
 | .una op a=>(op=4∨op=5)∧Wop a
 | .bin op a b=>6≤op∧op≤17∧Wop a∧Wop b
 | _=>True

theorem hd_cons (t:Tk) (r:List Tk):hd (t::r)=t:=rfl
theorem sgO_bin (op:Nat) (h1:6≤op) (h2:op≤17):bin (tS (sgO op))=(lvO op,op)∧1≤lvO op∧lvO op≤4∧sg (tS (sgO op)) [46]=false∧sg (tS (sgO op)) [91]=false:=by
 have:op=6∨op=7∨op=8∨op=9∨op=10∨op=11∨op=12∨op=13∨op=14∨op=15∨op=16∨op=17:=by omega
 rcases this with rfl|rfl|rfl|rfl|rfl|rfl|rfl|rfl|rfl|rfl|rfl|rfl <;> decide

end Go.Proofs
namespace Go.Proofs
def opn (ts:List Tk):Nat:=ts.countP fun t=>sg t [40]
def b1 (b:Bool):Nat:=if b then 1 else 0
def WX (Pn:List UInt8→Prop) (Pm:Nat→Prop):Xp→Prop
 | .lit n=>Pm n
 | .var s=>Pn s
 | .fld s f=>Pn s∧Pn f
 | .elt s a=>Pn s∧WX Pn Pm a
 | .una _ a=>WX Pn Pm a
 | .bin _ a b=>WX Pn Pm a∧WX Pn Pm b
def GT (Pn:List UInt8→Prop) (Pm:Nat→Prop) (ts:List Tk):Prop:=∀ t ∈ ts,(t.kind=1→Pn t.text)∧(t.kind=2→Pm t.num)

theorem b1_le (b:Bool):b1 b≤1:=by cases b <;> decide

variable {Pn:List UInt8→Prop} {Pm:Nat→Prop}

end Go.Proofs
namespace Go.Proofs
theorem rest_lt {s:List UInt8} {line m:Nat} {t:Tk} (h:one s line=.ok (t,m)) (l:Nat):(skip false (s.drop m) l).1.length < s.length:=by
 obtain ⟨h1,h2,_⟩:=one_ok h;have:=(skip_le false (s.drop m) l).1;rw [List.length_drop] at this;omega

theorem skip_cons (cm:Bool) (c:UInt8) (r:List UInt8) (l:Nat):skip cm (c::r) l=if c=10 then skip false r (l + 1) else bif cm then skip true r l else if c=32∨c=9∨c=13 then skip false r l else if c=47∧r.head?=some 47 then skip true r l else (c::r,l):=rfl

theorem scan_small (s:List UInt8):(scan s).1.length≤2001:=by
 have h:∀ (k:Nat) (s:List UInt8) (line:Nat) (out:List Tk),out.length≤2000→(scanL k s line out).1.length≤2001:=by
  intro k
  induction k with
  | zero=>intro s line out _; simp [scanL]
  | succ k ih =>
   intro s line out ho;cases s with
   | nil=>simp [scanL]; omega
   | cons c r =>
    rw [scanL];split
    ·simp
    ·split
     ·simp
     ·exact ih _ _ _ (by simp; omega)
 unfold scan;split
 ·simp
 ·exact h _ _ _ _ (by simp)

def decF:Nat→Nat→List UInt8→List UInt8
 | 0,_,acc=>acc
 | k + 1,n,acc=>if n=0∧acc≠[] then acc else decF k (n / 10) (UInt8.ofNat (48 + n % 10)::acc)
def dec (n:Nat):List UInt8:=decF 20 n []

def wordOf (t:Tk):List UInt8:=if t.kind=2 then dec t.num else t.text

theorem sign_take (s:List UInt8):sign s=s.take (sign s).length:=by
 unfold sign;split
 ·rename_i h;have:∀ w ∈ signs2,w.length=2:=by decide
  rw [this _ h]
 ·split
  ·split
   ·rfl
   ·rfl
  ·rfl

theorem tw_app {q:UInt8→Bool} {rest:List UInt8} (hr:rest=[]∨∃ c r,rest=c::r∧q c=false):∀ {w:List UInt8},(∀ c ∈ w,q c=true)→(w++rest).takeWhile q=w
 | [],_=>by
  rcases hr with rfl|⟨c,r,rfl,hc⟩
  ·rfl
  ·simp [hc]
 | a::w,h=>by
  rw [List.cons_append,List.takeWhile_cons,if_pos (h a (by simp)),tw_app hr fun c hc=>h c (by simp [hc])]

def Gap (rest:List UInt8):Prop:=rest=[]∨∃ c r,rest=c::r∧(c=32∨c=9∨c=10∨c=13)

theorem Gap.no {rest:List UInt8} (h:Gap rest) {q:UInt8→Bool} (h1:q 32=false) (h2:q 9=false) (h3:q 10=false) (h4:q 13=false):rest=[]∨∃ c r,rest=c::r∧q c=false:=by
 rcases h with h|⟨c,r,h,hc⟩
 ·exact .inl h
 ·refine .inr ⟨c,r,h,?_⟩;rcases hc with rfl|rfl|rfl|rfl <;> assumption

structure Good (t:Tk):Prop where
 one:∀ rest line,Gap rest→one (wordOf t++rest) line=.ok ({ t with line:=line },(wordOf t).length)
 skip:∀ rest line,Gap rest→skip false (wordOf t++rest) line=(wordOf t++rest,line)
 num:t.num < 10 ^ 18
 len:(wordOf t).length≤20

theorem decF_spec:∀ (j k n:Nat) (acc:List UInt8),n < 10 ^ j→j≤k→acc≠[]→∃ ds,decF k n acc=ds++acc∧ds.length≤j∧(∀ c ∈ ds,isDig c=true)∧digits ds=n
 | 0,k,n,acc,hn,_,ha=>by
  have:n=0:=by omega
  subst this;refine ⟨[],?_,Nat.le_refl _,(fun c hc=>by cases hc),rfl⟩;cases k with
  | zero=>rfl
  | succ k=>rw [decF,if_pos ⟨rfl,ha⟩]; rfl
 | j + 1,k,n,acc,hn,hk,ha=>by
  obtain ⟨k,rfl⟩:∃ x,k=x + 1:=⟨k - 1,by omega⟩;by_cases h0:n=0
  ·subst h0;exact ⟨[],by rw [decF,if_pos ⟨rfl,ha⟩]; rfl,Nat.zero_le _,(fun c hc=>by cases hc),rfl⟩
  ·have hb:(UInt8.ofNat (48 + n % 10)).toNat=48 + n % 10:=by
    rw [UInt8.toNat_ofNat'];omega
   rw [Nat.pow_succ] at hn;obtain ⟨ds,h1,h2,h3,h4⟩:=decF_spec j k (n / 10) (UInt8.ofNat (48 + n % 10)::acc) (by omega) (by omega) (by simp);refine ⟨ds++[UInt8.ofNat (48 + n % 10)],?_,by simp; omega,fun c hc=>?_,?_⟩
   ·rw [decF,if_neg (fun h=>h0 h.1),h1];simp
   ·rcases List.mem_append.1 hc with h|h
    ·exact h3 c h
    ·rw [List.mem_singleton.1 h];simp only [isDig,hb,Bool.and_eq_true,decide_eq_true_eq];omega
   ·rw [digits_snoc,h4,hb];omega

theorem dec_spec (n:Nat) (hn:n < 10 ^ 18):dec n≠[]∧(dec n).length≤18∧(∀ c ∈ dec n,isDig c=true)∧digits (dec n)=n:=by
 have hb:(UInt8.ofNat (48 + n % 10)).toNat=48 + n % 10:=by
  rw [UInt8.toNat_ofNat'];omega
 obtain ⟨ds,h1,h2,h3,h4⟩:=decF_spec 17 19 (n / 10) [UInt8.ofNat (48 + n % 10)] (by omega) (by omega) (by simp);have e:dec n=ds++[UInt8.ofNat (48 + n % 10)]:=by
  rw [← h1,dec,decF,if_neg (by simp)]
 rw [e];refine ⟨by simp,by simp; omega,fun c hc=>?_,?_⟩
 ·rcases List.mem_append.1 hc with h|h
  ·exact h3 c h
  ·rw [List.mem_singleton.1 h];simp only [isDig,hb,Bool.and_eq_true,decide_eq_true_eq];omega
 ·rw [digits_snoc,h4,hb];omega

theorem sign_good:∀ sg,(sg ∈ signs2∨∃ c ∈ signs1,sg=[c])→∃ c r,sg=c::r∧isLet c=false∧isDig c=false∧c≠10∧c≠32∧c≠9∧c≠13∧(c=47→r=[])∧sg.length≤2:=by
 have h2:∀ sg ∈ signs2,∃ c r,sg=c::r∧isLet c=false∧isDig c=false∧c≠10∧c≠32∧c≠9∧c≠13∧(c=47→r=[])∧sg.length≤2:=by
  intro sg h;simp only [signs2,List.mem_cons,List.not_mem_nil,or_false] at h;rcases h with rfl|rfl|rfl <;> exact ⟨_,_,rfl,rfl,rfl,by decide,by decide,by decide,by decide,by decide,by decide⟩
 have h1:∀ c ∈ signs1,isLet c=false∧isDig c=false∧c≠10∧c≠32∧c≠9∧c≠13:=by decide
 rintro sg (h|⟨c,hc,rfl⟩)
 ·exact h2 sg h
 ·obtain ⟨a1,a2,a3,a4,a5,a6⟩:=h1 c hc;exact ⟨c,[],rfl,a1,a2,a3,a4,a5,a6,fun _=>rfl,by simp⟩

theorem sign_app {sg rest:List UInt8} (hr:Gap rest) (h:sg ∈ signs2∨∃ c ∈ signs1,sg=[c]) (h1:∀ c,sg=[c]→c ∈ signs1):sign (sg++rest)=sg:=by
 have hlen:∀ w ∈ signs2,w.length=2:=by decide
 rcases h with h|⟨c,hc,rfl⟩
 ·unfold sign;have:(sg++rest).take 2=sg:=by
   rw [List.take_append_of_le_length (by rw [hlen _ h]; omega),List.take_of_length_le (by rw [hlen _ h]; omega)]
  rw [this,if_pos h]
 ·have hn:¬ ([c]++rest).take 2 ∈ signs2:=by
   rcases hr with rfl|⟨d,r,rfl,hd⟩
   ·intro h;have:=hlen _ h;simp at this
   ·intro h;have h2:∀ w ∈ signs2,∃ a,w=[a,61]:=by
     intro w hw;simp only [signs2,List.mem_cons,List.not_mem_nil,or_false] at hw;rcases hw with rfl|rfl|rfl <;> exact ⟨_,rfl⟩
    obtain ⟨a,ha⟩:=h2 _ h;simp at ha;rcases hd with rfl|rfl|rfl|rfl <;> exact absurd ha.2 (by decide)
  unfold sign;rw [if_neg hn];show (if c ∈ signs1 then [c] else [])=[c];rw [if_pos hc]

theorem sign_is (s:List UInt8) (h:sign s≠[]):sign s ∈ signs2∨∃ c ∈ signs1,sign s=[c]:=by
 unfold sign at h ⊢;split
 ·rename_i h2;exact .inl h2
 ·rename_i h2;rw [if_neg h2] at h;split at h
  ·rename_i c r;split at h
   ·rename_i hc;simp only [hc,if_true];exact .inr ⟨c,hc,rfl⟩
   ·exact absurd rfl h
  ·exact absurd rfl h

theorem skip_word {w rest:List UInt8} (hr:Gap rest) {c:UInt8} {r:List UInt8} (hw:w=c::r) (h:c≠10∧c≠32∧c≠9∧c≠13∧(c=47→r=[])) (line:Nat):skip false (w++rest) line=(w++rest,line):=by
 obtain ⟨h1,h2,h3,h4,h5⟩:=h;subst hw;rw [List.cons_append,skip_cons,if_neg h1,cond_false,if_neg (by rintro (h|h|h) <;> contradiction),if_neg]
 rintro ⟨h6,h7⟩;rw [h5 h6] at h7;rcases hr with rfl|⟨d,q,rfl,hd⟩
 ·cases h7
 ·simp at h7;rcases hd with rfl|rfl|rfl|rfl <;> exact absurd h7 (by decide)

theorem let_facts {c:UInt8} (h:isNP c=true):c≠10∧c≠32∧c≠9∧c≠13∧c≠47:=by
 refine ⟨?_,?_,?_,?_,?_⟩ <;> (rintro rfl; exact absurd h (by decide))

theorem good_of_one {s:List UInt8} {line m:Nat} {t:Tk} (h:Go.Proofs.one s line=.ok (t,m)):Good t:=by
 unfold Go.Proofs.one at h;split at h
 ·cases h
 ·rename_i c r;cases hl:isLet c
  ·cases hd:isDig c
   ·
    simp only [hl,hd,cond_false] at h;split at h
    ·cases h
    ·rename_i hne;cases h;have hs:=sign_is (c::r) hne;generalize sign (c::r)=sg at hs hne;obtain ⟨a,q,hsg,f1,f2,f3,f4,f5,f6,f7,f8⟩:=sign_good sg hs;have hw:wordOf ⟨4,line,sg,0⟩=sg:=rfl;refine ⟨fun rest line' hr=>?_,fun rest line' hr=>?_,show 0 < 10 ^ 18 by decide,by rw [hw]; omega⟩
     ·rw [hw];have h2:sign (sg++rest)=sg:=sign_app hr hs fun c hc=>by
       rcases hs with hs|⟨c',hc',e⟩
       ·have hlen:∀ w ∈ signs2,w.length=2:=by decide
        have:=hlen _ hs;rw [hc] at this;cases this
       ·rw [hc] at e;cases e;exact hc'
      subst hsg;unfold Go.Proofs.one;simp only [List.cons_append,f1,f2,cond_false] at h2 ⊢;rw [h2,if_neg (by simp)]
     ·rw [hw];exact skip_word hr hsg ⟨f3,f4,f5,f6,f7⟩ line'
   ·
    simp only [hl,hd,cond_false,cond_true] at h;split at h
    ·cases h
    ·rename_i h18;split at h
     ·cases h
     ·cases h;have hall:∀ x ∈ (c::r).takeWhile isDig,isDig x=true:=fun x hx=>mem_tw hx
      have hlt:=digits_lt _ _ rfl hall
      have hp:10 ^ ((c::r).takeWhile isDig).length≤10 ^ 18:=Nat.pow_le_pow_right (by omega) (by omega);generalize digits ((c::r).takeWhile isDig)=v at hlt;have hv:v < 10 ^ 18:=by omega
      obtain ⟨d1,d2,d3,d4⟩:=dec_spec v hv;have hw:wordOf ⟨2,line,[],v⟩=dec v:=rfl;generalize dec v=ds at d1 d2 d3 d4 hw;obtain ⟨a,q,rfl⟩:∃ a q,ds=a::q:=by
       cases ds with
       | nil=>exact absurd rfl d1
       | cons a q=>exact ⟨a,q,rfl⟩
      have ha:=d3 a (by simp)
      have hal:isLet a=false:=by
       cases hl:isLet a with
       | false=>rfl
       | true=>simp [isLet,isDig] at hl ha; omega
      obtain ⟨g1,g2,g3,g4,g5⟩:=let_facts (c:=a) (by simp [isNP,ha]);refine ⟨fun rest line' hr=>?_,fun rest line' hr=>?_,hv,by rw [hw]; omega⟩
      ·rw [hw];have htw:(a::q++rest).takeWhile isDig=a::q:=tw_app (hr.no rfl rfl rfl rfl) d3
       have hhd:(((a::q++rest).drop (a::q).length).head?.map isNP).getD false=false:=by
        rw [List.drop_left];rcases hr.no (q:=isNP) rfl rfl rfl rfl with rfl|⟨d,r',rfl,hd⟩
        ·rfl
        ·simpa using hd
       unfold Go.Proofs.one;simp only [List.cons_append,hal,ha,cond_false,cond_true] at htw hhd ⊢;simp only [htw,hhd,if_neg (show ¬ 18 < (a::q).length by omega),d4];rfl
      ·rw [hw];exact skip_word hr rfl ⟨g1,g2,g3,g4,fun h=>absurd h g5⟩ line'
  ·
   simp only [hl,cond_true] at h;split at h
   ·cases h
   ·rename_i h12;cases h;have hall:∀ x ∈ (c::r).takeWhile isNP,isNP x=true:=fun x hx=>mem_tw hx
    have hhd:∃ q,(c::r).takeWhile isNP=c::q:=⟨r.takeWhile isNP,by rw [List.takeWhile_cons,if_pos (by simp [isNP,hl])]⟩;obtain ⟨q,hq⟩:=hhd;generalize (c::r).takeWhile isNP=nm at hall hq h12;subst hq;have hw:wordOf ⟨if c::q ∈ words then 3 else 1,line,c::q,0⟩=c::q:=by
     unfold wordOf;rw [if_neg];simp only;split <;> decide
    obtain ⟨g1,g2,g3,g4,g5⟩:=let_facts (hall c (by simp));refine ⟨fun rest line' hr=>?_,fun rest line' hr=>?_,show 0 < 10 ^ 18 by decide,by rw [hw]; omega⟩
    ·rw [hw];have htw:(c::q++rest).takeWhile isNP=c::q:=tw_app (hr.no rfl rfl rfl rfl) hall;unfold Go.Proofs.one;simp only [List.cons_append,hl,cond_true] at htw ⊢;simp only [htw,if_neg h12]
    ·rw [hw];exact skip_word hr rfl ⟨g1,g2,g3,g4,fun h=>absurd h g5⟩ line'

def gaps:List (List UInt8):=[[32],[9,32],[10],[32,47,47,32,97,32,42,32,49,98,32,36,10],[13,10]]
def Nm (s:List UInt8):Prop:=∃ c r,s=c::r∧isLet c=true∧(∀ x ∈ s,isNP x=true)∧s.length≤12∧s ∉ words
def Nu (n:Nat):Prop:=n < 10 ^ 18
def pby (b:Bool) (l:List UInt8):List UInt8:=if b then 40::(l++[41]) else l
def xby:Xp→List UInt8
 | .lit n=>dec n
 | .var s=>s
 | .fld s f=>s++46::f
 | .elt s a=>s++91::(xby a++[93])
 | .una op a=>(if op=4 then 45 else 33)::pby (decide (lvX a < 5)) (xby a)
 | .bin op a b=>pby (lpar op a) (xby a)++32::(sgO op++32::pby (rpar op b) (xby b))

end Go.Proofs
namespace Go.Proofs
open Go.AM
attribute [local irreducible] AWP AOps ACalls AAny
theorem beg_cases {t:Tk} (h:beg t=true):t.kind=1∨t.kind=2∨(t.kind=4∧(t.text=[45]∨t.text=[33]∨t.text=[40])):=by
 unfold beg sg at h;simp only [Bool.or_eq_true,decide_eq_true_eq] at h;rcases h with (((h|h)|h)|h)|h
 ·exact .inl h
 ·exact .inr (.inl h)
 ·exact .inr (.inr ⟨h.1,.inl h.2⟩)
 ·exact .inr (.inr ⟨h.1,.inr (.inl h.2)⟩)
 ·exact .inr (.inr ⟨h.1,.inr (.inr h.2)⟩)
theorem fo_sign {k d:Nat} {ts:List Tk} (hb:beg (hd ts)=true) (h8:¬ 8 < d) (h2:¬ (hd ts).kind=2) (h1:¬ (hd ts).kind=1):fo (k + 1) d ts=if (hd ts).text=[40] then qb (fe k 1 (d + 1) ts.tail) fun x r=>qb (fneed [41] r) fun _ r2=>.ok (x,r2)
  else qb (fo k (d + 1) ts.tail) fun x r=>.ok (.una (if (hd ts).text=[45] then 4 else 5) x,r):=by
 rw [fo,if_pos hb,if_neg h8,if_neg h2,if_neg h1];split
 ·cases fe k 1 (d + 1) ts.tail with
  | error e=>rfl
  | ok p =>
   obtain ⟨x,r⟩:=p;rw [qb_ok rfl,fneed];simp only;split <;> rfl
 ·cases fo k (d + 1) ts.tail <;> rfl
theorem fe_5 (k d:Nat) (ts:List Tk):fe (k + 1) 5 d ts=fo k d ts:=by rw [fe,if_pos (Nat.le_refl 5)]

set_option maxHeartbeats 1000000 in
theorem punary_step {ts:List Tk} (H:RdH ts) {k:Nat} (hK:FeOk ts (k + 1)) {d a o:Nat} {st:St} (hd9:d≤9) (ho:st.obj o=some (prC (ts.map tokRow) a)) (ha:a < ts.length) (hk:7 * (ts.length - a) < k + 1) (hg:st.row 3=some sgnRow) :
  ACalls Tryz.prog 134 [.cptr o 2 0 0,.int .i64 (d:Int)] st (PaR ts o st xv (fo (k + 1) d (ts.drop a))) (PaP ts o st (fo (k + 1) d (ts.drop a))):=by
 refine ACalls.inSet ho (ACalls.ofBody Tryz.func134 rfl Tryz.ntmps134 rfl ?_);have hoA:∀ S:St,(S.set o (prC (ts.map tokRow) a)).obj o=some (.cells 58 2 [[.view 4 (ts.map tokRow) .shared,.int .i64 (a:Int)]]):=fun S=>St.obj_set _ _ _;refine goC ?_;refine rg ?_;refine al rfl rfl fun o2 h2=>?_
 replace h2:=none_set h2
 refine goD ?_;obtain ⟨t,t1,t3,t5,t6,ps,_,pt⟩:=pneed_of H (obj1 h2 (.cells 95 6 [exRow 0 0 [] [] nilV]) _) ha;refine cle rfl rfl pt ?_;refine goD ?_;refine cle rfl rfl (pbeg_ok t _) ?_;by_cases hb:beg t=true
 rotate_left
 ·have e0:fo (k + 1) d (ts.drop a)=.error (7,ts.drop a):=by rw [fo,t3,if_neg hb]
  rw [Bool.not_eq_true] at hb;rw [hb];refine goD ?_;exact clq rfl rfl (pfail_P H (obj1 h2 _ _) ha 7 e0) (fun v st' ⟨e,k,q1,q2,q3,q4⟩=>⟨_,by rw [q3,push1 h2]; exact drop1 h2 _ _,e,k,q1,q2,rfl,q4⟩) fun v st' h=>h.elim
 rw [hb];by_cases h8:8 < d
 ·have e0:fo (k + 1) d (ts.drop a)=.error (5,ts.drop a):=by rw [fo,t3,if_pos hb,if_pos h8]
  refine goD ?_;exact clq rfl rfl (pfail_P H (obj1 h2 _ _) ha 5 e0) (fun v st' ⟨e,k,q1,q2,q3,q4⟩=>⟨_,by rw [q3,push1 h2]; exact drop1 h2 _ _,e,k,q1,q2,rfl,q4⟩) fun v st' h=>h.elim
 refine goD ?_;refine cl rfl rfl (ps [45]) fun v st' ⟨hv,hst⟩=>?_;subst hv;subst hst;by_cases c1:sg t [45]=true
 ·skip
  have hx4:=of_decide_eq_true c1
  have e0:fo (k + 1) d (ts.drop a)=qb (fo k (d + 1) (ts.drop (a + 1))) fun x r=>.ok (.una 4 x,r):=by
   rw [fo_sign (by rw [t3]; exact hb) h8 (by rw [t3,hx4.1]; decide) (by rw [t3,hx4.1]; decide),t3,t5,hx4.2,if_neg (by decide)];rfl
  rw [if_pos c1,c1,push1 h2];have hb1:=t6 (sg_kind c1)
  have hu:=hK (k + 1) (Nat.le_refl _) 5 (d + 1) (a + 1) o _ (by decide) (by decide) (by omega) hb1 (by omega) (obj1 h2 (.cells 95 6 [exRow 0 0 [] [] nilV]) _) hg;rw [fe_5] at hu;refine goD ?_;refine clq rfl rfl hu (fun v st' ⟨e,k,q1,q2,q3,q4⟩=>⟨_,by rw [q3,push1 h2]; exact drop1 h2 _ _,e,k,q1,q2,rfl,by rw [e0,qb_err q4]⟩) fun v st' hR=>?_;obtain ⟨x,c,hv,hc,hst,hr⟩:=hR;subst hv;subst hst;rw [push1 h2];obtain ⟨op,num,name,field,args,hx⟩:=xrow_ex x;rw [xv,hx];refine bsh (cs:=exRow op num name field (.view 6 args .shared)) rfl rfl rfl rfl rfl ?_;refine bds (cs:=exRow 4 0 [] [] (.view 6 [exRow op num name field (.view 6 args .shared)] .shared)) rfl rfl rfl rfl ?_;refine soV rfl rfl rfl rfl rfl rfl ?_;refine goD ?_;refine AWP.ret (rets (resCW rfl (St.obj_set _ _ _) rfl rfl rfl rfl) (.refl _) (drop1 h2 _ _) ⟨.una 4 x,c,?_,hc,rfl,by rw [e0,qb_ok hr]⟩);show AV.agg _=AV.agg (exRow 4 0 [] [] (.view 6 [xrow x] .shared));rw [hx] <;> rfl
 rw [if_neg c1];have n1:=c1;rw [Bool.not_eq_true] at c1;rw [c1];refine goD ?_;refine cl rfl rfl (ps [33]) fun v st' ⟨hv,hst⟩=>?_;subst hv;subst hst;rename_i z1 z2;clear c1;by_cases c1:sg t [33]=true
 ·skip
  have hx4:=of_decide_eq_true c1
  have e0:fo (k + 1) d (ts.drop a)=qb (fo k (d + 1) (ts.drop (a + 1))) fun x r=>.ok (.una 5 x,r):=by
   rw [fo_sign (by rw [t3]; exact hb) h8 (by rw [t3,hx4.1]; decide) (by rw [t3,hx4.1]; decide),t3,t5,hx4.2,if_neg (by decide)];rfl
  rw [if_pos c1,c1,push1 h2];have hb1:=t6 (sg_kind c1)
  have hu:=hK (k + 1) (Nat.le_refl _) 5 (d + 1) (a + 1) o _ (by decide) (by decide) (by omega) hb1 (by omega) (obj1 h2 (.cells 95 6 [exRow 0 0 [] [] nilV]) _) hg;rw [fe_5] at hu;refine goD ?_;refine clq rfl rfl hu (fun v st' ⟨e,k,q1,q2,q3,q4⟩=>⟨_,by rw [q3,push1 h2]; exact drop1 h2 _ _,e,k,q1,q2,rfl,by rw [e0,qb_err q4]⟩) fun v st' hR=>?_;obtain ⟨x,c,hv,hc,hst,hr⟩:=hR;subst hv;subst hst;rw [push1 h2];obtain ⟨op,num,name,field,args,hx⟩:=xrow_ex x;rw [xv,hx];refine bsh (cs:=exRow op num name field (.view 6 args .shared)) rfl rfl rfl rfl rfl ?_;refine bds (cs:=exRow 5 0 [] [] (.view 6 [exRow op num name field (.view 6 args .shared)] .shared)) rfl rfl rfl rfl ?_;refine soV rfl rfl rfl rfl rfl rfl ?_;refine goD ?_;refine AWP.ret (rets (resCW rfl (St.obj_set _ _ _) rfl rfl rfl rfl) (.refl _) (drop1 h2 _ _) ⟨.una 5 x,c,?_,hc,rfl,by rw [e0,qb_ok hr]⟩);show AV.agg _=AV.agg (exRow 5 0 [] [] (.view 6 [xrow x] .shared));rw [hx] <;> rfl
 rw [if_neg c1];have n2:=c1;rw [Bool.not_eq_true] at c1;rw [c1];refine goD ?_;refine cl rfl rfl (ps [40]) fun v st' ⟨hv,hst⟩=>?_;subst hv;subst hst;clear c1;by_cases c1:sg t [40]=true
 ·have hx4:=of_decide_eq_true c1
  have e0:fo (k + 1) d (ts.drop a)=qb (fe k 1 (d + 1) (ts.drop (a + 1))) fun x r=>qb (fneed [41] r) fun _ r2=>.ok (x,r2):=by
   rw [fo_sign (by rw [t3]; exact hb) h8 (by rw [t3,hx4.1]; decide) (by rw [t3,hx4.1]; decide),t3,t5,hx4.2,if_pos rfl]
  rw [if_pos c1,c1,push1 h2];have hb1:=t6 (sg_kind c1)
  have hu:=hK k (Nat.le_succ _) 1 (d + 1) (a + 1) o _ (by decide) (by decide) (by omega) hb1 (by omega) (obj1 h2 (.cells 95 6 [exRow 0 0 [] [] nilV]) _) hg;refine goD ?_;refine clq rfl rfl hu (fun v st' ⟨e,k,q1,q2,q3,q4⟩=>⟨_,by rw [q3,push1 h2]; exact drop1 h2 _ _,e,k,q1,q2,rfl,by rw [e0,qb_err q4]⟩) fun v st' hR=>?_;obtain ⟨x,c,hv,hc,hst,hr⟩:=hR;subst hv;subst hst;rw [push1 h2,e0,qb_ok hr];obtain ⟨op,num,name,field,args,hx⟩:=xrow_ex x;rw [xv,hx];refine goD ?_;refine clq rfl rfl (pneed_ok H (obj1 h2 _ _) hc [41]) (fun v st' ⟨e,k,q1,q2,q3,q4⟩=>⟨_,by rw [q3,push1 h2]; exact drop1 h2 _ _,e,k,q1,q2,rfl,by rw [qb_err q4]⟩) fun v st' hR=>?_;obtain ⟨_,c2,hc2,hst,hr2⟩:=hR;subst hst;rw [push1 h2,qb_ok hr2];refine goD ?_;refine soV rfl rfl rfl rfl rfl rfl ?_;refine goD ?_;refine AWP.ret (rets (resCW rfl (St.obj_set _ _ _) rfl rfl rfl rfl) (.refl _) (drop1 h2 _ _) ⟨x,c2,?_,hc2,rfl,rfl⟩);show AV.agg _=AV.agg (xrow x);rw [hx] <;> rfl
 rw [if_neg c1];have n3:=c1;rw [Bool.not_eq_true] at c1;rw [c1];by_cases k2:t.kind=2
 ·have k2':(t.kind:Int)=2:=by omega
  have hl:=H.len
  have e0:fo (k + 1) d (ts.drop a)=.ok (.lit t.num,ts.drop (a + 1)):=by
   rw [fo,t3,if_pos hb,if_neg h8,if_pos k2,t5]
  have hb1:=t6 (by rw [k2]; decide)
  have ho2:((st.set o (prC (ts.map tokRow) a)).set o2 (.cells 95 6 [exRow 0 0 [] [] nilV])).obj o=some (.cells 58 2 [[.view 4 (ts.map tokRow) .shared,.int .i64 (a:Int)]]):=obj1 h2 _ _;refine goD ?_;refine so (rows':=[[.view 4 (ts.map tokRow) .shared,.int .i64 ((a + 1:Nat):Int)]]) rfl rfl rfl ho2 rfl rfl rfl rfl rfl ?_;rw [push1 h2];refine goD ?_;refine bds (cs:=exRow 0 t.num [] [] nilV) rfl rfl rfl rfl ?_;refine soV rfl rfl rfl rfl rfl rfl ?_;refine goD ?_;exact AWP.ret (rets (resCW rfl (St.obj_set _ _ _) rfl rfl rfl rfl) (ex_nil _ _ _ _) (drop1 h2 _ _) ⟨.lit t.num,a + 1,rfl,hb1,rfl,e0⟩)
 ·have k2':¬ (t.kind:Int)=2:=by omega
  have k1:t.kind=1:=by
   rcases beg_cases hb with h|h|⟨h,h'|h'|h'⟩
   ·exact h
   ·exact absurd h k2
   ·exact absurd (decide_eq_true ⟨h,h'⟩) n1
   ·exact absurd (decide_eq_true ⟨h,h'⟩) n2
   ·exact absurd (decide_eq_true ⟨h,h'⟩) n3
  have e0:fo (k + 1) d (ts.drop a)=ftg k d (ts.drop a):=fo_name (by rw [t3]; exact k1) h8
  have hK':FeOk ts k:=fun k' hk'=>hK k' (by omega);refine goD ?_;refine clq rfl rfl (ptarget_ok H hK' (by omega) (obj1 h2 _ _) ha (by omega) hg) (fun v st' ⟨e,k,q1,q2,q3,q4⟩=>⟨_,by rw [q3,push1 h2]; exact drop1 h2 _ _,e,k,q1,q2,rfl,by rw [e0,q4]⟩) fun v st' hR=>?_;obtain ⟨x,c,hv,hc,hst,hr⟩:=hR;subst hv;subst hst;rw [push1 h2,e0];obtain ⟨op,num,name,field,args,hx⟩:=xrow_ex x;rw [xv,hx];refine soV rfl rfl rfl rfl rfl rfl ?_;refine goD ?_;refine AWP.ret (rets (resCW rfl (St.obj_set _ _ _) rfl rfl rfl rfl) (.refl _) (drop1 h2 _ _) ⟨x,c,?_,hc,rfl,hr⟩);show AV.agg _=AV.agg (xrow x);rw [hx] <;> rfl
end Go.Proofs
