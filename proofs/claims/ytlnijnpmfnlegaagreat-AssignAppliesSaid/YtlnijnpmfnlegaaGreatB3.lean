/- Drawn regions with operations that may panic. No conditions: definitions and lemmas only. -/
import Derived.Lib.Builder
import Derived.Lib.UnsafeStr
import Derived.Test.YtlnijnpmfnlegaaGreatProg
import Derived.KernelRfl
import Derived.Test.YtlnijnpmfnlegaaGreatB2
namespace Go.AM
open Go.RowKit (Below)
section
variable {P:Program} {n:Nat} {K:Post} {E:EPost} {T:Tmps} {st:St}
def StepP (P:Program) (n:Nat) (X:AV→St→Prop) (I:List (Option AV)→St→Prop) (S Es:List Nat) (i:Nat) (ops:Array Oper) (T:Tmps) (vals:Nat→AV) (o:Oper) (Q:AV→Prop):Prop :=
 (wantedA ops T o=some true∧∀ vs:List (Option AV),vs.length=Es.length→mayBe S Es i (vs.map Option.isSome)=true→LinkV Es i vals vs →
  ∀ st g w a (K':Act→World→Prop) (Q':Exit→Act→World→Prop),I vs st→Sim g w st→Known g w T a→a.tmps.size=n →
   (∀ rv g' w' v st1,Ext g w g' w'→Sim g' w' st1→R g' w' v rv→Q v→I (setV Es i v vs) st1→K' (a.put o.dst rv) w') →
   (∀ pv rv g' w' st1,Ext g w g' w'→Sim g' w' st1→R g' w' pv rv→X pv st1→Q' (.panic [{ v:=rv,recovered:=false }]) a w')→o.wp P a w K' Q')∨(wantedA ops T o=some false∧Q (.lit undef)∧Es.contains i=false)
def DRunP (P:Program) (n:Nat) (X:AV→St→Prop) (I:List (Option AV)→St→Prop) (S Es:List Nat) (ops:Array Oper):Nat→List Oper→List (AV→Prop)→Tmps→(Nat→AV)→(Tmps→St→Prop)→Prop
 | _,[],[],T,vals,k=>∀ st,I (Es.map fun e=>some (vals e)) st→k T st
 | i,o::r,Q::Qs,T,vals,k=>(∃ u,Q u)∧dstOk o.dst n=true∧StepP P n X I S Es i ops (see ops o T) vals o Q∧∀ u,Q u→DRunP P n X I S Es ops (i + 1) r Qs (T.put o.dst u) (fun j=>bif Nat.beq j i then u else vals j) k
 | _,_,_,_,_,_=>False
theorem DRunP.out {X:AV→St→Prop} {I:List (Option AV)→St→Prop} {S Es:List Nat} {ops:Array Oper} {k:Tmps→St→Prop} (b:Nat) (us:Nat→AV) (l:List Oper):∀ (r:List Oper) (Qs:List (AV→Prop)) (i0:Nat) (vals:Nat→AV),(∀ (i:Nat) (o:Oper),r[i]?=some o→l[i0 + i]?=some o)→(∀ (i:Nat) (Q:AV→Prop),Qs[i]?=some Q→Q (us (b + (i0 + i)))) →
  (∀ j,b≤j→j < b + i0→vals j=us j)→(∀ e ∈ Es,b≤e∧e < b + i0 + r.length) →
  DRunP P n X I S Es ops (b + i0) r Qs (ents l (fun i=>us (b + i)) i0++T) vals k→Qs.length=r.length∧(∀ st,I (Es.map fun e=>some (us e)) st→k (ents l (fun i=>us (b + i)) (i0 + r.length)++T) st) ∧
   ∀ i o,r[i]?=some o→∃ Q,dstOk o.dst n=true∧Qs[i]?=some Q∧StepP P n X I S Es (b + (i0 + i)) ops (see ops o (ents l (fun i=>us (b + i)) (i0 + i)++T)) us o Q
 | [],[],i0,vals,_,_,hv,hE,h=>⟨rfl,fun st hI=>by
   have e:(Es.map fun e=>some (vals e))=Es.map fun e=>some (us e):=List.map_congr_left fun e he=>by
    obtain ⟨h1,h2⟩:=hE e he
    rw [hv e h1 (by simpa using h2)]
   have h':∀ st,I (Es.map fun e=>some (vals e)) st→k (ents l (fun i=>us (b + i)) i0++T) st:=h
   rw [e] at h'
   exact h' st hI,fun i o ho=>by simp at ho⟩
 | [],_::_,_,_,_,_,_,_,h=>h.elim
 | _::_,[],_,_,_,_,_,_,h=>h.elim
 | o::r,Q::Qs,i0,vals,hl,hq,hv,hE,h=>by
  obtain ⟨_,h2,h4,h5⟩:=h
  have h6:=h5 (us (b + i0)) (hq 0 Q rfl)
  have hl0:l[i0]?=some o:=by simpa using hl 0 o rfl
  have he:(ents l (fun i=>us (b + i)) i0++T).put o.dst (us (b + i0))=ents l (fun i=>us (b + i)) (i0 + 1)++T:=by
   rw [ents,hl0]
   simp only [Option.bind_some]
   cases o.dst <;> rfl
  rw [he,Nat.add_assoc] at h6
  obtain ⟨a1,a2,a3⟩:=DRunP.out b us l r Qs (i0 + 1) _ (fun i o' ho'=>by have:=hl (i + 1) o' (by simpa using ho'); rwa [show i0 + (i + 1)=i0 + 1 + i by omega] at this) (fun i Q' hQ'=>by have:=hq (i + 1) Q' (by simpa using hQ'); rwa [show i0 + (i + 1)=i0 + 1 + i by omega] at this)
   (fun j h1 h2=>by
    by_cases hj:j=b + i0
    ·subst hj; rw [nbeq_self]; rfl
    ·rw [nbeq_ne hj]; exact hv j h1 (by omega)) (fun e he=>by have:=hE e he; simp only [List.length_cons] at this; omega) h6
  refine ⟨by simp [a1],by rw [List.length_cons,show i0 + (r.length + 1)=i0 + 1 + r.length by omega]; exact a2,fun i o' ho'=>?_⟩
  cases i with
  | zero =>
   simp only [List.getElem?_cons_zero,Option.some.injEq] at ho'
   subst ho'
   refine ⟨Q,h2,rfl,?_⟩
   rcases h4 with ⟨hw,h4⟩|h4
   ·exact .inl ⟨hw,fun vs hl hm hlk=>h4 vs hl hm fun p hp hlt u hu=>by
     have hpe:p.1 ∈ Es:=(List.of_mem_zip hp).1
     rw [hv p.1 (hE p.1 hpe).1 hlt]
     exact hlk p hp hlt u hu⟩
   ·exact .inr h4
  | succ i =>
   obtain ⟨Q',b1,b2,b3⟩:=a3 i o' (by simpa using ho')
   exact ⟨Q',b1,by simpa using b2,by rwa [show i0 + 1 + i=i0 + (i + 1) by omega] at b3⟩
theorem DRunP.fits {X:AV→St→Prop} {I:List (Option AV)→St→Prop} {S Es:List Nat} {ops:Array Oper} {k:Tmps→St→Prop}:∀ (r:List Oper) (Qs:List (AV→Prop)) (i0:Nat) (T:Tmps) (vals:Nat→AV),DRunP P n X I S Es ops i0 r Qs T vals k→∀ (i:Nat) (Q:AV→Prop),Qs[i]?=some Q→∃ u,Q u
 | [],[],_,_,_,_,i,Q,h=>by simp at h
 | [],_::_,_,_,_,h,_,_,_=>h.elim
 | _::_,[],_,_,_,h,_,_,_=>h.elim
 | o::r,Q0::Qs,i0,T,vals,h,i,Q,hq=>by
  obtain ⟨⟨u,hu⟩,h2,h4,h5⟩:=h
  cases i with
  | zero=>simp at hq; subst hq; exact ⟨u,hu⟩
  | succ i=>exact DRunP.fits r Qs _ _ _ (h5 u hu) i Q (by simpa using hq)
variable {X:AV→St→Prop} {J:List (Option AV)→St→Prop} {base:St} {S Es:List Nat} {ops:Array Oper} {Qs:List (AV→Prop)} {vals:Nat→AV}
end
end Go.AM
namespace Go.AM
open Go.RowKit (Below)
def brows (l:List UInt8):List (List AV):=l.map fun c=>[.int .u8 (c.toNat:Int)]
theorem brows_len (l:List UInt8):(brows l).length=l.length:=List.length_map ..
theorem brows_get {l:List UInt8} {i:Nat} {row:List AV} (h:(brows l)[i]?=some row):∃ c,l[i]?=some c∧row=[.int .u8 (c.toNat:Int)]:=by
 unfold brows at h
 rw [List.getElem?_map] at h
 cases hc:l[i]? with
 | none=>rw [hc] at h; cases h
 | some c=>rw [hc] at h; cases h; exact ⟨c,rfl,rfl⟩
theorem brows_row {l:List UInt8}:∀ row ∈ brows l,row.length=1∧∀ c ∈ row,c.one=true:=by
 intro row h
 simp only [brows,List.mem_map] at h
 obtain ⟨c,_,rfl⟩:=h
 exact ⟨rfl,fun x hx=>by rw [List.mem_singleton.1 hx]; rfl⟩
section
variable {P:Program} {n:Nat} {K:Post} {E:EPost} {T:Tmps} {st:St} {ops:Array Oper} {rest:List Oper}
variable {ty:TypeId} {pos:String} {es:Array Edge} {gd:Option (Nat × Bool)} {d:Tmp} {x y:Operand} {dd:Option Tmp}
open Go.Lib (strCells strCells_length)
theorem strCells_mk (s:List UInt8):strCells ⟨⟨s⟩⟩=s.map fun b=>Value.int .u8 b.toNat:=rfl
theorem size_mk (s:List UInt8):(⟨⟨s⟩⟩:ByteArray).size=s.length:=rfl
theorem append_nil_str {g:G} {w:World} (hs:Sim g w st) {t u e:TypeId} [hu:Und P t (.slice e)] [hus:Und P u .string] [hie:Inf P e 1 1 (.int .u8 0)] {ty:TypeId} {s:List UInt8} (h0:s≠[]) (hb:s.length≤140737488355328) :
  ∃ v w' g' o',(Builtin.append_ #[t,u] ty #[.slice none 0 0,.string ⟨⟨s⟩⟩]).run P w=.ok v w'∧Ext g w g' w'∧Sim g' w' (st.set o' (.cells e 1 (brows s)))∧R g' w' (.msl o' 1 0 s.length) v∧st.obj o'=none:=by
 obtain ⟨inf,i1,i2,i3,i4⟩:=hie.out
 have hpos:0 < s.length:=List.length_pos_iff.2 h0
 have hm:s.length≤maxLen:=by simp only [maxLen]; omega
 have hr:=run_append_nil_string (P:=P) w t u ty e inf (.int .u8 0) hu.out hus.out i1 i4 ⟨⟨s⟩⟩ hpos (by rw [size_mk]; omega) (by rw [i3,size_mk]; omega)
 rw [size_mk] at hr
 have hge:=grownCap_ge w s.length 0 e
 have hgm:=grownCap_le_maxLen w s.length 0 e hm
 obtain ⟨hed,hsd⟩:=hs.draw
 generalize hcp:grownCap w s.length 0 e=cp at hr hge hgm
 generalize harr:(Array.map (fun b:UInt8=>Value.int .u8 b.toNat) (⟨s⟩:Array UInt8))++Builtin.zeroCells (Value.int IntKind.u8 0).cells (cp - s.length)=arr' at hr
 have hz1:(Value.int IntKind.u8 0).cells.size=1:=rfl
 have hsize':arr'.size=cp * 1:=by
  rw [← harr]
  simp only [Array.size_append,Array.size_map,size_zeroCells,hz1,List.size_toArray]
  omega
 obtain ⟨g',he,hs',hob',hnone⟩:=hsd.newObj (.cells arr' e) (.cells e 1 (brows s)) (cp * 1) (fun g' he=>by
  refine ⟨arr',heap_alloc_new _ _,hsize',by rw [brows_len]; exact Nat.mul_le_mul_right _ hge,fun r hr=>(brows_row r hr).1,fun r hr=>(brows_row r hr).2,fun i j row c hr hcj=>?_⟩
  obtain ⟨ch,hch,rfl⟩:=brows_get hr
  have hi:i < s.length:=(List.getElem?_eq_some_iff.1 hch).1
  match j,hcj with
  | 0,hcj =>
   cases hcj
   refine ⟨.int .u8 ch.toNat,?_,.int _ _⟩
   rw [← harr,Array.getElem?_append_left (by simpa using hi)]
   simp [hch]
  | j + 1,hcj=>simp at hcj)
 refine ⟨_,_,g',g.next,hr,hed.trans he,hs',?_,hnone⟩
 have:=R.msl (g:=g') (w:=w.drew.alloc (.cells arr' e)) g.next 1 0 s.length cp w.drew.heap.size (cp * 1) hob' hge hgm (by simp)
 simpa using this
theorem append_msl_str {g:G} {w:World} (hs:Sim g w st) {t u e:TypeId} [hu:Und P t (.slice e)] [hus:Und P u .string] [hie:Inf P e 1 1 (.int .u8 0)] {ty:TypeId} {o:Nat} {l s:List UInt8} {ux:Value}
  (h1:R g w (.msl o 1 0 l.length) ux) (ho:st.obj o=some (.cells e 1 (brows l))) (hb:l.length + s.length≤140737488355328) :
  ∃ v w' g' o',(Builtin.append_ #[t,u] ty #[ux,.string ⟨⟨s⟩⟩]).run P w=.ok v w'∧Ext g w g' w'∧Sim g' w' ((st.drop o).set o' (.cells e 1 (brows (l++s))))∧R g' w' (.msl o' 1 0 (l++s).length) v∧(o'=o∨st.obj o'=none):=by
 obtain ⟨inf,i1,i2,i3,i4⟩:=hie.out
 have hm:l.length + s.length≤maxLen:=by simp only [maxLen]; omega
 have hll:(brows (l++s)).length=l.length + s.length:=by rw [brows_len,List.length_append]
 have hrow:=fun r hr=>(brows_row (l:=l++s) r hr).1
 have h1row:=fun r hr=>(brows_row (l:=l++s) r hr).2
 cases h1 with
 | msl _ _ _ _ cap b m hob hc hmx hfit0 =>
  obtain ⟨hbase,⟨arr,ha,hasz,hml,hl,h1',hcell⟩,hnimm⟩:=hs.objOf ho hob
  simp only [Nat.zero_add,Nat.mul_one] at hfit0 ⊢
  have hold:∀ (i:Nat) c,l[i]?=some c→arr[i]?=some (.int .u8 (c.toNat:Int)):=by
   intro i c hi
   obtain ⟨v,hv1,hv2⟩:=hcell i 0 [.int .u8 (c.toNat:Int)] (.int .u8 (c.toNat:Int)) (by unfold brows; rw [List.getElem?_map,hi]; rfl) rfl
   cases hv2
   simpa using hv1
  by_cases hroom:l.length + s.length≤cap
  ·have hr:=Lib.run_append_room_string (P:=P) w t u ty e inf hu.out hus.out i1 i2 b l.length cap arr ha ⟨⟨s⟩⟩ hroom (by rw [size_mk]; omega)
   rw [size_mk] at hr
   generalize harr:(arr.toList.take l.length++strCells ⟨⟨s⟩⟩++arr.toList.drop (l.length + s.length)).toArray=arr' at hr
   have hmin:min l.length arr.size=l.length:=by omega
   have hlow:∀ i,i < l.length→arr'[i]?=arr[i]?:=by
    intro i hi
    rw [← harr,List.getElem?_toArray,List.append_assoc,List.getElem?_append_left (by simp; omega),List.getElem?_take_of_lt hi,Array.getElem?_toList]
   have hmid:∀ q c,s[q]?=some c→arr'[l.length + q]?=some (.int .u8 (c.toNat:Int)):=by
    intro q c hq
    have hql:=(List.getElem?_eq_some_iff.1 hq).1
    rw [← harr,List.getElem?_toArray,List.append_assoc,List.getElem?_append_right (by simp; omega)]
    simp only [List.length_take,Array.length_toList,hmin]
    rw [Nat.add_sub_cancel_left,List.getElem?_append_left (by rw [strCells_length]; exact hql),strCells_mk,List.getElem?_map,hq]
    rfl
   have hsize':arr'.size=m:=by
    rw [← harr,← hasz]
    simp only [List.size_toArray,List.length_append,List.length_take,List.length_drop,Array.length_toList,strCells_length,size_mk]
    omega
   obtain ⟨he,hs'⟩:=hs.write (c':=.cells e 1 (brows (l++s))) ho hob (w.setRow b arr') (by simp) rfl rfl rfl (fun k hk=>setRow_other w b k arr' hk) (fun he=>by
    refine ⟨arr',setRow_heap w b arr arr' e (0,0) ha,hsize',by rw [hll]; omega,hrow,h1row,fun i j row c hr hcj=>?_⟩
    obtain ⟨ch,hch,rfl⟩:=brows_get hr
    match j,hcj with
    | 0,hcj =>
     cases hcj
     refine ⟨.int .u8 ch.toNat,?_,.int _ _⟩
     simp only [Nat.mul_one,Nat.add_zero]
     by_cases hi:i < l.length
     ·rw [List.getElem?_append_left hi] at hch
      rw [hlow _ hi]
      exact hold _ _ hch
     ·rw [List.getElem?_append_right (by omega)] at hch
      have:=hmid _ _ hch
      rwa [show l.length + (i - l.length)=i by omega] at this
    | j + 1,hcj=>simp at hcj)
   refine ⟨_,_,g,o,hr,he,by rw [St.drop_set_self]; exact hs',?_,.inl rfl⟩
   have:=R.msl (g:=g) (w:=w.setRow b arr') o 1 0 (l.length + s.length) cap b m hob hroom hmx (by simpa using hfit0)
   rw [List.length_append]
   simpa using this
  ·have holds:∀ (q:Nat) v,(strCells ⟨⟨l⟩⟩)[q]?=some v→w.cell? ((⟨b,0,none⟩:Addr).add q)=some v:=by
    intro q v hq
    rw [strCells_mk,List.getElem?_map] at hq
    cases hc':l[q]? with
    | none=>rw [hc'] at hq; cases hq
    | some c =>
     rw [hc'] at hq
     cases hq
     rw [addr_add,Nat.zero_add,cell_of_row w b _ arr e (0,0) ha]
     exact hold _ _ hc'
   have hr:=Lib.run_append_grow_string (P:=P) w t u ty e inf (.int .u8 0) hu.out hus.out i1 i4 ⟨b,0,none⟩ l.length cap (strCells ⟨⟨l⟩⟩) (by rw [strCells_length,i2,size_mk,Nat.mul_one]) holds ⟨⟨s⟩⟩ (by rw [size_mk]; omega) (by rw [size_mk]; omega)
    (growslice_fits (by rw [size_mk]; omega) (by rw [i3,size_mk]; omega))
   rw [size_mk] at hr
   have hge:=grownCap_ge w (l.length + s.length) cap e
   have hgm:=grownCap_le_maxLen w (l.length + s.length) cap e hm
   obtain ⟨hed,hsd⟩:=hs.draw
   generalize hcp:grownCap w (l.length + s.length) cap e=cp at hr hge hgm
   generalize harr:(strCells ⟨⟨l⟩⟩).toArray++(strCells ⟨⟨s⟩⟩).toArray++Builtin.zeroCells (Value.int IntKind.u8 0).cells (cp - (l.length + s.length))=arr' at hr
   have hz1:(Value.int IntKind.u8 0).cells.size=1:=rfl
   have hsize':arr'.size=cp * 1:=by
    rw [← harr]
    simp only [Array.size_append,List.size_toArray,strCells_length,size_mk,size_zeroCells,hz1]
    omega
   obtain ⟨g',he,hs',hob',hnone⟩:=hsd.newObj (.cells arr' e) (.cells e 1 (brows (l++s))) (cp * 1) (fun g' he=>by
    refine ⟨arr',heap_alloc_new _ _,hsize',by rw [hll]; exact Nat.mul_le_mul_right _ hge,hrow,h1row,fun i j row c hr hcj=>?_⟩
    obtain ⟨ch,hch,rfl⟩:=brows_get hr
    match j,hcj with
    | 0,hcj =>
     cases hcj
     refine ⟨.int .u8 ch.toNat,?_,.int _ _⟩
     simp only [Nat.mul_one,Nat.add_zero]
     have hi:i < (l++s).length:=(List.getElem?_eq_some_iff.1 hch).1
     rw [List.length_append] at hi
     have hap:(strCells ⟨⟨l⟩⟩).toArray++(strCells ⟨⟨s⟩⟩).toArray=(strCells ⟨⟨l⟩⟩++strCells ⟨⟨s⟩⟩).toArray:=by simp
     rw [← harr,hap,Array.getElem?_append_left (by simp only [List.size_toArray,List.length_append,strCells_length,size_mk]; exact hi),List.getElem?_toArray,strCells_mk,strCells_mk,← List.map_append,List.getElem?_map,hch]
     rfl
    | j + 1,hcj=>simp at hcj)
   have hne:g.next≠o:=fun e=>by rw [← e] at ho; rw [ho] at hnone; cases hnone
   refine ⟨_,_,g',g.next,hr,hed.trans he,?_,?_,.inr hnone⟩
   ·rw [St.set_drop hne]
    exact hs'.le (StLe.drop o)
   ·have:=R.msl (g:=g') (w:=w.drew.alloc (.cells arr' e)) g.next 1 0 (l.length + s.length) cp w.drew.heap.size (cp * 1) hob' hge hgm (by simp)
    rw [List.length_append]
    simpa using this
theorem eqQ_nil {w:World} {t pt:TypeId} (hu:P.underlying t=some (.pointer pt)) (k:Nat):(Op.equalIn (k + 1) t (.pointer none) (.pointer none)).run P w=.ok true w:=by
 simp [Op.equalIn,run_underlying hu]
theorem eqQ_some {w:World} {t pt:TypeId} (hu:P.underlying t=some (.pointer pt)) (k:Nat) (a:Addr):(Op.equalIn (k + 1) t (.pointer (some a)) (.pointer none)).run P w=.ok false w:=by
 simp [Op.equalIn,run_underlying hu]
class SameFun (P:Program) (f:FuncId):Prop where
 out : ∃ fn, P.funcs[f]? = some fn ∧ (fn.name == "runtime.NumGoroutine") = false ∧ fn.body.isNone = true ∧ Extern.findNext fn = none ∧ Extern.find fn = some Extern.AbiNoEscape.same
end
end Go.AM
namespace Go.AM
open Go.RowKit (Below)
section
variable {P:Program} {n:Nat} {K:Post} {E:EPost} {T:Tmps} {st:St} {ops:Array Oper} {rest:List Oper}
variable {ty:TypeId} {pos:String} {es:Array Edge} {gd:Option (Nat × Bool)} {d:Tmp} {x y:Operand} {dd:Option Tmp}
end
end Go.AM
namespace Go.AM
theorem new_ne {st:St} {o p:Nat} {a:AObj} (h:(st.set o a).obj p=none):o≠p∧st.obj p=none:=by
 have hne:o≠p:=fun e=>by subst e; rw [St.obj_set] at h; cases h
 exact ⟨hne,by rwa [St.obj_set_ne hne.symm] at h⟩
end Go.AM
namespace Go.AM
structure Hd (R:Prop):Prop where
 out:R
theorem goC {P R:Prop} (z:R) (h:Hd R→P:=by intro z; (repeat (first|refine nl ?_|refine AWP.seq ?_|refine AWP.skip ?_|refine AWP.block ?_)); exact z.out):P:=h ⟨z⟩
theorem goD {P R:Prop} (z:R) (h:Hd R→P:=by intro z; (repeat (first|refine nl ?_|refine AWP.seq ?_|refine rg ?_|refine AWP.skip ?_|refine AWP.block ?_|refine YH (z:=?_)|refine YI (z:=?_)|refine ZA (z:=?_)|refine ZB (z:=?_)|refine ZC (z:=?_)|refine ZD (z:=?_)|refine ZF (z:=?_)|refine ZJ (z:=?_)|refine ZK (z:=?_)|refine ZM (z:=?_)|refine ZN (z:=?_)|refine ZH (z:=?_)|refine ZO (z:=?_)|refine ZP (z:=?_)|refine ZQ (z:=?_)|refine ZR (z:=?_)|refine YA (z:=?_)|refine YD (z:=?_)|refine YE (z:=?_))); exact z.out):P:=h ⟨z⟩
theorem goE {P R:Prop} (z:R) (h:Hd R→P:=by intro z; (repeat (first|refine ZA (z:=?_)|refine ZB (z:=?_)|refine ZC (z:=?_)|refine ZD (z:=?_)|refine ZF (z:=?_)|refine ZJ (z:=?_)|refine ZK (z:=?_)|refine ZM (z:=?_)|refine ZN (z:=?_)|refine ZH (z:=?_)|refine ZO (z:=?_)|refine ZP (z:=?_)|refine ZQ (z:=?_)|refine ZR (z:=?_)|refine YA (z:=?_)|refine YD (z:=?_)|refine YE (z:=?_))); exact z.out):P:=h ⟨z⟩
theorem goA {P R:Prop} (z:R) (h:Hd R→P:=by intro z; (repeat (first|refine nl ?_|refine AWP.seq ?_|refine rg ?_|refine AWP.skip ?_|refine AWP.block ?_|refine sm rfl ?_|refine uw rfl ?_|refine fa rfl rfl ?_|refine leW rfl rfl rfl rfl rfl ?_|refine leW rfl rfl rfl (by assumption) rfl ?_|refine lcW rfl rfl rfl (St.obj_set _ _ _) rfl rfl ?_|refine le rfl rfl rfl rfl ?_|refine le rfl rfl (by assumption) rfl ?_|refine lnv rfl rfl ?_|refine lnm rfl rfl ?_|refine lns rfl rfl ?_|refine ix rfl rfl rfl rfl (by assumption) ?_|refine ixm rfl rfl rfl rfl (by assumption) ?_|refine ix (m:=0) rfl rfl rfl rfl (of_decide_eq_true rfl) ?_|refine ix (m:=1) rfl rfl rfl rfl (of_decide_eq_true rfl) ?_|refine ix (m:=2) rfl rfl rfl rfl (of_decide_eq_true rfl) ?_|refine ix (m:=3) rfl rfl rfl rfl (of_decide_eq_true rfl) ?_|refine ix (m:=4) rfl rfl rfl rfl (of_decide_eq_true rfl) ?_|refine ix (m:=5) rfl rfl rfl rfl (of_decide_eq_true rfl) ?_|refine ix (m:=6) rfl rfl rfl rfl (of_decide_eq_true rfl) ?_|refine lc rfl rfl (St.obj_set _ _ _) rfl rfl ?_|refine lc rfl rfl (St.obj_set _ _ _) (by assumption) rfl ?_|refine lc rfl rfl (by assumption) rfl rfl ?_|refine lc rfl rfl (by assumption) (by assumption) rfl ?_|refine inc rfl rfl rfl (by omega) ?_|refine adn rfl rfl rfl (by omega) ?_|refine bs1 rfl rfl rfl rfl rfl rfl ?_|refine bxe rfl rfl rfl rfl ?_|refine eqA rfl rfl rfl rfl rfl ?_|refine neA rfl rfl rfl rfl rfl ?_|refine sx rfl rfl rfl rfl (by assumption) ?_|refine ssl rfl rfl rfl (by omega) ?_|refine ssh rfl rfl rfl (by omega) ?_)); exact z.out):P:=h ⟨z⟩
end Go.AM
namespace Go.Proofs
open Go.AM

instance Tryz.tinf3:Inf Tryz.prog 3 1 8 (.int .i64 0):=⟨by kernel_rfl⟩
instance Tryz.tinf4:Inf Tryz.prog 4 1 1 (.bool false):=⟨by kernel_rfl⟩
instance Tryz.tinf22:Inf Tryz.prog 22 16 128 (.agg #[.int .i64 0,.int .i64 0,.int .i64 0,.int .i64 0,.int .i64 0,.int .i64 0,.int .i64 0,.int .i64 0,.int .i64 0,.int .i64 0,.int .i64 0,.int .i64 0,.int .i64 0,.int .i64 0,.int .i64 0,.int .i64 0]):=⟨by kernel_rfl⟩
instance Tryz.tinf24:Inf Tryz.prog 24 17 136 (.agg #[.int .i64 0,.int .i64 0,.int .i64 0,.int .i64 0,.int .i64 0,.int .i64 0,.int .i64 0,.int .i64 0,.int .i64 0,.int .i64 0,.int .i64 0,.int .i64 0,.int .i64 0,.int .i64 0,.int .i64 0,.int .i64 0,.int .i64 0]):=⟨by kernel_rfl⟩
instance Tryz.tinf25:Inf Tryz.prog 25 1 24 (.slice none 0 0):=⟨by kernel_rfl⟩
instance Tryz.tinf26:Inf Tryz.prog 26 1 24 (.slice none 0 0):=⟨by kernel_rfl⟩
instance Tryz.tinf28:Inf Tryz.prog 28 1 24 (.slice none 0 0):=⟨by kernel_rfl⟩
instance Tryz.tinf30:Inf Tryz.prog 30 1 24 (.agg #[.slice none 0 0]):=⟨by kernel_rfl⟩
instance Tryz.tinf33:Inf Tryz.prog 33 3 24 (.agg #[.bool false,.int .i64 0,.int .i64 0]):=⟨by kernel_rfl⟩
instance Tryz.tinf82:Inf Tryz.prog 82 2 32 (.agg #[.int .i64 0,.slice none 0 0]):=⟨by kernel_rfl⟩
instance Tryz.tinf99:Inf Tryz.prog 99 1 8 (.map none):=⟨by kernel_rfl⟩
instance Tryz.tund3:Und Tryz.prog 3 (.int .i64):=⟨Tryz.underlying3⟩
instance Tryz.tund4:Und Tryz.prog 4 .bool:=⟨Tryz.underlying4⟩
instance Tryz.tund22:Und Tryz.prog 22 (.array 16 3):=⟨Tryz.underlying22⟩
instance Tryz.tund24:Und Tryz.prog 24 (.struct (fOf Tryz.underlying24)):=⟨Tryz.underlying24⟩
instance Tryz.tund25:Und Tryz.prog 25 (.slice 33):=⟨Tryz.underlying25⟩
instance Tryz.tund26:Und Tryz.prog 26 (.slice 3):=⟨Tryz.underlying26⟩
instance Tryz.tund28:Und Tryz.prog 28 (.slice 82):=⟨Tryz.underlying28⟩
instance Tryz.tund30:Und Tryz.prog 30 (.struct (fOf Tryz.underlying30)):=⟨Tryz.underlying30⟩
instance Tryz.tund33:Und Tryz.prog 33 (.struct (fOf Tryz.underlying33)):=⟨Tryz.underlying33⟩
instance Tryz.tund35:Und Tryz.prog 35 (.slice 25):=⟨Tryz.underlying35⟩
instance Tryz.tund82:Und Tryz.prog 82 (.struct (fOf Tryz.underlying82)):=⟨Tryz.underlying82⟩
instance Tryz.tund99:Und Tryz.prog 99 (.map 3 26):=⟨Tryz.underlying99⟩
instance Tryz.tund198:Und Tryz.prog 198 (.int .u64):=⟨Tryz.underlying198⟩
instance Tryz.tfld24_0:Fld Tryz.prog 24 0 0 22:=⟨_,_,Tryz.underlying24,rfl,rfl,rfl⟩
instance Tryz.tfld30_0:Fld Tryz.prog 30 0 0 28:=⟨_,_,Tryz.underlying30,rfl,rfl,rfl⟩
instance Tryz.tpl30:Places Tryz.prog  (fOf Tryz.underlying30) [(0,1)]:=⟨by kernel_rfl⟩
instance Tryz.tfld33_0:Fld Tryz.prog 33 0 0 4:=⟨_,_,Tryz.underlying33,rfl,rfl,rfl⟩
instance Tryz.tfld33_1:Fld Tryz.prog 33 1 1 3:=⟨_,_,Tryz.underlying33,rfl,rfl,rfl⟩
instance Tryz.tfld33_2:Fld Tryz.prog 33 2 2 3:=⟨_,_,Tryz.underlying33,rfl,rfl,rfl⟩
instance Tryz.tpl33:Places Tryz.prog  (fOf Tryz.underlying33) [(0,1),(1,1),(2,1)]:=⟨by kernel_rfl⟩
instance Tryz.tfld82_0:Fld Tryz.prog 82 0 0 3:=⟨_,_,Tryz.underlying82,rfl,rfl,rfl⟩
instance Tryz.tfld82_1:Fld Tryz.prog 82 1 1 26:=⟨_,_,Tryz.underlying82,rfl,rfl,rfl⟩
instance Tryz.tpl82:Places Tryz.prog  (fOf Tryz.underlying82) [(0,1),(1,1)]:=⟨by kernel_rfl⟩
instance Tryz.tfld103_4:Fld Tryz.prog 103 4 4 99:=⟨_,_,Tryz.underlying103,rfl,rfl,rfl⟩
instance Tryz.gofun4:GoFun Tryz.prog 4:=⟨_,Tryz.func4,by kernel_rfl,by kernel_rfl⟩
instance Tryz.gofun5:GoFun Tryz.prog 5:=⟨_,Tryz.func5,by kernel_rfl,by kernel_rfl⟩
instance Tryz.gofun6:GoFun Tryz.prog 6:=⟨_,Tryz.func6,by kernel_rfl,by kernel_rfl⟩
instance Tryz.gofun7:GoFun Tryz.prog 7:=⟨_,Tryz.func7,by kernel_rfl,by kernel_rfl⟩
instance Tryz.gofun8:GoFun Tryz.prog 8:=⟨_,Tryz.func8,by kernel_rfl,by kernel_rfl⟩
instance Tryz.gofun9:GoFun Tryz.prog 9:=⟨_,Tryz.func9,by kernel_rfl,by kernel_rfl⟩
instance Tryz.gofun15:GoFun Tryz.prog 15:=⟨_,Tryz.func15,by kernel_rfl,by kernel_rfl⟩
instance Tryz.gofun16:GoFun Tryz.prog 16:=⟨_,Tryz.func16,by kernel_rfl,by kernel_rfl⟩
instance Tryz.gofun17:GoFun Tryz.prog 17:=⟨_,Tryz.func17,by kernel_rfl,by kernel_rfl⟩
instance Tryz.gofun18:GoFun Tryz.prog 18:=⟨_,Tryz.func18,by kernel_rfl,by kernel_rfl⟩
instance Tryz.gofun19:GoFun Tryz.prog 19:=⟨_,Tryz.func19,by kernel_rfl,by kernel_rfl⟩
instance Tryz.gofun35:GoFun Tryz.prog 35:=⟨_,Tryz.func35,by kernel_rfl,by kernel_rfl⟩
instance Tryz.gofun36:GoFun Tryz.prog 36:=⟨_,Tryz.func36,by kernel_rfl,by kernel_rfl⟩
instance Tryz.gofun37:GoFun Tryz.prog 37:=⟨_,Tryz.func37,by kernel_rfl,by kernel_rfl⟩
end Go.Proofs
namespace Go.AM
section
variable {P:Program} {n:Nat} {K:Post} {E:EPost} {T:Tmps} {st:St}
def AWPL (P:Program) (n:Nat) (c:Code) (E:EPost):Nat→Tmps→St→Prop
 | 0=>fun _ _=>False
 | m + 1=>fun T st=>AWP P n c (AWPL P n c E m) E T st
theorem AWPL.s {c:Code} {m:Nat} (h:AWP P n c (AWPL P n c E m) E T st):AWPL P n c E (m + 1) T st:=h
end
end Go.AM
namespace Go.AM
open Go.RowKit (Below)
section
variable {P:Program} {n:Nat} {K:Post} {E:EPost} {T:Tmps} {st:St} {ops:Array Oper} {rest:List Oper}
variable {ty:TypeId} {pos:String} {es:Array Edge} {gd:Option (Nat × Bool)} {d:Tmp} {x y:Operand} {dd:Option Tmp}
theorem append_emp_msl {g:G} {w:World} (hs:Sim g w st) {t e:TypeId} {sz by_:Nat} {ez:Value} [hu:Und P t (.slice e)] [hie:Inf P e sz by_ ez] (hz:zok sz ez=true) {ty:TypeId} {rows2:List (List AV)} {uy:Value} (ad0:Addr)
  (h2:Src g w sz rows2 uy) (h0:rows2≠[]) (hb:rows2.length * by_≤140737488355328) (hm:rows2.length≤maxLen) :
  ∃ v w' g' o',(Builtin.append_ #[t,t] ty #[.slice (some ad0) 0 0,uy]).run P w=.ok v w'∧Ext g w g' w'∧Sim g' w' (st.set o' (.cells e sz rows2))∧R g' w' (.msl o' sz 0 rows2.length) v∧st.obj o'=none:=by
 obtain ⟨z1,z2,z3,z4⟩:=zok_spec hz
 obtain ⟨inf,i1,i2,i3,i4⟩:=hie.out
 obtain ⟨base2,cap2,f2,rfl,hnil2,hR2,hl2,h12,hcell2,hone2⟩:=h2
 have hpos:0 < rows2.length:=List.length_pos_iff.2 h0
 have hm64:rows2.length≤9223372036854775807:=by simp only [maxLen] at hm; omega
 obtain ⟨ad,rfl⟩:∃ ad,base2=some ad:=by
  cases base2 with
  | none=>exact absurd (hnil2 rfl).1 h0
  | some ad=>exact ⟨ad,rfl⟩
 subst i2
 have hr:=run_append_grow (P:=P) w t ty e inf ez hu.out i1 i4 ad0 0 0 [] (by simp) (fun j v h=>by simp at h) ad rows2.length cap2 (flatV f2 rows2.length inf.size) (flatV_length _ _ _) (hcell2 ad rfl) (by omega) (by omega)
  (growslice_fits (by omega) (by rw [i3]; simpa using hb))
 simp only [Nat.zero_add] at hr
 have hge:=grownCap_ge w rows2.length 0 e
 have hgm:=grownCap_le_maxLen w rows2.length 0 e hm
 obtain ⟨hed,hsd⟩:=hs.draw
 have harr0:(([]:List Value).toArray++(flatV f2 rows2.length inf.size).toArray++Builtin.zeroCells ez.cells (grownCap w rows2.length 0 e - rows2.length))=(flatV f2 rows2.length inf.size).toArray++Builtin.zeroCells ez.cells (grownCap w rows2.length 0 e - rows2.length):=by simp
 rw [harr0] at hr
 generalize hcp:grownCap w rows2.length 0 e=cp at hr hge hgm
 generalize harr:(flatV f2 rows2.length inf.size).toArray++Builtin.zeroCells ez.cells (cp - rows2.length)=arr' at hr
 have hsize':arr'.size=cp * inf.size:=by
  rw [← harr]
  simp only [Array.size_append,List.size_toArray,flatV_length,size_zeroCells,z1,← Nat.add_mul]
  congr 1
  omega
 obtain ⟨g',he,hs',hob',hnone⟩:=hsd.newObj (.cells arr' e) (.cells e inf.size rows2) (cp * inf.size) (fun g' he=>by
  refine ⟨arr',heap_alloc_new _ _,hsize',Nat.mul_le_mul_right _ hge,hl2,h12,fun i j row c hr hcj=>?_⟩
  have hi:i < rows2.length:=(List.getElem?_eq_some_iff.1 hr).1
  have hj:j < inf.size:=by rw [← hl2 row (List.mem_of_getElem? hr)]; exact (List.getElem?_eq_some_iff.1 hcj).1
  have hlt:=mul_add_lt hi hj
  refine ⟨f2 i j,?_,((hR2 i j row c hr hcj).ext hed).ext he⟩
  rw [← harr,← Array.getElem?_toList]
  simp only [Array.toList_append]
  rw [List.getElem?_append_left (by rw [flatV_length]; exact hlt),flatV_at f2 hi hj])
 refine ⟨_,_,g',g.next,hr,hed.trans he,hs',?_,hnone⟩
 have:=R.msl (g:=g') (w:=w.drew.alloc (.cells arr' e)) g.next inf.size 0 rows2.length cp w.drew.heap.size (cp * inf.size) hob' hge hgm (by simp)
 simpa using this
theorem apfM {t e:TypeId} {sz by_:Nat} {ez:Value} [hu:Und P t (.slice e)] [hie:Inf P e (sz + 1) by_ ez] {rows2:List (List AV)} {tk2:Tok}
  (hg:goes ops n T ⟨dd,.call ⟨.builtin .append,#[x,y],#[t,t]⟩,ty,pos,es,gd⟩=some d) (hx:ev st T x=some (.view (sz + 1) [] .full)) (hy:ev st T y=some (.view (sz + 1) rows2 tk2))
  (h0:rows2≠[]) (hz:zok (sz + 1) ez=true) (hb:rows2.length * by_≤140737488355328) (hm:rows2.length≤maxLen)
  (k:∀ o',st.obj o'=none→AOps P n ops rest K E ((d,.msl o' (sz + 1) 0 rows2.length)::T) (st.set o' (.cells e (sz + 1) rows2))) :
  AOps P n ops (⟨dd,.call ⟨.builtin .append,#[x,y],#[t,t]⟩,ty,pos,es,gd⟩::rest) K E T st:=by
 refine AOps.stepAny hg fun g w a hs hk=>?_
 have h1:=ev_R hs hk hx
 have h2:=ev_R hs hk hy
 generalize hux:a.eval x=ux at h1
 generalize huy:a.eval y=uy at h2
 have hemp:∀ ad,ux=.slice (some ad) 0 0→∃ rv g' w' v st1,(execOp a.eval ⟨dd,.call ⟨.builtin .append,#[x,y],#[t,t]⟩,ty,pos,es,gd⟩).run P w=.ok (.value rv) w'∧Ext g w g' w'∧Sim g' w' st1∧R g' w' v rv∧AOps P n ops rest K E ((d,v)::T) st1:=fun ad e=>by
  subst e
  obtain ⟨v,w',g',o',hr,he,hs',hR,hf⟩:=append_emp_msl (P:=P) hs (t:=t) (ty:=ty) hz ad (src_of h2) h0 hb hm
  exact ⟨v,g',w',_,_,by simp [execOp,resolve,invoke,builtin,hux,huy,hr],he,hs',hR,k o' hf⟩
 cases h1 with
 | vnil =>
  obtain ⟨v,w',g',o',hr,he,hs',hR,hf⟩:=append_nil_msl (P:=P) hs (t:=t) (ty:=ty) hz (src_of h2) h0 hb hm
  exact ⟨v,g',w',_,_,by simp [execOp,resolve,invoke,builtin,hux,huy,hr],he,hs',hR,k o' hf⟩
 | vemp _ _ ad=>exact hemp ad rfl
 | view _ _ _ b off cap f hc hmx hl h1x ht himm hh =>
  have hcap:cap=0:=by have:([]:List (List AV)).length=cap:=ht; simpa using this.symm
  subst hcap
  exact hemp _ rfl
def oslot (sz:Nat) (rows:List (List AV)) (e:TypeId):Option Nat→AV
 | none=>.view 0 [] .nil
 | some tk=>.view sz rows (.own tk e)
def otok (st:St):Option Nat→St
 | none=>st
 | some tk=>st.addTok tk
def ountok (st:St):Option Nat→St
 | none=>st
 | some tk=>st.untok tk
theorem apo {t e:TypeId} {sz by_:Nat} {ez:Value} [hu:Und P t (.slice e)] [hie:Inf P e (sz + 1) by_ ez] {rows rows2:List (List AV)} {ot:Option Nat} {tk2:Tok}
  (hg:goes ops n T ⟨dd,.call ⟨.builtin .append,#[x,y],#[t,t]⟩,ty,pos,es,gd⟩=some d) (hx:ev st T x=some (oslot (sz + 1) rows e ot)) (hy:ev st T y=some (.view (sz + 1) rows2 tk2)) (hn:ot=none→rows=[]) (htk:∀ tk,ot=some tk→st.tok tk=true)
  (hz:zok (sz + 1) ez=true) (hb:(rows.length + rows2.length) * by_≤140737488355328) (hm:rows.length + rows2.length≤maxLen)
  (k:∀ tk',st.tok tk'=false→AOps P n ops rest K E ((d,.view (sz + 1) (rows++rows2) (.own tk' e))::T) ((ountok st ot).addTok tk')) :
  AOps P n ops (⟨dd,.call ⟨.builtin .append,#[x,y],#[t,t]⟩,ty,pos,es,gd⟩::rest) K E T st:=by
 cases ot with
 | none =>
  have h:=hn rfl
  subst h
  exact apn hg hx hy hz (by simpa using hb) (by simpa using hm) k
 | some tk=>exact ap hg hx hy (htk tk rfl) hz hb hm k
theorem StLe.round {B:St} {o:Nat} {c c1 c2:AObj} {o1 o2:Option Nat} {t1 t2:Nat} (hB:∀ t,B.tok t=false) (h1:(otok (otok (B.set o c) o1) o2).tok t1=false∨o1=some t1) (h12:∀ t,o1=some t→o2≠some t) :
  StLe ((((ountok (((ountok (otok (otok (B.set o c) o1) o2) o1).addTok t1).set o c1) o2).addTok t2).set o c2)) (otok (otok (B.set o c2) (some t1)) (some t2)):=by
 refine ⟨fun p q h=>?_,fun t h=>?_,?_⟩
 ·by_cases hp:p=o
  ·simp only [otok,St.addTok,St.set,hp,if_true] at h ⊢
   exact h
  ·have e:∀ (s:St) (ot:Option Nat),(otok s ot).obj=s.obj:=fun s ot=>by cases ot <;> rfl
   have e2:∀ (s:St) (ot:Option Nat),(ountok s ot).obj=s.obj:=fun s ot=>by cases ot <;> rfl
   rw [e,e] at h
   simp only [St.set,hp,if_false] at h
   simp only [St.set,hp,if_false,St.addTok,e2,e]
   exact h
 ·simp only [otok,St.addTok,St.set] at h
  simp only [St.set,St.addTok]
  by_cases k2:t=t2
  ·rw [if_pos k2]
  ·rw [if_neg k2] at h ⊢
   by_cases k1:t=t1
   ·subst k1
    have e0:∀ s:St,(o2≠some t)→(ountok s o2).tok t=s.tok t:=fun s hne=>by
     cases o2 with
     | none=>rfl
     | some q=>simp only [ountok,St.untok]; rw [if_neg fun e=>hne (by rw [e])]
    rw [e0]
    ·simp
    ·rcases h1 with h1|h1
     ·intro e
      rw [e] at h1
      simp [otok,St.addTok] at h1
     ·exact h12 t h1
   ·rw [if_neg k1,hB] at h
    cases h
 ·have e:∀ (s:St) (ot:Option Nat),(otok s ot).glob=s.glob:=fun s ot=>by cases ot <;> rfl
  have e2:∀ (s:St) (ot:Option Nat),(ountok s ot).glob=s.glob:=fun s ot=>by cases ot <;> rfl
  rw [e,e]
  show B.glob=_
  simp only [St.set,St.addTok,e2,e]
end
end Go.AM
namespace Go.AX
open Go.AM

/-! A table. -/
inductive Tr (α:Type) where
 | nil
 | node (v:Option α) (l r:Tr α)
section
variable {α:Type}
def Tr.get:Tr α→Nat→Option α
 | .nil,_=>none
 | .node v l r,n=>bif Nat.beq n 0 then v else bif Nat.beq (n % 2) 1 then l.get (n / 2) else r.get (n / 2 - 1)
def Tr.put:Nat→Tr α→Nat→Option α→Tr α
 | 0,t,_,_=>t
 | k + 1,.nil,n,x=>bif Nat.beq n 0 then .node x .nil .nil else bif Nat.beq (n % 2) 1 then .node none (Tr.put k .nil (n / 2) x) .nil else .node none .nil (Tr.put k .nil (n / 2 - 1) x)
 | k + 1,.node v l r,n,x=>bif Nat.beq n 0 then .node x l r else bif Nat.beq (n % 2) 1 then .node v (Tr.put k l (n / 2) x) r else .node v l (Tr.put k r (n / 2 - 1) x)
theorem Tr.get_nil (n:Nat):(Tr.nil:Tr α).get n=none:=by rw [Tr.get]
theorem Tr.get_put:∀ (k:Nat) (t:Tr α) (n m:Nat) (x:Option α),n + 1 < 2 ^ k→(Tr.put k t n x).get m=if m=n then x else t.get m
 | 0,t,n,m,x,h=>by simp at h
 | k + 1,t,n,m,x,h=>by
  have hk:2 ^ (k + 1)=2 * 2 ^ k:=by rw [Nat.pow_succ,Nat.mul_comm]
  have key:∀ (v:Option α) (l r:Tr α) (v':Option α) (l' r':Tr α),(t.get m=bif Nat.beq m 0 then v else bif Nat.beq (m % 2) 1 then l.get (m / 2) else r.get (m / 2 - 1)) →
    Tr.put (k + 1) t n x=(bif Nat.beq n 0 then .node x l r else bif Nat.beq (n % 2) 1 then .node v (Tr.put k l (n / 2) x) r else .node v l (Tr.put k r (n / 2 - 1) x)) →
    (Tr.put (k + 1) t n x).get m=if m=n then x else t.get m:=by
   intro v l r _ _ _ ht hp
   rw [hp,ht]
   by_cases hn:n=0
   ·subst hn
    rw [show Nat.beq 0 0=true from rfl,cond_true,Tr.get]
    by_cases hm:m=0
    ·subst hm; rfl
    ·rw [nbeq_ne hm,cond_false,cond_false,if_neg hm]
   ·rw [nbeq_ne hn,cond_false]
    by_cases ho:n % 2=1
    ·rw [ho,show Nat.beq 1 1=true from rfl,cond_true,Tr.get]
     by_cases hm:m=0
     ·subst hm
      rw [if_neg (Ne.symm hn)]
      rfl
     ·rw [nbeq_ne hm,cond_false,cond_false]
      by_cases hmo:m % 2=1
      ·rw [hmo,show Nat.beq 1 1=true from rfl,cond_true,cond_true,Tr.get_put k l (n / 2) (m / 2) x (by omega)]
       by_cases e:m=n
       ·rw [if_pos e,if_pos (by omega)]
       ·rw [if_neg e,if_neg (by omega)]
      ·rw [nbeq_ne hmo,cond_false,cond_false,if_neg (fun e=>by omega)]
    ·rw [nbeq_ne ho,cond_false,Tr.get]
     by_cases hm:m=0
     ·subst hm
      rw [if_neg (Ne.symm hn)]
      rfl
     ·rw [nbeq_ne hm,cond_false,cond_false]
      by_cases hmo:m % 2=1
      ·rw [hmo,show Nat.beq 1 1=true from rfl,cond_true,cond_true,if_neg (fun e=>by omega)]
      ·rw [nbeq_ne hmo,cond_false,cond_false,Tr.get_put k r (n / 2 - 1) (m / 2 - 1) x (by omega)]
       by_cases e:m=n
       ·rw [if_pos e,if_pos (by omega)]
       ·rw [if_neg e,if_neg (by omega)]
  cases t with
  | nil =>
   refine key none .nil .nil none .nil .nil ?_ (by rw [Tr.put])
   rw [Tr.get,Tr.get,Tr.get]
   cases Nat.beq m 0 <;> cases Nat.beq (m % 2) 1 <;> rfl
  | node v l r=>exact key v l r none .nil .nil (by rw [Tr.get]) (by rw [Tr.put])
end

/-! Values that are the same but for the names of objects. -/
structure Ren where
 f:Nat→Option Nat
 rs:Nat→Bool
instance:CoeFun Ren (fun _=>Nat→Option Nat):=⟨Ren.f⟩
def Ren.no:Ren:=⟨fun _=>none,fun _=>false⟩
inductive VR (ρ:Ren):AV→AV→Prop
 | int (k:IntKind) (n:Int):VR ρ (.int k n) (.int k n)
 | bool (b:Bool):VR ρ (.bool b) (.bool b)
 | str (l:List UInt8):VR ρ (.str l) (.str l)
 | lit (v:Value):VR ρ (.lit v) (.lit v)
 | agg (cs ds:List AV) (hl:cs.length=ds.length) (h:∀ (i:Nat) c d,cs[i]?=some c→ds[i]?=some d→VR ρ c d):VR ρ (.agg cs) (.agg ds)
 | tuple (cs ds:List AV) (hl:cs.length=ds.length) (h:∀ (i:Nat) c d,cs[i]?=some c→ds[i]?=some d→VR ρ c d):VR ρ (.tuple cs) (.tuple ds)
 | view (sz:Nat) (rows rows':List (List AV)) (t:Tok) (ht:∀ k e,t≠.own k e) (hl:rows.length=rows'.length)
   (hl2:∀ (i:Nat) r r',rows[i]?=some r→rows'[i]?=some r'→r.length=r'.length)
   (h:∀ (i j:Nat) r r' c d,rows[i]?=some r→rows'[i]?=some r'→r[j]?=some c→r'[j]?=some d→VR ρ c d):VR ρ (.view sz rows t) (.view sz rows' t)
 | eptr (sz:Nat) (rows rows':List (List AV)) (i0 off:Nat) (hl:rows.length=rows'.length)
   (hl2:∀ (i:Nat) r r',rows[i]?=some r→rows'[i]?=some r'→r.length=r'.length)
   (h:∀ (i j:Nat) r r' c d,rows[i]?=some r→rows'[i]?=some r'→r[j]?=some c→r'[j]?=some d→VR ρ c d):VR ρ (.eptr sz rows i0 off) (.eptr sz rows' i0 off)
 | cptr (k o sz i off:Nat) (h:ρ k=some o):VR ρ (.cptr k sz i off) (.cptr o sz i off)
 | msl (k o sz lo len:Nat) (h:ρ k=some o):VR ρ (.msl k sz lo len) (.msl o sz lo len)
 | amap (k o:Nat) (h:ρ k=some o):VR ρ (.amap k) (.amap o)
 | func (fn:Fn):VR ρ (.func fn [] []) (.func fn [] [])
def LR (ρ:Ren) (cs ds:List AV):Prop:=cs.length=ds.length∧∀ (i:Nat) c d,cs[i]?=some c→ds[i]?=some d→VR ρ c d
def LLR (ρ:Ren) (rows rows':List (List AV)):Prop:=rows.length=rows'.length∧∀ (i:Nat) r r',rows[i]?=some r→rows'[i]?=some r'→LR ρ r r'
def RL0 (ρ ρ':Ren):Prop:=∀ k o,ρ k=some o→ρ' k=some o
def RLe (ρ ρ':Ren):Prop:=RL0 ρ ρ'∧ρ'.rs=ρ.rs∧∀ k,ρ.rs k=true→ρ' k=ρ k
theorem RL0.refl (ρ:Ren):RL0 ρ ρ:=fun _ _ h=>h
theorem RL0.trans {a b c:Ren} (h:RL0 a b) (k:RL0 b c):RL0 a c:=fun x o hx=>k x o (h x o hx)
theorem RLe.refl (ρ:Ren):RLe ρ ρ:=⟨fun _ _ h=>h,rfl,fun _ _=>rfl⟩
theorem RLe.trans {a b c:Ren} (h:RLe a b) (k:RLe b c):RLe a c:=⟨h.1.trans k.1,k.2.1.trans h.2.1,fun x hx=>(k.2.2 x (by rw [h.2.1]; exact hx)).trans (h.2.2 x hx)⟩
theorem VR.mono0 {ρ ρ':Ren} (hr:RL0 ρ ρ') {c d:AV} (h:VR ρ c d):VR ρ' c d:=by
 induction h with
 | int=>exact .int _ _
 | bool=>exact .bool _
 | str=>exact .str _
 | lit=>exact .lit _
 | agg cs ds hl _ ih=>exact .agg _ _ hl ih
 | tuple cs ds hl _ ih=>exact .tuple _ _ hl ih
 | view sz rows rows' t ht hl hl2 _ ih=>exact .view _ _ _ _ ht hl hl2 ih
 | eptr sz rows rows' i0 off hl hl2 _ ih=>exact .eptr _ _ _ _ _ hl hl2 ih
 | cptr k o sz i off h=>exact .cptr _ _ _ _ _ (hr _ _ h)
 | msl k o sz lo len h=>exact .msl _ _ _ _ _ (hr _ _ h)
 | amap k o h=>exact .amap _ _ (hr _ _ h)
 | func fn=>exact .func fn
theorem VR.mono {ρ ρ':Ren} (hr:RLe ρ ρ') {c d:AV} (h:VR ρ c d):VR ρ' c d:=h.mono0 hr.1
theorem LR.mono0 {ρ ρ':Ren} (hr:RL0 ρ ρ') {cs ds:List AV} (h:LR ρ cs ds):LR ρ' cs ds:=⟨h.1,fun i c d h1 h2=>(h.2 i c d h1 h2).mono0 hr⟩
theorem LR.mono {ρ ρ':Ren} (hr:RLe ρ ρ') {cs ds:List AV} (h:LR ρ cs ds):LR ρ' cs ds:=h.mono0 hr.1
theorem LLR.mono0 {ρ ρ':Ren} (hr:RL0 ρ ρ') {cs ds:List (List AV)} (h:LLR ρ cs ds):LLR ρ' cs ds:=⟨h.1,fun i c d h1 h2=>(h.2 i c d h1 h2).mono0 hr⟩
theorem LLR.mono {ρ ρ':Ren} (hr:RLe ρ ρ') {cs ds:List (List AV)} (h:LLR ρ cs ds):LLR ρ' cs ds:=h.mono0 hr.1
inductive OR (ρ:Ren):AObj→AObj→Prop
 | cells (ty:TypeId) (sz:Nat) (rows rows':List (List AV)) (h:LLR ρ rows rows'):OR ρ (.cells ty sz rows) (.cells ty sz rows')
 | imap (k:IntKind) (es es':List (Int × AV)) (hk:es.map (·.1)=es'.map (·.1)) (h:LR ρ (es.map (·.2)) (es'.map (·.2))):OR ρ (.imap k es) (.imap k es')
theorem OR.mono0 {ρ ρ':Ren} (hr:RL0 ρ ρ') {c d:AObj} (h:OR ρ c d):OR ρ' c d:=by
 cases h with
 | cells ty sz rows rows' h=>exact .cells ty sz rows rows' (h.mono0 hr)
 | imap k es es' hk h=>exact .imap k es es' hk (h.mono0 hr)
theorem OR.mono {ρ ρ':Ren} (hr:RLe ρ ρ') {c d:AObj} (h:OR ρ c d):OR ρ' c d:=h.mono0 hr.1
theorem OR.cells_inv {ρ:Ren} {ty:TypeId} {sz:Nat} {rows:List (List AV)} {c:AObj} (h:OR ρ (.cells ty sz rows) c):∃ rows',c=.cells ty sz rows'∧LLR ρ rows rows':=by
 cases h with
 | cells _ _ _ rows' h=>exact ⟨rows',rfl,h⟩
section
variable {ρ:Ren}
theorem VR.agg_of {cs ds:List AV} (h:LR ρ cs ds):VR ρ (.agg cs) (.agg ds):=.agg _ _ h.1 h.2
theorem VR.tuple_of {cs ds:List AV} (h:LR ρ cs ds):VR ρ (.tuple cs) (.tuple ds):=.tuple _ _ h.1 h.2
theorem VR.view_of {sz:Nat} {rows rows':List (List AV)} {t:Tok} (ht:∀ k e,t≠.own k e) (h:LLR ρ rows rows'):VR ρ (.view sz rows t) (.view sz rows' t) :=
 .view _ _ _ _ ht h.1 (fun i r r' h1 h2=>(h.2 i r r' h1 h2).1) (fun i j r r' c d h1 h2 h3 h4=>(h.2 i r r' h1 h2).2 j c d h3 h4)
theorem VR.one {c d:AV} (h:VR ρ c d):d.one=c.one:=by cases h <;> rfl
theorem LR.get {cs ds:List AV} (h:LR ρ cs ds) {i:Nat} {c:AV} (hc:cs[i]?=some c):∃ d,ds[i]?=some d∧VR ρ c d:=by
 have hi:i < ds.length:=h.1 ▸ (List.getElem?_eq_some_iff.1 hc).1
 exact ⟨_,List.getElem?_eq_getElem hi,h.2 i c _ hc (List.getElem?_eq_getElem hi)⟩
theorem LLR.get {cs ds:List (List AV)} (h:LLR ρ cs ds) {i:Nat} {c:List AV} (hc:cs[i]?=some c):∃ d,ds[i]?=some d∧LR ρ c d:=by
 have hi:i < ds.length:=h.1 ▸ (List.getElem?_eq_some_iff.1 hc).1
 exact ⟨_,List.getElem?_eq_getElem hi,h.2 i c _ hc (List.getElem?_eq_getElem hi)⟩
theorem LR.nil:LR ρ [] []:=⟨rfl,fun i c d h=>by simp at h⟩
theorem LR.cons {c d:AV} {cs ds:List AV} (h:VR ρ c d) (k:LR ρ cs ds):LR ρ (c::cs) (d::ds) :=
 ⟨by rw [List.length_cons,List.length_cons,k.1],fun i x y hx hy=>by
  cases i with
  | zero=>cases hx; cases hy; exact h
  | succ i=>exact k.2 i x y (by simpa using hx) (by simpa using hy)⟩
theorem LLR.nil:LLR ρ [] []:=⟨rfl,fun i c d h=>by simp at h⟩
theorem LLR.cons {c d:List AV} {cs ds:List (List AV)} (h:LR ρ c d) (k:LLR ρ cs ds):LLR ρ (c::cs) (d::ds) :=
 ⟨by rw [List.length_cons,List.length_cons,k.1],fun i x y hx hy=>by
  cases i with
  | zero=>cases hx; cases hy; exact h
  | succ i=>exact k.2 i x y (by simpa using hx) (by simpa using hy)⟩
theorem LR.take {cs ds:List AV} (h:LR ρ cs ds) (n:Nat):LR ρ (cs.take n) (ds.take n):=by
 refine ⟨by rw [List.length_take,List.length_take,h.1],fun i c d h1 h2=>?_⟩
 have hi:i < n:=by
  have:=(List.getElem?_eq_some_iff.1 h1).1
  rw [List.length_take] at this
  omega
 rw [List.getElem?_take_of_lt hi] at h1 h2
 exact h.2 i c d h1 h2
theorem LR.drop {cs ds:List AV} (h:LR ρ cs ds) (n:Nat):LR ρ (cs.drop n) (ds.drop n):=by
 refine ⟨by rw [List.length_drop,List.length_drop,h.1],fun i c d h1 h2=>?_⟩
 rw [List.getElem?_drop] at h1 h2
 exact h.2 _ c d h1 h2
theorem LR.append {a b c d:List AV} (h:LR ρ a b) (k:LR ρ c d):LR ρ (a++c) (b++d):=by
 refine ⟨by rw [List.length_append,List.length_append,h.1,k.1],fun i x y h1 h2=>?_⟩
 have hl:=h.1
 rcases Nat.lt_or_ge i a.length with hi|hi
 ·rw [List.getElem?_append_left hi] at h1
  rw [List.getElem?_append_left (by omega)] at h2
  exact h.2 i x y h1 h2
 ·rw [List.getElem?_append_right hi] at h1
  rw [List.getElem?_append_right (by omega),← hl] at h2
  exact k.2 _ x y h1 h2
theorem LLR.take {cs ds:List (List AV)} (h:LLR ρ cs ds) (n:Nat):LLR ρ (cs.take n) (ds.take n):=by
 refine ⟨by rw [List.length_take,List.length_take,h.1],fun i c d h1 h2=>?_⟩
 have hi:i < n:=by
  have:=(List.getElem?_eq_some_iff.1 h1).1
  rw [List.length_take] at this
  omega
 rw [List.getElem?_take_of_lt hi] at h1 h2
 exact h.2 i c d h1 h2
theorem LLR.drop {cs ds:List (List AV)} (h:LLR ρ cs ds) (n:Nat):LLR ρ (cs.drop n) (ds.drop n):=by
 refine ⟨by rw [List.length_drop,List.length_drop,h.1],fun i c d h1 h2=>?_⟩
 rw [List.getElem?_drop] at h1 h2
 exact h.2 _ c d h1 h2
theorem LLR.append {a b c d:List (List AV)} (h:LLR ρ a b) (k:LLR ρ c d):LLR ρ (a++c) (b++d):=by
 refine ⟨by rw [List.length_append,List.length_append,h.1,k.1],fun i x y h1 h2=>?_⟩
 have hl:=h.1
 rcases Nat.lt_or_ge i a.length with hi|hi
 ·rw [List.getElem?_append_left hi] at h1
  rw [List.getElem?_append_left (by omega)] at h2
  exact h.2 i x y h1 h2
 ·rw [List.getElem?_append_right hi] at h1
  rw [List.getElem?_append_right (by omega),← hl] at h2
  exact k.2 _ x y h1 h2
theorem LLR.set {a b:List (List AV)} (h:LLR ρ a b) (i:Nat) {r r':List AV} (k:LR ρ r r'):LLR ρ (a.set i r) (b.set i r'):=by
 refine ⟨by rw [List.length_set,List.length_set,h.1],fun j x y h1 h2=>?_⟩
 rw [List.getElem?_set] at h1 h2
 by_cases e:i=j
 ·subst e
  simp only [if_true] at h1 h2
  split at h1
  ·cases h1
   split at h2
   ·cases h2; exact k
   ·cases h2
  ·cases h1
 ·rw [if_neg e] at h1 h2
  exact h.2 j x y h1 h2
theorem LR.rowSet {row row' cs cs':List AV} (h:LR ρ row row') (off:Nat) (k:LR ρ cs cs'):LR ρ (rowSet row off cs) (rowSet row' off cs'):=by
 unfold AM.rowSet
 rw [k.1]
 exact ((h.take off).append k).append (h.drop _)
theorem VR.cells {c d:AV} (h:VR ρ c d):LR ρ c.cells d.cells:=by
 cases h with
 | agg cs ds hl hh=>exact ⟨hl,hh⟩
 | int=>exact .cons (.int _ _) .nil
 | bool=>exact .cons (.bool _) .nil
 | str=>exact .cons (.str _) .nil
 | lit=>exact .cons (.lit _) .nil
 | tuple cs ds hl hh=>exact .cons (.tuple _ _ hl hh) .nil
 | view sz rows rows' t ht hl hl2 hh=>exact .cons (.view _ _ _ _ ht hl hl2 hh) .nil
 | eptr sz rows rows' i0 off hl hl2 hh=>exact .cons (.eptr _ _ _ _ _ hl hl2 hh) .nil
 | cptr k o sz i off h=>exact .cons (.cptr _ _ _ _ _ h) .nil
 | msl k o sz lo len h=>exact .cons (.msl _ _ _ _ _ h) .nil
 | amap k o h=>exact .cons (.amap _ _ h) .nil
 | func fn=>exact .cons (.func fn) .nil
theorem VR.storable {c d:AV} (h:VR ρ c d):storable d=storable c:=by cases h <;> rfl
theorem LR.sel {row row':List AV} (h:LR ρ row row') {agg:Bool} {sz off:Nat} {v:AV} (hv:sel agg sz row off=some v):∃ u,sel agg sz row' off=some u∧VR ρ v u:=by
 unfold AM.sel at hv ⊢
 cases agg with
 | false=>exact h.get hv
 | true =>
  rw [cond_true] at hv ⊢
  rw [← h.1]
  cases hb:Nat.ble (off + sz) row.length with
  | false=>rw [hb] at hv; cases hv
  | true =>
   rw [hb] at hv
   cases hv
   exact ⟨_,rfl,.agg_of ((h.drop off).take sz)⟩

/-! What is known of the temporaries. -/
abbrev Gt:=Nat→Option AV
def updG (G:Gt) (d:Nat) (v:AV):Gt:=fun i=>if i=d then some v else G i
def updO (G:Gt):Option Nat→AV→Gt
 | none,_=>G
 | some d,v=>updG G d v
def TR (ρ:Ren) (G:Gt) (τ:Tmps):Prop:=∀ i c,G i=some c→∃ d,τ.get i=some d∧VR ρ c d
theorem TR.get {G:Gt} {τ:Tmps} (h:TR ρ G τ) {i:Nat} {c:AV} (hc:G i=some c):∃ d,τ.get i=some d∧VR ρ c d:=h i c hc
theorem TR.cons {G:Gt} {τ:Tmps} (h:TR ρ G τ) (d:Nat) {c e:AV} (hv:VR ρ c e):TR ρ (updG G d c) ((d,e)::τ):=by
 intro i c' hc
 unfold updG at hc
 rw [Tmps.get]
 by_cases hi:i=d
 ·rw [if_pos hi] at hc
  cases hc
  subst hi
  exact ⟨e,by rw [nbeq_self]; rfl,hv⟩
 ·rw [if_neg hi] at hc
  rw [nbeq_ne (Ne.symm hi)]
  exact h i c' hc
theorem TR.put {G:Gt} {τ:Tmps} (h:TR ρ G τ) (d:Option Tmp) {c e:AV} (hv:VR ρ c e):TR ρ (updO G d c) (τ.put d e):=by
 cases d with
 | none=>exact h
 | some d=>exact h.cons d hv
end
theorem TR.mono0 {ρ ρ':Ren} (hr:RL0 ρ ρ') {G:Gt} {τ:Tmps} (h:TR ρ G τ):TR ρ' G τ:=fun i c hc=>by
 obtain ⟨d,h1,h2⟩:=h i c hc
 exact ⟨d,h1,h2.mono0 hr⟩
theorem TR.mono {ρ ρ':Ren} (hr:RLe ρ ρ') {G:Gt} {τ:Tmps} (h:TR ρ G τ):TR ρ' G τ:=h.mono0 hr.1
def putT (t:Tr AV):Option Nat→AV→Tr AV
 | none,_=>t
 | some d,v=>Tr.put (d + 1) t d (some v)
theorem putT_get (t:Tr AV) (d:Option Nat) (v:AV):(putT t d v).get=updO t.get d v:=by
 funext i
 cases d with
 | none=>rfl
 | some d =>
  show (Tr.put (d + 1) t d (some v)).get i=if i=d then some v else t.get i
  exact Tr.get_put (d + 1) t d i (some v) Nat.lt_two_pow_self
end Go.AX
namespace Go.AX
open Go.AM
open Go.RowKit (Below)

inductive Clean:AV→Prop
 | int (k:IntKind) (n:Int):Clean (.int k n)
 | bool (b:Bool):Clean (.bool b)
 | str (l:List UInt8):Clean (.str l)
 | lit (v:Value):Clean (.lit v)
 | agg (cs:List AV) (h:∀ c ∈ cs,Clean c):Clean (.agg cs)
 | tuple (cs:List AV) (h:∀ c ∈ cs,Clean c):Clean (.tuple cs)
 | view (sz:Nat) (rows:List (List AV)) (t:Tok) (ht:∀ k e,t≠.own k e) (h:∀ row ∈ rows,∀ c ∈ row,Clean c):Clean (.view sz rows t)
 | eptr (sz:Nat) (rows:List (List AV)) (i off:Nat) (h:∀ row ∈ rows,∀ c ∈ row,Clean c):Clean (.eptr sz rows i off)
def Gz (g:G) (w:World):G:={ base:=w.heap.size,next:=0,imm:=g.imm,obj:=fun _=>none,tok:=fun _=>none }
def G.all (g:G) (w w':World):G:={ g with imm:=fun b i=>g.imm b i∨(w.heap.size≤b∧b < w'.heap.size) }
theorem TokAt.clean {g g':G} {t:Tok} (ht:∀ k e,t≠.own k e) {b:Option Nat} {off len cap sz:Nat} (h:TokAt g t b off len cap sz):TokAt g' t b off len cap sz:=by
 cases t with
 | shared=>trivial
 | nil=>exact h
 | full=>exact h
 | own k e=>exact absurd rfl (ht k e)
theorem R.clean {g g':G} {w:World} {a:AV} {v:Value} (h:R g w a v) (hi:∀ b i,g.imm b i→g'.imm b i):Clean a→R g' w a v:=by
 induction h with
 | int=>exact fun _=>.int _ _
 | bool=>exact fun _=>.bool _
 | str=>exact fun _=>.str _
 | lit=>exact fun _=>.lit _
 | agg cs vs hl h1 _ ih =>
  intro hs
  cases hs with
  | agg _ hs=>exact .agg _ _ hl h1 fun i c v hc hv=>ih i c v hc hv (hs c (List.mem_of_getElem? hc))
 | tuple cs vs hl _ ih =>
  intro hs
  cases hs with
  | tuple _ hs=>exact .tuple _ _ hl fun i c v hc hv=>ih i c v hc hv (hs c (List.mem_of_getElem? hc))
 | vnil sz t ht =>
  intro hs
  cases hs with
  | view _ _ _ hk _=>exact .vnil _ _ (TokAt.clean hk ht)
 | vemp sz t a hn ht =>
  intro hs
  cases hs with
  | view _ _ _ hk _=>exact .vemp _ _ _ hn (TokAt.clean hk ht)
 | view sz rows t b off cap f hc hm hsz h1 ht himm _ ih =>
  intro hs
  cases hs with
  | view _ _ _ hk hs =>
   exact .view sz rows t b off cap f hc hm hsz h1 (TokAt.clean hk ht) (fun i j h1 h2=>⟨hi _ _ (himm i j h1 h2).1,(himm i j h1 h2).2⟩) fun i j row c hr hcj=>ih i j row c hr hcj (hs row (List.mem_of_getElem? hr) c (List.mem_of_getElem? hcj))
 | eptr sz rows i0 o b off f hsz h1 himm _ ih =>
  intro hs
  cases hs with
  | eptr _ _ _ _ hs =>
   exact .eptr sz rows i0 o b off f hsz h1 (fun i j h1 h2=>⟨hi _ _ (himm i j h1 h2).1,(himm i j h1 h2).2⟩) fun i j row c hr hcj=>ih i j row c hr hcj (hs row (List.mem_of_getElem? hr) c (List.mem_of_getElem? hcj))
 | cptr=>intro hs; cases hs
 | msl=>intro hs; cases hs
 | iter=>intro hs; cases hs
 | amap=>intro hs; cases hs
 | iface=>intro hs; cases hs
 | func=>intro hs; cases hs
theorem GlobAt.gz {g:G} {w:World} {gi:Nat} {row:List AV} (hs:g.base≤w.heap.size) (h:GlobAt g w gi row) (hc:∀ c ∈ row,Clean c):GlobAt (Gz g w) w gi row :=
 ⟨R.clean h.rel (fun _ _ h=>h) (.eptr _ _ _ _ fun r hr c hx=>by rw [List.mem_singleton.1 hr] at hx; exact hc c hx),Nat.lt_of_lt_of_le h.old hs,h.arr⟩
theorem Sim.gz {g:G} {w:World} {st:St} (hs:Sim g w st) {gl:List (Nat × List AV)} (hgl:∀ p ∈ gl,p ∈ st.glob) (hc:∀ p ∈ gl,∀ c ∈ p.2,Clean c):Sim (Gz g w) w { obj:=fun _=>none,tok:=fun _=>false,glob:=gl } where
 base:=Nat.le_refl _
 objs:=fun o c hc=>by cases hc
 inj:=fun o o' c c' b m m' hc=>by cases hc
 toks:=fun t ht=>by cases ht
 tobj:=fun t o c b r m ht=>by cases ht
 tinj:=fun t t' b r r' ht=>by cases ht
 immlt:=hs.immlt
 objlt:=fun o b m h=>by cases h
 toklt:=fun t b r h=>by cases h
 fresh:=fun n _=>⟨rfl,rfl⟩
 globs:=fun gi row h=>GlobAt.gz hs.base (hs.globs gi row (hgl _ h)) (hc _ h)
theorem Sim.all {g:G} {w w':World} {st:St} (hs:Sim g w st) (hb:Below w.heap.size w w'):Ext g w (G.all g w w') w'∧Sim (G.all g w w') w' st:=by
 have hsz:w.heap.size≤w'.heap.size:=hb.size
 have he:Ext g w (G.all g w w') w':={
  base:=rfl
  next:=Nat.le_refl _
  imm:=fun b i h=>.inl h
  cell:=fun b i h=>hb.cell (p:=⟨b,i,none⟩) (hs.immlt b i h)
  obj:=fun o b h=>h
  tok:=fun t r h=>h
  below:=hb.mono hs.base
  old:=fun b i hb' hi=>hi.elim id fun h=>absurd hb' (by have:=hs.base; omega) }
 have hblk:∀ b,b < w.heap.size→w'.heap[b]?=w.heap[b]?:=fun b h=>hb.block b h
 have himm:∀ b i,b < w.heap.size→¬ g.imm b i→¬ (G.all g w w').imm b i:=fun b i h h1 h2=>by
  rcases h2 with h2|⟨h2,_⟩
  ·exact h1 h2
  ·omega
 refine ⟨he,?_⟩
 exact {
  base:=Nat.le_trans hs.base hsz
  objs:=fun o c hc=>by
   obtain ⟨b,m,h1,h2,h3,h4⟩:=hs.objs o c hc
   have hlt:=hs.objlt o b m h1
   exact ⟨b,m,h1,h2,h3.mono he (hblk b hlt),fun i=>himm b i hlt (h4 i)⟩
  inj:=hs.inj
  toks:=fun t ht=>by
   obtain ⟨r,h1,h2⟩:=hs.toks t ht
   refine ⟨r,h1,?_⟩
   obtain ⟨b,len,cap,e,size⟩:=r
   cases b with
   | none=>exact h2
   | some b =>
    have hlt:=hs.toklt t b _ h1
    obtain ⟨a1,a2,a3,a4,⟨cur,a5,a6⟩,a7⟩:=h2
    exact ⟨a1,a2,a3,a4,⟨cur,(hblk b hlt).trans a5,a6⟩,fun i hi=>himm b i hlt (a7 i hi)⟩
  tobj:=hs.tobj
  tinj:=hs.tinj
  immlt:=fun b i h=>by
   rcases h with h|⟨_,h⟩
   ·exact Nat.lt_of_lt_of_le (hs.immlt b i h) hsz
   ·exact h
  objlt:=fun o b m h=>Nat.lt_of_lt_of_le (hs.objlt o b m h) hsz
  toklt:=fun t b r h=>Nat.lt_of_lt_of_le (hs.toklt t b r h) hsz
  fresh:=hs.fresh
  globs:=fun gi row h=>(hs.globs gi row h).ext he }
inductive Frz (st:St):AV→AV→Prop
 | clean (v:AV) (h:Clean v):Frz st v v
 | agg (cs ds:List AV) (hl:cs.length=ds.length) (h:∀ (i:Nat) c d,cs[i]?=some c→ds[i]?=some d→Frz st c d):Frz st (.agg cs) (.agg ds)
 | tuple (cs ds:List AV) (hl:cs.length=ds.length) (h:∀ (i:Nat) c d,cs[i]?=some c→ds[i]?=some d→Frz st c d):Frz st (.tuple cs) (.tuple ds)
 | view (sz:Nat) (rows rows':List (List AV)) (t:Tok) (ht:∀ k e,t≠.own k e) (hl:rows.length=rows'.length) (hl2:∀ (i:Nat) r r',rows[i]?=some r→rows'[i]?=some r'→r.length=r'.length)
   (h:∀ (i j:Nat) r r' c d,rows[i]?=some r→rows'[i]?=some r'→r[j]?=some c→r'[j]?=some d→Frz st c d):Frz st (.view sz rows t) (.view sz rows' t)
 | msl (o sz lo len:Nat) (ty:TypeId) (rows rows':List (List AV)) (ho:st.obj o=some (.cells ty sz rows)) (hl:rows'.length=len) (hb:lo + len≤rows.length)
   (hl2:∀ (i:Nat) r r',rows[lo + i]?=some r→rows'[i]?=some r'→r.length=r'.length)
   (h:∀ (i j:Nat) r r' c d,rows[lo + i]?=some r→rows'[i]?=some r'→r[j]?=some c→r'[j]?=some d→Frz st c d):Frz st (.msl o sz lo len) (.view sz rows' .shared)
theorem Frz.one {st:St} {v v2:AV} (h:Frz st v v2):v2.one=v.one:=by cases h <;> rfl
theorem Frz.R {g g':G} {w w':World} {st':St} (hs':Sim g' w' st') (hb:g'.base=w.heap.size) (himm:∀ b i,b < w.heap.size→g'.imm b i→g.imm b i) {v v2:AV} (hf:Frz st' v v2) :
  ∀ {rv:Value},R g' w' v rv→R (G.all g w w') w' v2 rv:=by
 have him:∀ b i,g'.imm b i→(G.all g w w').imm b i:=fun b i h=>by
  rcases Nat.lt_or_ge b w.heap.size with h1|h1
  ·exact .inl (himm b i h1 h)
  ·exact .inr ⟨h1,hs'.immlt b i h⟩
 induction hf with
 | clean v h=>exact fun hr=>R.clean hr him h
 | agg cs ds hl hf ih =>
  intro rv hr
  cases hr with
  | agg _ vs hl' h1 hh =>
   refine .agg _ vs (hl ▸ hl') (fun d hd=>?_) fun i d v hd hv=>?_
   ·obtain ⟨i,hi,rfl⟩:=List.getElem_of_mem hd
    have hi':i < cs.length:=by omega
    rw [(hf i _ _ (List.getElem?_eq_getElem hi') (List.getElem?_eq_getElem hi)).one]
    exact h1 _ (List.getElem_mem hi')
   have hi:i < cs.length:=by rw [hl]; exact (List.getElem?_eq_some_iff.1 hd).1
   exact ih i _ d (List.getElem?_eq_getElem hi) hd (hh i _ v (List.getElem?_eq_getElem hi) hv)
 | tuple cs ds hl _ ih =>
  intro rv hr
  cases hr with
  | tuple _ vs hl' hh =>
   refine .tuple _ vs (hl ▸ hl') fun i d v hd hv=>?_
   have hi:i < cs.length:=by rw [hl]; exact (List.getElem?_eq_some_iff.1 hd).1
   exact ih i _ d (List.getElem?_eq_getElem hi) hd (hh i _ v (List.getElem?_eq_getElem hi) hv)
 | view sz rows rows' t ht hl hl2 hf ih =>
  intro rv hr
  cases hr with
  | vnil _ _ htk =>
   have:rows'=[]:=List.eq_nil_of_length_eq_zero (by simpa using hl.symm)
   subst this
   exact .vnil _ _ (TokAt.clean ht htk)
  | vemp _ _ ad hn htk =>
   have:rows'=[]:=List.eq_nil_of_length_eq_zero (by simpa using hl.symm)
   subst this
   exact .vemp _ _ _ hn (TokAt.clean ht htk)
  | view _ _ _ b off cap f hc hm hsz h1 htk hi hh =>
   rw [hl]
   refine .view sz rows' t b off cap f (hl ▸ hc) hm ?_ ?_ (hl ▸ TokAt.clean ht htk) (fun i j h2 h3=>⟨him _ _ (hi i j (hl ▸ h2) h3).1,(hi i j (hl ▸ h2) h3).2⟩) ?_
   ·intro r' hr'
    obtain ⟨i,hil,rfl⟩:=List.getElem_of_mem hr'
    have hlt:i < rows.length:=by omega
    rw [← hl2 i rows[i] rows'[i] (List.getElem?_eq_getElem hlt) (List.getElem?_eq_getElem hil)]
    exact hsz _ (List.getElem_mem hlt)
   ·intro r' hr' d hd
    obtain ⟨i,hil,rfl⟩:=List.getElem_of_mem hr'
    have hlt:i < rows.length:=by omega
    obtain ⟨j,hj,rfl⟩:=List.getElem_of_mem hd
    have hjl:j < rows[i].length:=by rw [hl2 i rows[i] rows'[i] (List.getElem?_eq_getElem hlt) (List.getElem?_eq_getElem hil)]; exact hj
    rw [(hf i j _ _ _ _ (List.getElem?_eq_getElem hlt) (List.getElem?_eq_getElem hil) (List.getElem?_eq_getElem hjl) (List.getElem?_eq_getElem hj)).one]
    exact h1 _ (List.getElem_mem hlt) _ (List.getElem_mem hjl)
   ·intro i j r' d hr' hd
    have hil:i < rows'.length:=(List.getElem?_eq_some_iff.1 hr').1
    have hlt:i < rows.length:=by omega
    have hj:j < r'.length:=(List.getElem?_eq_some_iff.1 hd).1
    have hjl:j < rows[i].length:=by rw [hl2 i rows[i] r' (List.getElem?_eq_getElem hlt) hr']; exact hj
    exact ih i j _ _ _ _ (List.getElem?_eq_getElem hlt) hr' (List.getElem?_eq_getElem hjl) hd (hh i j _ _ (List.getElem?_eq_getElem hlt) (List.getElem?_eq_getElem hjl))
 | msl o sz lo len ty rows rows' ho hl hbnd hl2 hf ih =>
  intro rv hr
  cases hr with
  | msl _ _ _ _ cap b m hob hc hm hfit =>
   obtain ⟨hbase,⟨arr,ha,hasz,hml,hrl,h1,hcell⟩,_⟩:=hs'.objOf ho hob
   have hblt:=hs'.objlt o b m hob
   subst hl
   have hrow:∀ i,i < rows'.length→lo + i < rows.length:=fun i h=>by omega
   have hval:∀ (i j:Nat) r c,rows[lo + i]?=some r→r[j]?=some c→∃ v,arr[lo * sz + (i * sz + j)]?=some v∧AM.R g' w' c v:=fun i j r c h2 h3=>by
    obtain ⟨v,h4,h5⟩:=hcell (lo + i) j r c h2 h3
    exact ⟨v,by rw [← Nat.add_assoc,← Nat.add_mul]; exact h4,h5⟩
   refine .view sz rows' .shared b (lo * sz) cap (fun i j=>(arr[lo * sz + (i * sz + j)]?).getD undef) hc hm ?_ ?_ trivial (fun i j hi hj=>⟨.inr ⟨hb ▸ hbase,hblt⟩,?_⟩) ?_
   ·intro r' hr'
    obtain ⟨i,hil,rfl⟩:=List.getElem_of_mem hr'
    have hlt:=hrow i hil
    rw [← hl2 i rows[lo + i] rows'[i] (List.getElem?_eq_getElem hlt) (List.getElem?_eq_getElem hil)]
    exact hrl _ (List.getElem_mem hlt)
   ·intro r' hr' d hd
    obtain ⟨i,hil,rfl⟩:=List.getElem_of_mem hr'
    have hlt:=hrow i hil
    obtain ⟨j,hj,rfl⟩:=List.getElem_of_mem hd
    have hjl:j < rows[lo + i].length:=by rw [hl2 i rows[lo + i] rows'[i] (List.getElem?_eq_getElem hlt) (List.getElem?_eq_getElem hil)]; exact hj
    rw [(hf i j _ _ _ _ (List.getElem?_eq_getElem hlt) (List.getElem?_eq_getElem hil) (List.getElem?_eq_getElem hjl) (List.getElem?_eq_getElem hj)).one]
    exact h1 _ (List.getElem_mem hlt) _ (List.getElem_mem hjl)
   ·have hlt:=hrow i hi
    have hjl:j < rows[lo + i].length:=by rw [hrl _ (List.getElem_mem hlt)]; exact hj
    obtain ⟨v,h4,_⟩:=hval i j _ _ (List.getElem?_eq_getElem hlt) (List.getElem?_eq_getElem hjl)
    rw [cell_of_row w' b _ arr ty (0,0) ha,h4]
    rfl
   ·intro i j r' d hr' hd
    have hil:i < rows'.length:=(List.getElem?_eq_some_iff.1 hr').1
    have hlt:=hrow i hil
    have hj:j < r'.length:=(List.getElem?_eq_some_iff.1 hd).1
    have hjl:j < rows[lo + i].length:=by rw [hl2 i rows[lo + i] r' (List.getElem?_eq_getElem hlt) hr']; exact hj
    obtain ⟨v,h4,h5⟩:=hval i j _ _ (List.getElem?_eq_getElem hlt) (List.getElem?_eq_getElem hjl)
    rw [h4]
    exact ih i j _ _ _ _ (List.getElem?_eq_getElem hlt) hr' (List.getElem?_eq_getElem hjl) hd h5
theorem pure_call {P:Program} {f:FuncId} {vs:List AV} {st:St} {Rt:AV→St→Prop} {Rt2:AV→Prop} {gl:List (Nat × List AV)} (hgl:∀ p ∈ gl,p ∈ st.glob) (hg:∀ p ∈ gl,∀ c ∈ p.2,Clean c) (hv:∀ v ∈ vs,Clean v)
  (hc:ACalls P f vs { obj:=fun _=>none,tok:=fun _=>false,glob:=gl } Rt (fun _ _=>False)) (hf:∀ v st',Rt v st'→∃ v2,Frz st' v v2∧Rt2 v2) :
  ACalls P f vs st (fun v st'=>Rt2 v∧st'=st) (fun _ _=>False):=by
 intro g w rargs hs hl ha
 refine (hc (Gz g w) w rargs (Sim.gz hs hgl hg) hl fun i c v h1 h2=>R.clean (ha i c v h1 h2) (fun _ _ h=>h) (hv c (List.mem_of_getElem? h1))).mono fun e w' ⟨g',st',he,hs',hq⟩=>?_
 have hb:Below w.heap.size w w':=he.below
 obtain ⟨he2,hs2⟩:=Sim.all hs hb
 refine ⟨_,st,he2,hs2,?_⟩
 cases e with
 | returned rv =>
  obtain ⟨v,hR,hRt⟩:=hq
  obtain ⟨v2,hfr,hv2⟩:=hf v st' hRt
  exact ⟨v2,Frz.R (g:=g) hs' he.base (fun b i h1 h2=>he.old b i h1 h2) hfr hR,hv2,rfl⟩
 | panicked ch=>obtain ⟨_,_,_,_,h⟩:=hq; exact h.elim
 | outgrown=>exact hq.elim
end Go.AX
namespace Go.Proofs
open Go.AM
attribute [local irreducible] AWP AOps ACalls AAny
set_option linter.unusedSimpArgs false

def irs (l:List Int):List (List AV):=l.map fun n=>[.int .i64 n]
theorem irs_len (l:List Int):(irs l).length=l.length:=List.length_map ..
theorem irs_at {l:List Int} {i:Nat} {b:Int} (h:l[i]?=some b):(irs l)[i]?=some [.int .i64 b]:=by unfold irs; rw [List.getElem?_map,h]; rfl
def pgR (i:Nat) (w:List Int):List AV:=[.int .i64 ((64 * i:Nat):Int),.view 1 (irs w) .shared]
def pgs (ws:List (List Int)):List (List AV):=ws.mapIdx pgR
theorem pgs_len (ws:List (List Int)):(pgs ws).length=ws.length:=List.length_mapIdx ..
theorem pgs_at {ws:List (List Int)} {i:Nat} {w:List Int} (h:ws[i]?=some w):(pgs ws)[i]?=some [.int .i64 ((64 * i:Nat):Int),.view 1 (irs w) .shared]:=by unfold pgs; rw [List.getElem?_mapIdx,h]; rfl
def memV (ws:List (List Int)):AV:=.agg [.view 2 (pgs ws) .shared]
structure MOk (ws:List (List Int)):Prop where
 len:ws.length≤16
 each:∀ w ∈ ws,w.length=64
theorem MOk.at {ws:List (List Int)} (h:MOk ws) {i:Nat} {w:List Int} (hw:ws[i]?=some w):w.length=64:=h.each w (List.mem_of_getElem? hw)
def fnd (n:Nat) (addr:Int):Int:=if 0≤addr∧addr < 64 * n then addr / 64 else -1
def i64 (x:Int):Prop:=-9223372036854775808≤x∧x < 9223372036854775808

set_option maxHeartbeats 2000000 in
theorem find_ok (ws:List (List Int)) (hM:MOk ws) (addr:Int) (ha:i64 addr) (st:St):ACalls Tryz.prog 37 [memV ws,.int .i64 addr] st (fun v st'=>v=.int .i64 (fnd ws.length addr)∧st'=st) (fun _ _=>False):=by
 refine ACalls.ofBody Tryz.func37 rfl Tryz.ntmps37 rfl ?_
 unfold memV
 have hl:=pgs_len ws
 have hn:=hM.len
 obtain ⟨ha1,ha2⟩:=ha
 refine goD ?_
 refine AWP.loop (α:=Nat) (fun i=>[(5,.int .i64 (i:Int)),(2,.eptr 1 [[.view 2 (pgs ws) .shared]] 0 0),(1,.int .i64 addr)]) (fun _=>st) (fun i=>i≤ws.length∧(addr < 0∨64 * (i:Int)≤addr)) (fun i=>ws.length - i) 0 ⟨Nat.zero_le _,by omega⟩ (tl3 rfl rfl rfl) (.refl _) ?_
 rintro i ⟨hi,he⟩
 refine AWP.weaken (T':=[(5,.int .i64 (i:Int)),(2,.eptr 1 [[.view 2 (pgs ws) .shared]] 0 0),(1,.int .i64 addr)]) (tl3 rfl rfl rfl) (.refl _) ?_
 by_cases hlt:i < ws.length
 ·obtain ⟨w,hw⟩:∃ w,ws[i]?=some w:=⟨_,List.getElem?_eq_getElem hlt⟩
  have hr:=pgs_at hw
  have hw64:=hM.at hw
  have hwl:=irs_len w
  have hir:i < (pgs ws).length:=by omega
  by_cases c1:((64 * i:Nat):Int)≤addr
  ·by_cases c2:addr - ((64 * i:Nat):Int) < 64
   ·have c3:addr - ((64 * i:Nat):Int) < ((irs w).length:Int):=by omega
    have c4:addr ≥ 0:=by omega
    refine goD ?_
    refine Go.AM.sb rfl rfl rfl (by omega) ?_
    refine goD ?_
    refine Go.AM.sb rfl rfl rfl (by omega) ?_
    refine goD ?_
    refine AWP.ret (rets rfl (.refl _) (.refl _) ⟨?_,rfl⟩)
    unfold fnd
    rw [if_pos (by omega),show addr / 64=(i:Int) by omega] <;> rfl
   ·have c2':64 * ((i + 1:Nat):Int)≤addr:=by omega
    refine goD ?_
    refine Go.AM.sb rfl rfl rfl (by omega) ?_
    refine goD ?_
    exact ⟨i + 1,⟨by omega,.inr c2'⟩,by omega,(tl3 rfl rfl rfl),.refl _⟩
  ·have c2:addr < 0:=by omega
   refine goD ?_
   exact ⟨i + 1,⟨by omega,.inl c2⟩,by omega,(tl3 rfl rfl rfl),.refl _⟩
 ·refine goD ?_
  refine AWP.exit (blk_hit ?_)
  refine goD ?_
  refine AWP.ret (rets rfl (.refl _) (.refl _) ⟨?_,rfl⟩)
  unfold fnd
  rw [if_neg (by omega)] <;> rfl
set_option maxHeartbeats 2000000 in
theorem ints_ok (a b:List Int) (hb:a.length≤100000) (st:St):ACalls Tryz.prog 19 [.view 1 (irs a) .shared,.view 1 (irs b) .shared] st (fun v st'=>v=.bool (decide (a=b))∧st'=st) (fun _ _=>False):=by
 refine ACalls.ofBody Tryz.func19 rfl Tryz.ntmps19 rfl ?_
 have la:=irs_len a
 have lb:=irs_len b
 by_cases hl:a.length=b.length
 ·have hl':¬ (((irs a).length:Int)≠(irs b).length):=by omega
  refine goD ?_
  refine AWP.loop (α:=Nat) (fun i=>[(5,.int .i64 (i:Int)),(1,.view 1 (irs b) .shared),(0,.view 1 (irs a) .shared)]) (fun _=>st) (fun i=>i≤a.length∧a.take i=b.take i) (fun i=>a.length - i) 0 ⟨Nat.zero_le _,rfl⟩ (tl3 rfl rfl rfl) (.refl _) ?_
  rintro i ⟨hi,he⟩
  refine AWP.weaken (T':=[(5,.int .i64 (i:Int)),(1,.view 1 (irs b) .shared),(0,.view 1 (irs a) .shared)]) (tl3 rfl rfl rfl) (.refl _) ?_
  by_cases hlt:i < a.length
  ·obtain ⟨x,hx⟩:∃ x,a[i]?=some x:=⟨_,List.getElem?_eq_getElem hlt⟩
   obtain ⟨y,hy⟩:∃ x,b[i]?=some x:=⟨_,List.getElem?_eq_getElem (by omega)⟩
   have hxr:=irs_at hx
   have hyr:=irs_at hy
   have hir:i < (irs a).length:=by omega
   have hir2:i < (irs b).length:=by omega
   by_cases hxy:x≠y
   ·have hne:a≠b:=fun h=>by subst h; rw [hx] at hy; cases hy; exact hxy rfl
    refine goD ?_
    refine AWP.any rfl ?_
    apply AAny.segQ (k':=8) (hok:=by decide +kernel)
    repeat (first|apply dsY (hi:=rfl) (hs:=rfl)|apply dqY (hi:=rfl) (hd:=rfl) (hw:=rfl) (h:=fun _ _=>ZD (z:=nz))|apply dqY (hi:=rfl) (hd:=rfl) (hw:=rfl) (h:=fun _ _=>ZF (z:=nz))|apply dqY (hi:=rfl) (hd:=rfl) (hw:=rfl) (h:=fun _ _=>ZC (z:=nz))|apply dqY (hi:=rfl) (hd:=rfl) (hw:=rfl) (h:=fun _ _=>ZJ (z:=nz))|apply dqY (hi:=rfl) (hd:=rfl) (hw:=rfl) (h:=fun _ _=>ZK (z:=nz))|apply dqY (hi:=rfl) (hd:=rfl) (hw:=rfl) (h:=fun _ _=>ZM (z:=nz))|apply dqY (hi:=rfl) (hd:=rfl) (hw:=rfl) (h:=fun _ _=>ZN (z:=nz))|apply dqY (hi:=rfl) (hd:=rfl) (hw:=rfl) (h:=fun _ _=>ZH (z:=nz))|apply dqY (hi:=rfl) (hd:=rfl) (hw:=rfl) (h:=fun _ _=>ZQ (z:=nz))|apply dqY (hi:=rfl) (hd:=rfl) (hw:=rfl) (h:=fun _ _=>ZP (z:=nz))|apply dqY (hi:=rfl) (hd:=rfl) (hw:=rfl) (h:=fun _ _=>ZO (z:=nz))|apply dqY (hi:=rfl) (hd:=rfl) (hw:=rfl) (h:=fun _ _=>YK (z:=nz)))
    refine dnQ ?_
    refine AAny.text rfl ?_
    refine goD ?_
    exact AWP.ret (rets rfl (.refl _) (.refl _) ⟨by rw [decide_eq_false hne] <;> rfl,rfl⟩)
   ·have hxy':x=y:=Classical.not_not.1 hxy
    refine goD ?_
    refine AWP.any rfl ?_
    apply AAny.segQ (k':=8) (hok:=by decide +kernel)
    repeat (first|apply dsY (hi:=rfl) (hs:=rfl)|apply dqY (hi:=rfl) (hd:=rfl) (hw:=rfl) (h:=fun _ _=>ZD (z:=nz))|apply dqY (hi:=rfl) (hd:=rfl) (hw:=rfl) (h:=fun _ _=>ZF (z:=nz))|apply dqY (hi:=rfl) (hd:=rfl) (hw:=rfl) (h:=fun _ _=>ZC (z:=nz))|apply dqY (hi:=rfl) (hd:=rfl) (hw:=rfl) (h:=fun _ _=>ZJ (z:=nz))|apply dqY (hi:=rfl) (hd:=rfl) (hw:=rfl) (h:=fun _ _=>ZK (z:=nz))|apply dqY (hi:=rfl) (hd:=rfl) (hw:=rfl) (h:=fun _ _=>ZM (z:=nz))|apply dqY (hi:=rfl) (hd:=rfl) (hw:=rfl) (h:=fun _ _=>ZN (z:=nz))|apply dqY (hi:=rfl) (hd:=rfl) (hw:=rfl) (h:=fun _ _=>ZH (z:=nz))|apply dqY (hi:=rfl) (hd:=rfl) (hw:=rfl) (h:=fun _ _=>ZQ (z:=nz))|apply dqY (hi:=rfl) (hd:=rfl) (hw:=rfl) (h:=fun _ _=>ZP (z:=nz))|apply dqY (hi:=rfl) (hd:=rfl) (hw:=rfl) (h:=fun _ _=>ZO (z:=nz))|apply dqY (hi:=rfl) (hd:=rfl) (hw:=rfl) (h:=fun _ _=>YK (z:=nz)))
    refine dnQ ?_
    refine AAny.text rfl ?_
    refine goD ?_
    exact ⟨i + 1,⟨by omega,by rw [List.take_add_one,List.take_add_one,he,hx,hy,hxy']⟩,by omega,(tl3 rfl rfl rfl),.refl _⟩
  ·have hil:i=a.length:=by omega
   have heq:a=b:=by
    subst hil
    rw [List.take_of_length_le (Nat.le_refl _),List.take_of_length_le (by omega)] at he
    exact he
   refine goD ?_
   refine AWP.exit (blk_hit ?_)
   refine goD ?_
   exact AWP.ret (rets rfl (.refl _) (.refl _) ⟨by rw [decide_eq_true heq] <;> rfl,rfl⟩)
 ·have hl':((irs a).length:Int)≠(irs b).length:=by omega
  have hne:a≠b:=fun h=>by subst h; exact hl rfl
  refine goD ?_
  exact AWP.ret (rets rfl (.refl _) (.refl _) ⟨by rw [decide_eq_false hne] <;> rfl,rfl⟩)
set_option maxHeartbeats 4000000 in
theorem same_ok (a b:List (List Int)) (ha:MOk a) (hb:MOk b) (st:St):ACalls Tryz.prog 9 [memV a,memV b] st (fun v st'=>v=.bool (decide (a=b))∧st'=st) (fun _ _=>False):=by
 refine ACalls.ofBody Tryz.func9 rfl Tryz.ntmps9 rfl ?_
 unfold memV
 have la:=pgs_len a
 have lb:=pgs_len b
 have na:=ha.len
 by_cases hl:a.length=b.length
 ·have hl':¬ (((pgs a).length:Int)≠(pgs b).length):=by omega
  refine goD ?_
  refine AWP.loop (α:=Nat) (fun i=>[(5,.int .i64 (i:Int)),(3,.eptr 1 [[.view 2 (pgs b) .shared]] 0 0),(2,.eptr 1 [[.view 2 (pgs a) .shared]] 0 0)]) (fun _=>st) (fun i=>i≤a.length∧a.take i=b.take i) (fun i=>a.length - i) 0 ⟨Nat.zero_le _,rfl⟩ (tl3 rfl rfl rfl) (.refl _) ?_
  rintro i ⟨hi,he⟩
  refine AWP.weaken (T':=[(5,.int .i64 (i:Int)),(3,.eptr 1 [[.view 2 (pgs b) .shared]] 0 0),(2,.eptr 1 [[.view 2 (pgs a) .shared]] 0 0)]) (tl3 rfl rfl rfl) (.refl _) ?_
  by_cases hlt:i < a.length
  ·obtain ⟨x,hx⟩:∃ x,a[i]?=some x:=⟨_,List.getElem?_eq_getElem hlt⟩
   obtain ⟨y,hy⟩:∃ x,b[i]?=some x:=⟨_,List.getElem?_eq_getElem (by omega)⟩
   have hxr:=pgs_at hx
   have hyr:=pgs_at hy
   have hir:i < (pgs a).length:=by omega
   have hir2:i < (pgs b).length:=by omega
   have hq:¬ (((64 * i:Nat):Int)≠((64 * i:Nat):Int)):=fun h=>h rfl
   have hc:=ints_ok x y (by rw [ha.at hx]; decide) st
   refine goD ?_
   refine AWP.any rfl ?_
   apply AAny.segQ (k':=26) (hok:=by decide +kernel)
   repeat (first|apply dqY (v:=.bool true) (hi:=rfl) (hd:=rfl) (hw:=rfl) (h:=fun st1 hle=>sm rfl (nl ⟨_,rfl,congrArg AV.bool (by (fail_if_success rfl); first|assumption|exact decide_eq_true (by assumption)|exact decide_eq_false (by assumption)|exact decide_eq_true rfl|exact decide_eq_true (by omega)|exact decide_eq_false (by omega)),rfl⟩))|apply dqY (v:=.bool false) (hi:=rfl) (hd:=rfl) (hw:=rfl) (h:=fun st1 hle=>sm rfl (nl ⟨_,rfl,congrArg AV.bool (by (fail_if_success rfl); first|assumption|exact decide_eq_true (by assumption)|exact decide_eq_false (by assumption)|exact decide_eq_true rfl|exact decide_eq_true (by omega)|exact decide_eq_false (by omega)),rfl⟩))|apply dsY (hi:=rfl) (hs:=rfl)|apply dqY (hi:=rfl) (hd:=rfl) (hw:=rfl) (h:=fun _ _=>ZD (z:=nz))|apply dqY (hi:=rfl) (hd:=rfl) (hw:=rfl) (h:=fun _ _=>ZF (z:=nz))|apply dqY (hi:=rfl) (hd:=rfl) (hw:=rfl) (h:=fun _ _=>ZC (z:=nz))|apply dqY (hi:=rfl) (hd:=rfl) (hw:=rfl) (h:=fun _ _=>ZJ (z:=nz))|apply dqY (hi:=rfl) (hd:=rfl) (hw:=rfl) (h:=fun _ _=>ZK (z:=nz))|apply dqY (hi:=rfl) (hd:=rfl) (hw:=rfl) (h:=fun _ _=>ZM (z:=nz))|apply dqY (hi:=rfl) (hd:=rfl) (hw:=rfl) (h:=fun _ _=>ZN (z:=nz))|apply dqY (hi:=rfl) (hd:=rfl) (hw:=rfl) (h:=fun _ _=>ZH (z:=nz))|apply dqY (hi:=rfl) (hd:=rfl) (hw:=rfl) (h:=fun _ _=>ZQ (z:=nz))|apply dqY (hi:=rfl) (hd:=rfl) (hw:=rfl) (h:=fun _ _=>ZP (z:=nz))|apply dqY (hi:=rfl) (hd:=rfl) (hw:=rfl) (h:=fun _ _=>ZO (z:=nz))|apply dqY (hi:=rfl) (hd:=rfl) (hw:=rfl) (h:=fun _ _=>YK (z:=nz)))
   refine dnQ ?_
   refine AAny.text rfl ?_
   refine goD ?_
   refine cle rfl rfl hc ?_
   by_cases hxy:x=y
   ·rw [decide_eq_true hxy]
    refine goD ?_
    exact ⟨i + 1,⟨by omega,by rw [List.take_add_one,List.take_add_one,he,hx,hy,hxy]⟩,by omega,(tl3 rfl rfl rfl),.refl _⟩
   ·have hne:a≠b:=fun h=>by subst h; rw [hx] at hy; cases hy; exact hxy rfl
    rw [decide_eq_false hxy]
    refine goD ?_
    exact AWP.ret (rets rfl (.refl _) (.refl _) ⟨by rw [decide_eq_false hne] <;> rfl,rfl⟩)
  ·have hil:i=a.length:=by omega
   have heq:a=b:=by
    subst hil
    rw [List.take_of_length_le (Nat.le_refl _),List.take_of_length_le (by omega)] at he
    exact he
   refine goD ?_
   refine AWP.exit (blk_hit ?_)
   refine goD ?_
   exact AWP.ret (rets rfl (.refl _) (.refl _) ⟨by rw [decide_eq_true heq] <;> rfl,rfl⟩)
 ·have hl':((pgs a).length:Int)≠(pgs b).length:=by omega
  have hne:a≠b:=fun h=>by subst h; exact hl rfl
  refine goD ?_
  exact AWP.ret (rets rfl (.refl _) (.refl _) ⟨by rw [decide_eq_false hne] <;> rfl,rfl⟩)
end Go.Proofs
namespace Go.Proofs
open Go.AM
attribute [local irreducible] AWP AOps ACalls AAny
set_option linter.unusedSimpArgs false

def mrow (i:Nat) (o:Nat):List AV:=[.int .i64 ((64 * i:Nat):Int),.msl o 1 0 64]
def mrs (os:List Nat):List (List AV):=os.mapIdx mrow
theorem mrs_len (os:List Nat):(mrs os).length=os.length:=List.length_mapIdx ..
theorem mrs_at {os:List Nat} {i o:Nat} (h:os[i]?=some o):(mrs os)[i]?=some [.int .i64 ((64 * i:Nat):Int),.msl o 1 0 64]:=by unfold mrs; rw [List.getElem?_mapIdx,h]; rfl
theorem mrs_snoc (os:List Nat) (o:Nat):mrs (os++[o])=mrs os++[[.int .i64 ((64 * os.length:Nat):Int),.msl o 1 0 64]]:=by unfold mrs; rw [List.mapIdx_append]; simp [mrow]
structure Fam (st:St) (os:List Nat) (ws:List (List Int)):Prop where
 obj:∀ (i:Nat) o w,os[i]?=some o→ws[i]?=some w→st.obj o=some (.cells 3 1 (irs w))
 nd:os.Nodup
 len:os.length=ws.length
theorem irs_clean (l:List Int):∀ r ∈ irs l,∀ c ∈ r,AX.Clean c:=by
 intro r hr c hc
 unfold irs at hr
 rw [List.mem_map] at hr
 obtain ⟨x,_,rfl⟩:=hr
 rw [List.mem_singleton] at hc
 rw [hc]
 exact .int _ _
theorem memV_clean (ws:List (List Int)):AX.Clean (memV ws):=by
 refine .agg _ fun c hc=>?_
 rw [List.mem_singleton] at hc
 rw [hc]
 refine .view _ _ _ (fun k e h=>by cases h) fun r hr c hc=>?_
 obtain ⟨i,hi,rfl⟩:=List.getElem_of_mem hr
 have hiw:i < ws.length:=by rw [← pgs_len ws]; exact hi
 have h1:=pgs_at (List.getElem?_eq_getElem hiw)
 rw [List.getElem?_eq_getElem hi] at h1
 rw [Option.some.inj h1] at hc
 simp only [List.mem_cons,List.not_mem_nil,or_false] at hc
 rcases hc with rfl|rfl
 ·exact .int _ _
 ·exact .view _ _ _ (fun k e h=>by cases h) (irs_clean _)
theorem frz_page {st:St} {o:Nat} {w:List Int} (h:st.obj o=some (.cells 3 1 (irs w))) (h64:w.length=64):AX.Frz st (.msl o 1 0 64) (.view 1 (irs w) .shared):=by
 refine .msl _ _ _ _ _ (irs w) (irs w) h (by rw [irs_len,h64]) (by rw [irs_len,h64]; decide) (fun i r r' h1 h2=>?_) fun i j r r' c d h1 h2 h3 h4=>?_
 ·rw [Nat.zero_add,h2] at h1; cases h1; rfl
 ·rw [Nat.zero_add,h2] at h1; cases h1
  rw [h3] at h4; cases h4
  exact .clean _ (irs_clean w r (List.mem_of_getElem? h2) c (List.mem_of_getElem? h3))
theorem Fam.frz {st:St} {os:List Nat} {ws:List (List Int)} (h:Fam st os ws) (hM:∀ w ∈ ws,w.length=64) {t:Tok} (ht:t=.shared):AX.Frz st (.agg [.view 2 (mrs os) t]) (memV ws):=by
 subst ht
 refine .agg _ _ rfl fun i c d h1 h2=>?_
 match i,h1,h2 with
 | i + 1,h1,_=>simp at h1
 | 0,h1,h2 =>
  cases h1; cases h2
  have hl:=h.len
  have key:∀ (i:Nat) r r',(mrs os)[i]?=some r→(pgs ws)[i]?=some r'→∃ o w,os[i]?=some o∧ws[i]?=some w∧r=[.int .i64 ((64 * i:Nat):Int),.msl o 1 0 64]∧r'=[.int .i64 ((64 * i:Nat):Int),.view 1 (irs w) .shared]:=by
   intro i r r' h1 h2
   have hi:i < os.length:=by rw [← mrs_len os]; exact (List.getElem?_eq_some_iff.1 h1).1
   have e1:=mrs_at (List.getElem?_eq_getElem hi)
   have e2:=pgs_at (ws:=ws) (List.getElem?_eq_getElem (show i < ws.length by omega))
   rw [h1] at e1
   rw [h2] at e2
   exact ⟨_,_,List.getElem?_eq_getElem hi,List.getElem?_eq_getElem (by omega),Option.some.inj e1,Option.some.inj e2⟩
  refine .view _ _ _ _ (fun k e h=>by cases h) (by rw [mrs_len,pgs_len,hl]) (fun i r r' h1 h2=>?_) fun i j r r' c d h1 h2 h3 h4=>?_
  ·obtain ⟨o,w,_,_,rfl,rfl⟩:=key i r r' h1 h2
   rfl
  ·obtain ⟨o,w,ho,hw,rfl,rfl⟩:=key i r r' h1 h2
   match j,h3,h4 with
   | 0,h3,h4=>cases h3; cases h4; exact .clean _ (.int _ _)
   | 1,h3,h4=>cases h3; cases h4; exact frz_page (h.obj i o w ho hw) (hM w (List.mem_of_getElem? hw))
   | j + 2,h3,_=>simp at h3
def pgOf (words:List Int) (i:Nat):List Int:=(words.drop (64 * i)).take 64++List.replicate (64 - ((words.drop (64 * i)).take 64).length) 0
def chs (words:List Int):List (List Int):=(List.range ((words.length + 63) / 64)).map (pgOf words)
theorem pgOf_len (words:List Int) (i:Nat):(pgOf words i).length=64:=by
 unfold pgOf
 simp only [List.length_append,List.length_take,List.length_drop,List.length_replicate]
 omega
theorem chs_len (words:List Int):(chs words).length=(words.length + 63) / 64:=by unfold chs; simp
theorem chs_at (words:List Int) (i:Nat) (h:i < (words.length + 63) / 64):(chs words)[i]?=some (pgOf words i):=by
 unfold chs
 rw [List.getElem?_map,List.getElem?_range h]
 rfl
theorem chs_ok (words:List Int) (h:words.length≤300):MOk (chs words):=by
 refine ⟨by rw [chs_len]; omega,fun w hw=>?_⟩
 unfold chs at hw
 rw [List.mem_map] at hw
 obtain ⟨i,_,rfl⟩:=hw
 exact pgOf_len _ _
theorem Fam.snoc {s s':St} {os:List Nat} {ws:List (List Int)} {i o:Nat} {w:List Int} (h:Fam s os (ws.take i)) (hw:ws[i]?=some w) (hi:os.length=i) (ho:s.obj o=none) (hs:s'.obj o=some (.cells 3 1 (irs w))) (hk:∀ p,p≠o→∀ c,s.obj p=some c→p ∈ os→s'.obj p=some c):Fam s' (os++[o]) (ws.take (i + 1)):=by
 have hiw:=(List.getElem?_eq_some_iff.1 hw).1
 have hno:o ∉ os:=fun hm=>by
  obtain ⟨j,hj,rfl⟩:=List.getElem_of_mem hm
  have:=h.obj j _ _ (List.getElem?_eq_getElem hj) (List.getElem?_eq_getElem (by rw [← h.len]; exact hj))
  rw [ho] at this
  cases this
 refine ⟨fun j p v hp hv=>?_,?_,?_⟩
 ·rw [List.getElem?_append] at hp
  have hj:j < i + 1:=by have:=(List.getElem?_eq_some_iff.1 hv).1; simp only [List.length_take] at this; omega
  rw [List.getElem?_take_of_lt hj] at hv
  by_cases hji:j < os.length
  ·rw [if_pos hji] at hp
   have hm:=List.mem_of_getElem? hp
   exact hk p (fun e=>hno (e ▸ hm)) _ (h.obj j p v hp (by rw [List.getElem?_take_of_lt (by omega)]; exact hv)) hm
  ·rw [if_neg hji] at hp
   have:j=i:=by omega
   subst this
   rw [hi,Nat.sub_self] at hp
   cases hp
   rw [hw] at hv
   cases hv
   exact hs
 ·rw [List.nodup_append]
  refine ⟨h.nd,by simp,fun a ha b hb=>?_⟩
  rw [List.mem_singleton] at hb
  subst hb
  exact fun e=>hno (e ▸ ha)
 ·simp only [List.length_append,List.length_cons,List.length_nil,List.length_take]
  omega
theorem otk_obj (st:St) (o:Option Nat):(ountok st o).obj=st.obj:=by cases o <;> rfl
def st0:St:={ obj:=fun _=>none,tok:=fun _=>false,glob:=[] }
end Go.Proofs
namespace Go.Proofs
open Go.AM
attribute [local irreducible] AWP AOps ACalls AAny
set_option linter.unusedSimpArgs false

structure LpOf where
 s:St
 i:Nat
 os:List Nat
 ot:Option Nat
structure OfI (words:List Int) (o2 o3:Nat) (y:LpOf):Prop where
 i:y.i≤(words.length + 63) / 64
 o2:y.s.obj o2=some (.cells 30 1 [[.view 0 [] .nil]])
 o3:y.s.obj o3=some (.cells 30 1 [[oslot 2 (mrs y.os) 82 y.ot]])
 fam:Fam y.s y.os ((chs words).take y.i)
 nil:y.ot=none→y.os=[]
 tok:∀ tk,y.ot=some tk→y.s.tok tk=true
theorem OfI.oslen {words:List Int} {o2 o3:Nat} {y:LpOf} (h:OfI words o2 o3 y):y.os.length=y.i:=by
 have h1:=h.fam.len
 have h2:=h.i
 rw [List.length_take,chs_len] at h1
 omega
theorem pg_rows (words:List Int) (i k1:Nat) (hk:min ((irs words).drop (64 * i)).length 64=k1) :
  (List.replicate 64 [AV.int .i64 0]).take 0++((irs words).drop (64 * i)).take k1++(List.replicate 64 [AV.int .i64 0]).drop (0 + k1)=irs (pgOf words i):=by
 subst hk
 unfold irs pgOf
 have ht:∀ l:List Int,l.take (min l.length 64)=l.take 64:=fun l=>by
  rcases Nat.le_total l.length 64 with h|h
  ·rw [Nat.min_eq_left h,List.take_length,List.take_of_length_le h]
  ·rw [Nat.min_eq_right h]
 rw [← List.map_drop,List.length_map,List.take_zero,List.nil_append,List.map_append,List.map_replicate,List.drop_replicate,← List.map_take,ht,List.length_take]
 congr 2
 omega
theorem oslot_le {os:List Nat} {ot:Option Nat} (h:ot=none→os=[]):Le (.agg [oslot 2 (mrs os) 82 ot]) (.agg [.view 2 (mrs os) .shared]):=by
 refine .agg _ _ rfl (fun c hc=>by rw [List.mem_singleton] at hc; rw [hc]; rfl) fun i c d h1 h2=>?_
 match i,h1,h2 with
 | 0,h1,h2 =>
  cases h1; cases h2
  cases ot with
  | none=>rw [h rfl]; exact .nilShared _ _
  | some t=>exact .shared _ _ _
 | i + 1,h1,_=>simp at h1
set_option maxHeartbeats 4000000 in
theorem of_ok0 (words:List Int) (h:words.length≤300):ACalls Tryz.prog 5 [.view 1 (irs words) .shared] st0 (fun v st'=>∃ os,v=.agg [.view 2 (mrs os) .shared]∧Fam st' os (chs words)) (fun _ _=>False):=by
 refine ACalls.ofBody Tryz.func5 rfl Tryz.ntmps5 rfl ?_
 have hl:=irs_len words
 refine goC ?_
 refine rg ?_
 refine al rfl rfl fun o2 h2=>?_
 refine goD ?_
 refine al rfl rfl fun o3 h3=>?_
 have h32:o3≠o2:=fun e=>by rw [e,St.obj_set] at h3; cases h3
 refine goD ?_
 refine AWP.loop (α:=LpOf) (fun y=>[(4,.int .i64 ((64 * y.i:Nat):Int)),(3,.cptr o3 1 0 0),(2,.cptr o2 1 0 0),(0,.view 1 (irs words) .shared)]) (fun y=>y.s) (OfI words o2 o3) (fun y=>(words.length + 63) / 64 - y.i)
  ⟨((st0.set o2 (.cells 30 1 [[.view 0 [] .nil]])).set o3 (.cells 30 1 [[.view 0 [] .nil]])),0,[],none⟩ ⟨Nat.zero_le _,by rw [St.obj_set_ne h32.symm]; exact St.obj_set _ _ _,St.obj_set _ _ _,⟨fun i o w h=>by simp at h,List.nodup_nil,by simp⟩,fun _=>rfl,fun _ h=>by cases h⟩ (tl4 rfl rfl rfl rfl) (.refl _) ?_
 rintro ⟨s,i,os,ot⟩ I
 have hos:=I.oslen
 simp only at hos
 refine AWP.weaken (T':=[(4,.int .i64 ((64 * i:Nat):Int)),(3,.cptr o3 1 0 0),(2,.cptr o2 1 0 0),(0,.view 1 (irs words) .shared)]) (tl4 rfl rfl rfl rfl) (.refl _) ?_
 by_cases hlt:64 * i < words.length
 ·have hin:i < (words.length + 63) / 64:=by omega
  have hpg:=chs_at words i hin
  have hlt':((64 * i:Nat):Int) < ((irs words).length:Int):=by omega
  refine goD ?_
  refine mk (len:=64) (cap:=64) rfl rfl rfl rfl (Nat.le_refl _) (by decide) (by decide) fun o ho=>?_
  refine goD ?_
  refine svl (a:=64 * i) rfl rfl rfl (by omega) ?_
  refine cpm (oty:=3) (k1:=min ((irs words).drop (64 * i)).length 64) rfl rfl rfl (St.obj_set _ _ _) (by rw [List.length_replicate]; decide) rfl ?_
  rw [St.set_set]
  have hpr:(List.replicate 64 (zrow (.int .i64 0))).take 0++((irs words).drop (64 * i)).take (min ((irs words).drop (64 * i)).length 64)++(List.replicate 64 (zrow (.int .i64 0))).drop (0 + min ((irs words).drop (64 * i)).length 64)=irs (pgOf words i):=pg_rows words i _ rfl
  rw [hpr]
  obtain ⟨s1,hs1⟩:∃ s1:St,s1=s.set o (.cells 3 1 (irs (pgOf words i))):=⟨_,rfl⟩
  have hs1':(LpOf.mk s i os ot).s.set o (.cells 3 1 (irs (pgOf words i)))=s1:=hs1.symm
  rw [hs1']
  have ho':s.obj o=none:=ho
  have h1o:s1.obj o=some (.cells 3 1 (irs (pgOf words i))):=by rw [hs1]; exact St.obj_set _ _ _
  have hI3:s.obj o3=_:=I.o3
  have hI2:s.obj o2=_:=I.o2
  have ne3:o3≠o:=fun e=>by rw [e,ho'] at hI3; cases hI3
  have ne2:o2≠o:=fun e=>by rw [e,ho'] at hI2; cases hI2
  have k3:s1.obj o3=some (.cells 30 1 [[oslot 2 (mrs os) 82 ot]]):=by rw [hs1,St.obj_set_ne ne3]; exact hI3
  have k2:s1.obj o2=some (.cells 30 1 [[.view 0 [] .nil]]):=by rw [hs1,St.obj_set_ne ne2]; exact hI2
  have kt:∀ tk,ot=some tk→s1.tok tk=true:=fun tk h=>by rw [hs1]; exact I.tok tk h
  have hlo:(mrs os).length≤5:=by rw [mrs_len,hos]; omega
  refine goD ?_
  have hnl:ot=none→mrs os=[]:=fun h=>by rw [show os=[] from I.nil h]; rfl
  refine bds (cs:=[.int .i64 ((64 * i:Nat):Int),.msl o 1 0 64]) rfl rfl rfl rfl ?_
  refine goD ?_
  refine apo (rows:=mrs os) (ot:=ot) (rows2:=[[.int .i64 ((64 * i:Nat):Int),.msl o 1 0 64]]) rfl rfl rfl hnl kt rfl (by simp only [List.length_cons,List.length_nil]; omega) (by simp only [List.length_cons,List.length_nil,maxLen]; omega) fun tk' htk'=>?_
  refine goD ?_
  have k3':((ountok s1 ot).addTok tk').obj o3=some (.cells 30 1 [[oslot 2 (mrs os) 82 ot]]):=by show (ountok s1 ot).obj o3=_; rw [otk_obj]; exact k3
  refine so (rows':=[[.view 2 (mrs (os++[o])) (.own tk' 82)]]) rfl rfl rfl k3' rfl rfl rfl rfl (by rw [mrs_snoc,hos]; rfl) ?_
  refine goD ?_
  have hobj:∀ p,p≠o3→(((ountok s1 ot).addTok tk').set o3 (.cells 30 1 [[.view 2 (mrs (os++[o])) (.own tk' 82)]])).obj p=s1.obj p:=fun p hp=>by rw [St.obj_set_ne hp]; show (ountok s1 ot).obj p=_; rw [otk_obj]
  have hno3:o3 ∉ os:=fun hm=>by
   obtain ⟨j,hj,e⟩:=List.getElem_of_mem hm
   have:=I.fam.obj j o3 (pgOf words j) (by rw [← e]; exact List.getElem?_eq_getElem hj) (by rw [List.getElem?_take_of_lt (by show j < i; omega)]; exact chs_at words j (by omega))
   rw [hI3] at this
   cases hot:ot <;> rw [hot] at this <;> cases this
  refine Go.AM.ad rfl rfl rfl (by omega) ?_
  rw [show ((64 * i:Nat):Int) + 64=((64 * (i + 1):Nat):Int) by omega]
  refine goD ?_
  refine ⟨⟨_,i + 1,os++[o],some tk'⟩,⟨by show i + 1≤_; omega,?_,St.obj_set _ _ _,?_,(fun h=>by cases h),fun tk h=>?_⟩,by show _ - (i + 1) < _ - i; omega,(tl4 rfl rfl rfl rfl),.refl _⟩
  ·show (((ountok s1 ot).addTok tk').set o3 _).obj o2=_
   rw [hobj o2 h32.symm]
   exact k2
  ·refine I.fam.snoc hpg hos ho' ?_ fun p hp c hc hm=>?_
   ·show (((ountok s1 ot).addTok tk').set o3 _).obj o=_
    rw [hobj o ne3.symm]
    exact h1o
   ·show (((ountok s1 ot).addTok tk').set o3 _).obj p=_
    rw [hobj p (fun e=>hno3 (e ▸ hm)),hs1,St.obj_set_ne hp]
    exact hc
  ·cases h
   exact St.tok_addTok _ _
 ·have hin:i=(words.length + 63) / 64:=by have:i≤_:=I.i; omega
  have hge:¬ ((64 * i:Nat):Int) < ((irs words).length:Int):=by omega
  have hI3:s.obj o3=_:=I.o3
  have hI2:s.obj o2=_:=I.o2
  refine goD ?_
  refine AWP.exit (blk_hit ?_)
  refine goD ?_
  refine so (rows':=[[oslot 2 (mrs os) 82 ot]]) rfl rfl rfl hI2 rfl (by cases ot <;> rfl) rfl rfl rfl ?_
  refine goD ?_
  subst hin
  have hf:=I.fam
  simp only at hf
  rw [List.take_of_length_le (by rw [chs_len]; omega)] at hf
  refine AWP.ret (rets (resCW rfl (St.obj_set _ _ _) rfl rfl rfl rfl) (oslot_le I.nil) (.refl _) ⟨os,rfl,⟨fun j o w h1 h2=>?_,hf.nd,hf.len⟩⟩)
  have hj:=hf.obj j o w h1 h2
  rw [St.obj_set_ne (fun e=>by rw [e,hI2] at hj; cases hj)]
  exact hj
theorem of_ok (words:List Int) (h:words.length≤300) (st:St):ACalls Tryz.prog 5 [.view 1 (irs words) .shared] st (fun v st'=>v=memV (chs words)∧st'=st) (fun _ _=>False):=by
 refine AX.pure_call (gl:=[]) (by simp) (by simp) (fun v hv=>?_) (of_ok0 words h) fun v st' ⟨os,hv,hf⟩=>⟨_,hv ▸ hf.frz (chs_ok words h).each rfl,rfl⟩
 rw [List.mem_singleton] at hv
 rw [hv]
 exact .view _ _ _ (fun k e h=>by cases h) (irs_clean _)
end Go.Proofs
namespace Go.Proofs
open Go.AM
attribute [local irreducible] AWP AOps ACalls AAny
set_option linter.unusedSimpArgs false

structure CpI (st:St) (ws:List (List Int)) (o2 o3:Nat) (y:LpOf):Prop where
 i:y.i≤ws.length
 o2:y.s.obj o2=some (.cells 30 1 [[.view 0 [] .nil]])
 o3:y.s.obj o3=some (.cells 30 1 [[oslot 2 (mrs y.os) 82 y.ot]])
 fam:Fam y.s y.os (ws.take y.i)
 nil:y.ot=none→y.os=[]
 tok:∀ tk,y.ot=some tk→y.s.tok tk=true
 fr:∀ p c,st.obj p=some c→y.s.obj p=some c
 new:∀ o ∈ y.os,st.obj o=none
 gl:y.s.glob=st.glob
theorem CpI.oslen {st:St} {ws:List (List Int)} {o2 o3:Nat} {y:LpOf} (h:CpI st ws o2 o3 y):y.os.length=y.i:=by
 have h1:=h.fam.len
 have h2:=h.i
 rw [List.length_take] at h1
 omega
def JC (st:St) (B:Int) (C:AObj):List (Option AV)→St→Prop
 | [none,b,c],s=>s=st∧b=none∧c=none
 | [some v,b,c],s=>∃ o',v=.msl o' 1 0 64∧st.obj o'=none∧s=st.set o' C∧(∀ x,b=some x→x=.agg [.int .i64 B,.msl o' 1 0 64])∧(∀ x,c=some x→x=.view 2 [[.int .i64 B,.msl o' 1 0 64]] .shared)
 | _,_=>False
theorem vs3 {vs:List (Option AV)} {a b c:Bool} (h:vs.map Option.isSome=[a,b,c]):∃ x y z,vs=[x,y,z]∧x.isSome=a∧y.isSome=b∧z.isSome=c:=by
 match vs,h with
 | [x,y,z],h=>simp at h; exact ⟨x,y,z,rfl,h.1,h.2.1,h.2.2⟩
 | [],h=>simp at h
 | [_],h=>simp at h
 | [_,_],h=>simp at h
 | _::_::_::_::_,h=>simp at h
theorem none_of {x:Option AV} (h:x.isSome=false):x=none:=by cases x <;> simp_all
set_option maxHeartbeats 8000000 in
theorem copy_ok (ws:List (List Int)) (hM:MOk ws) (st:St):ACalls Tryz.prog 17 [memV ws] st (fun v st'=>∃ os,v=.agg [.view 2 (mrs os) .shared]∧Fam st' os ws∧(∀ p c,st.obj p=some c→st'.obj p=some c)∧(∀ o ∈ os,st.obj o=none)∧st'.glob=st.glob) (fun _ _=>False):=by
 refine ACalls.ofBody Tryz.func17 rfl Tryz.ntmps17 rfl ?_
 have hl:=pgs_len ws
 have hn:=hM.len
 unfold memV
 refine goC ?_
 refine rg ?_
 refine goE ?_
 refine al rfl rfl fun o2 h2=>?_
 refine goD ?_
 refine al rfl rfl fun o3 h3=>?_
 have h32:o3≠o2:=fun e=>by rw [e,St.obj_set] at h3; cases h3
 have h3':st.obj o3=none:=by rw [St.obj_set_ne h32] at h3; exact h3
 refine goD ?_
 refine AWP.loop (α:=LpOf) (fun y=>[(4,.int .i64 (y.i:Int)),(3,.cptr o3 1 0 0),(2,.cptr o2 1 0 0),(1,.eptr 1 [[.view 2 (pgs ws) .shared]] 0 0)]) (fun y=>y.s) (CpI st ws o2 o3) (fun y=>ws.length - y.i)
  ⟨((st.set o2 (.cells 30 1 [[.view 0 [] .nil]])).set o3 (.cells 30 1 [[.view 0 [] .nil]])),0,[],none⟩ ⟨Nat.zero_le _,by rw [St.obj_set_ne h32.symm]; exact St.obj_set _ _ _,St.obj_set _ _ _,⟨fun i o w h=>by simp at h,List.nodup_nil,by simp⟩,fun _=>rfl,(fun _ h=>by cases h),fun p c hp=>?_,(fun o h=>by simp at h),rfl⟩ (tl4 rfl rfl rfl rfl) (.refl _) ?_
 ·exact St.obj_new h3 (St.obj_new h2 hp)
 rintro ⟨s,i,os,ot⟩ I
 have hos:=I.oslen
 simp only at hos
 refine AWP.weaken (T':=[(4,.int .i64 (i:Int)),(3,.cptr o3 1 0 0),(2,.cptr o2 1 0 0),(1,.eptr 1 [[.view 2 (pgs ws) .shared]] 0 0)]) (tl4 rfl rfl rfl rfl) (.refl _) ?_
 by_cases hlt:i < ws.length
 ·obtain ⟨w,hw⟩:∃ w,ws[i]?=some w:=⟨_,List.getElem?_eq_getElem hlt⟩
  have hr:=pgs_at hw
  have hw64:=hM.at hw
  have hwl:=irs_len w
  have hir:i < (pgs ws).length:=by omega
  have hne:irs w≠[]:=fun e=>by rw [e] at hwl; simp at hwl; omega
  have hI3:s.obj o3=some (.cells 30 1 [[oslot 2 (mrs os) 82 ot]]):=I.o3
  have hI2:s.obj o2=_:=I.o2
  refine goD ?_
  refine AWP.any rfl ?_
  show AAny _ _ _ _ _ _ _ s
  apply AAny.segW (k':=18) (Es:=[15,16,17]) (J:=JC s ((64 * i:Nat):Int) (.cells 3 1 (irs w))) (base:=s) (hok:=by decide +kernel) (hJ:=⟨rfl,rfl,rfl⟩) (hb:=.refl _)
  repeat (first|apply dsV (hi:=rfl) (hs:=rfl)|apply dqV (hi:=rfl) (hd:=rfl) (hw:=rfl) (h:=fun _ _=>bs0 (z:=nz))|apply dqV (hi:=rfl) (hd:=rfl) (hw:=rfl) (h:=fun _ _=>ZD (z:=nz))|apply dqV (hi:=rfl) (hd:=rfl) (hw:=rfl) (h:=fun _ _=>ZF (z:=nz))|apply dqV (hi:=rfl) (hd:=rfl) (hw:=rfl) (h:=fun _ _=>ZC (z:=nz))|apply dqV (hi:=rfl) (hd:=rfl) (hw:=rfl) (h:=fun _ _=>ZJ (z:=nz))|apply dqV (hi:=rfl) (hd:=rfl) (hw:=rfl) (h:=fun _ _=>ZK (z:=nz))|apply dqV (hi:=rfl) (hd:=rfl) (hw:=rfl) (h:=fun _ _=>ZM (z:=nz))|apply dqV (hi:=rfl) (hd:=rfl) (hw:=rfl) (h:=fun _ _=>ZN (z:=nz))|apply dqV (hi:=rfl) (hd:=rfl) (hw:=rfl) (h:=fun _ _=>ZH (z:=nz))|apply dqV (hi:=rfl) (hd:=rfl) (hw:=rfl) (h:=fun _ _=>ZQ (z:=nz))|apply dqV (hi:=rfl) (hd:=rfl) (hw:=rfl) (h:=fun _ _=>ZP (z:=nz))|apply dqV (hi:=rfl) (hd:=rfl) (hw:=rfl) (h:=fun _ _=>ZO (z:=nz))|apply dqV (hi:=rfl) (hd:=rfl) (hw:=rfl) (h:=fun _ _=>YK (z:=nz)))
  apply deV (Q:=fun v=>∃ o,v=.msl o 1 0 64) (L:=[[false,false,false]]) (hL:=rfl) (hd:=rfl) (hw:=rfl) (hex:=⟨_,0,rfl⟩) (h:=by
   refine ⟨?_,trivial⟩
   intro vs hvs hlk s1 hJ hb
   obtain ⟨v1,v2,v3,rfl,e1,e2,e3⟩:=vs3 hvs
   obtain rfl:=none_of e1
   obtain rfl:=none_of e2
   obtain rfl:=none_of e3
   obtain rfl:s1=s:=hJ.1
   refine apfM rfl rfl rfl hne rfl (by rw [hwl,hw64]; decide) (by rw [hwl,hw64]; decide) fun o' ho'=>?_
   rw [hwl,hw64]
   exact nl ⟨_,rfl,⟨o',rfl⟩,⟨o',rfl,ho',rfl,(fun x hx=>by cases hx),(fun x hx=>by cases hx)⟩,StLe.new ho' (.refl _)⟩)
  rintro v ⟨oA,rfl⟩
  apply deV (Q:=fun v=>∃ o,v=.agg [.int .i64 ((64 * i:Nat):Int),.msl o 1 0 64]) (L:=[[true,false,false]]) (hL:=rfl) (hd:=rfl) (hw:=rfl) (hex:=⟨_,0,rfl⟩) (h:=by
   refine ⟨?_,trivial⟩
   intro vs hvs hlk s1 hJ hb
   obtain ⟨v1,v2,v3,rfl,e1,e2,e3⟩:=vs3 hvs
   obtain rfl:=none_of e2
   obtain rfl:=none_of e3
   cases v1 with
   | none=>cases e1
   | some v1 =>
    have ev1:v1=.msl oA 1 0 64:=hlk (15,some v1) (.head _) (Nat.le_of_ble_eq_true rfl) v1 rfl
    subst ev1
    obtain ⟨o7,h7,h8,rfl,h9,h10⟩:=hJ
    cases h7
    exact bds (cs:=[.int .i64 ((64 * i:Nat):Int),.msl oA 1 0 64]) rfl rfl rfl rfl (nl ⟨_,rfl,⟨oA,rfl⟩,⟨oA,rfl,h8,rfl,(fun x hx=>by cases hx; rfl),(fun x hx=>by cases hx)⟩,StLe.new h8 (.refl _)⟩))
  rintro v ⟨oB,rfl⟩
  apply deV (Q:=fun v=>∃ o,v=.view 2 [[.int .i64 ((64 * i:Nat):Int),.msl o 1 0 64]] .shared) (L:=[[true,true,false]]) (hL:=rfl) (hd:=rfl) (hw:=rfl) (hex:=⟨_,0,rfl⟩) (h:=by
   refine ⟨?_,trivial⟩
   intro vs hvs hlk s1 hJ hb
   obtain ⟨v1,v2,v3,rfl,e1,e2,e3⟩:=vs3 hvs
   obtain rfl:=none_of e3
   cases v1 with
   | none=>cases e1
   | some v1 =>
    cases v2 with
    | none=>cases e2
    | some v2 =>
     have ev1:v1=.msl oA 1 0 64:=hlk (15,some v1) (.head _) (Nat.le_of_ble_eq_true rfl) v1 rfl
     have ev2:v2=.agg [.int .i64 ((64 * i:Nat):Int),.msl oB 1 0 64]:=hlk (16,some v2) (.tail _ (.head _)) (Nat.le_of_ble_eq_true rfl) v2 rfl
     subst ev1 ev2
     obtain ⟨o7,h7,h8,rfl,h9,h10⟩:=hJ
     cases h7
     cases h9 _ rfl
     exact bs1 (v:=.agg [.int .i64 ((64 * i:Nat):Int),.msl oA 1 0 64]) rfl rfl rfl rfl rfl rfl (nl ⟨_,rfl,⟨oA,rfl⟩,⟨oA,rfl,h8,rfl,(fun x hx=>by cases hx; rfl),(fun x hx=>by cases hx; rfl)⟩,StLe.new h8 (.refl _)⟩))
  rintro v ⟨oC,rfl⟩
  refine dnV fun s1 hs=>?_
  obtain ⟨o,h7,ho',rfl,h9,h10⟩:=hs
  cases h7
  cases h9 _ rfl
  cases h10 _ rfl
  refine AAny.text rfl ?_
  obtain ⟨s1,hs1⟩:∃ s1:St,s1=s.set oA (.cells 3 1 (irs w)):=⟨_,rfl⟩
  rw [← hs1]
  have h1o:s1.obj oA=some (.cells 3 1 (irs w)):=by rw [hs1]; exact St.obj_set _ _ _
  have ne3:o3≠oA:=fun e=>by rw [e,ho'] at hI3; cases hI3
  have ne2:o2≠oA:=fun e=>by rw [e,ho'] at hI2; cases hI2
  have k3:s1.obj o3=some (.cells 30 1 [[oslot 2 (mrs os) 82 ot]]):=by rw [hs1,St.obj_set_ne ne3]; exact hI3
  have k2:s1.obj o2=some (.cells 30 1 [[.view 0 [] .nil]]):=by rw [hs1,St.obj_set_ne ne2]; exact hI2
  have kt:∀ tk,ot=some tk→s1.tok tk=true:=fun tk h=>by rw [hs1]; exact I.tok tk h
  have hlo:(mrs os).length≤16:=by rw [mrs_len,hos]; omega
  have hnl:ot=none→mrs os=[]:=fun h=>by rw [show os=[] from I.nil h]; rfl
  refine apo (rows:=mrs os) (ot:=ot) (rows2:=[[.int .i64 ((64 * i:Nat):Int),.msl oA 1 0 64]]) rfl rfl rfl hnl kt rfl (by simp only [List.length_cons,List.length_nil]; omega) (by simp only [List.length_cons,List.length_nil,maxLen]; omega) fun tk' htk'=>?_
  refine goD ?_
  have k3':((ountok s1 ot).addTok tk').obj o3=some (.cells 30 1 [[oslot 2 (mrs os) 82 ot]]):=by show (ountok s1 ot).obj o3=_; rw [otk_obj]; exact k3
  refine so (rows':=[[.view 2 (mrs (os++[oA])) (.own tk' 82)]]) rfl rfl rfl k3' rfl rfl rfl rfl (by rw [mrs_snoc,hos]; rfl) ?_
  refine goD ?_
  have hobj:∀ p,p≠o3→(((ountok s1 ot).addTok tk').set o3 (.cells 30 1 [[.view 2 (mrs (os++[oA])) (.own tk' 82)]])).obj p=s1.obj p:=fun p hp=>by rw [St.obj_set_ne hp]; show (ountok s1 ot).obj p=_; rw [otk_obj]
  have hno3:o3 ∉ os:=fun hm=>by
   obtain ⟨j,hj,e⟩:=List.getElem_of_mem hm
   have:=I.fam.obj j o3 _ (by rw [← e]; exact List.getElem?_eq_getElem hj) (by rw [List.getElem?_take_of_lt (by show j < i; omega)]; exact List.getElem?_eq_getElem (show j < ws.length by omega))
   rw [hI3] at this
   cases hot:ot <;> rw [hot] at this <;> cases this
  refine ⟨⟨_,i + 1,os++[oA],some tk'⟩,⟨by show i + 1≤_; omega,?_,St.obj_set _ _ _,?_,(fun h=>by cases h),(fun tk h=>?_),(fun p c hp=>?_),(fun o ho=>?_),?_⟩,by show _ - (i + 1) < _ - i; omega,(tl4 rfl rfl rfl rfl),.refl _⟩
  ·show (((ountok s1 ot).addTok tk').set o3 _).obj o2=_
   rw [hobj o2 h32.symm]
   exact k2
  ·refine I.fam.snoc hw hos ho' ?_ fun p hp c hc hm=>?_
   ·show (((ountok s1 ot).addTok tk').set o3 _).obj oA=_
    rw [hobj oA ne3.symm]
    exact h1o
   ·show (((ountok s1 ot).addTok tk').set o3 _).obj p=_
    rw [hobj p (fun e=>hno3 (e ▸ hm)),hs1,St.obj_set_ne hp]
    exact hc
  ·cases h
   exact St.tok_addTok _ _
  ·have hpo3:p≠o3:=fun e=>by rw [e,h3'] at hp; cases hp
   have hps:=I.fr p c hp
   simp only at hps
   have hpA:p≠oA:=fun e=>by rw [e,ho'] at hps; cases hps
   show (((ountok s1 ot).addTok tk').set o3 _).obj p=_
   rw [hobj p hpo3,hs1,St.obj_set_ne hpA]
   exact hps
  ·rcases List.mem_append.1 ho with h|h
   ·exact I.new o h
   ·rw [List.mem_singleton] at h
    subst h
    cases hq:st.obj o with
    | none=>rfl
    | some c =>
     have:=I.fr o c hq
     simp only at this
     rw [ho'] at this
     cases this
  ·show (ountok s1 ot).glob=st.glob
   have:s1.glob=st.glob:=by rw [hs1]; exact I.gl
   cases ot <;> exact this
 ·have hin:i=ws.length:=by have:i≤_:=I.i; omega
  have hI3:s.obj o3=some (.cells 30 1 [[oslot 2 (mrs os) 82 ot]]):=I.o3
  have hI2:s.obj o2=_:=I.o2
  refine goD ?_
  refine AWP.exit (blk_hit ?_)
  refine goD ?_
  refine so (rows':=[[oslot 2 (mrs os) 82 ot]]) rfl rfl rfl hI2 rfl (by cases ot <;> rfl) rfl rfl rfl ?_
  refine goD ?_
  subst hin
  have hf:=I.fam
  simp only at hf
  rw [List.take_length] at hf
  have ho2:st.obj o2=none:=h2
  refine AWP.ret (rets (resCW rfl (St.obj_set _ _ _) rfl rfl rfl rfl) (oslot_le I.nil) (.refl _) ⟨os,rfl,⟨fun j o w h1 h2=>?_,hf.nd,hf.len⟩,fun p c hp=>?_,I.new,I.gl⟩)
  ·have hj:=hf.obj j o w h1 h2
   rw [St.obj_set_ne (fun e=>by rw [e,hI2] at hj; cases hj)]
   exact hj
  ·rw [St.obj_set_ne (fun e=>by rw [e,ho2] at hp; cases hp)]
   exact I.fr p c hp
end Go.Proofs
namespace Go.Proofs
open Go.AM
attribute [local irreducible] AWP AOps ACalls AAny
set_option linter.unusedSimpArgs false

def setw (ws:List (List Int)) (addr w:Int):List (List Int) :=
 if 0≤addr∧addr < 64 * (ws.length:Int) then ws.set (addr / 64).toNat ((ws.getD (addr / 64).toNat []).set (addr % 64).toNat w) else ws
theorem setw_ok {ws:List (List Int)} (h:MOk ws) (addr w:Int):MOk (setw ws addr w):=by
 unfold setw
 split
 ·refine ⟨by rw [List.length_set]; exact h.len,fun l hl=>?_⟩
  rcases List.mem_or_eq_of_mem_set hl with h1|h1
  ·exact h.each l h1
  ·rename_i hc
   rw [h1,List.length_set,List.getD_eq_getElem?_getD,List.getElem?_eq_getElem (by omega)]
   exact h.each _ (List.getElem_mem _)
 ·exact h
theorem irs_set (l:List Int) (i:Nat) (x:Int):(irs l).set i [.int .i64 x]=irs (l.set i x):=by unfold irs; rw [List.map_set]
theorem Fam.upd {st:St} {os:List Nat} {ws:List (List Int)} (h:Fam st os ws) {k o:Nat} {w':List Int} (ho:os[k]?=some o):Fam (st.set o (.cells 3 1 (irs w'))) os (ws.set k w'):=by
 refine ⟨fun i p w hp hw=>?_,h.nd,by rw [List.length_set]; exact h.len⟩
 by_cases e:i=k
 ·subst e
  rw [ho] at hp
  cases hp
  have hi:=(List.getElem?_eq_some_iff.1 hw).1
  rw [List.length_set] at hi
  rw [List.getElem?_set_self hi] at hw
  cases hw
  exact St.obj_set _ _ _
 ·rw [List.getElem?_set_ne (Ne.symm e)] at hw
  have hpo:p≠o:=fun e'=>by
   subst e'
   obtain ⟨h1,h2⟩:=List.getElem?_eq_some_iff.1 hp
   obtain ⟨h3,h4⟩:=List.getElem?_eq_some_iff.1 ho
   exact e ((List.getElem_inj h.nd).1 (h2.trans h4.symm))
  rw [St.obj_set_ne hpo]
  exact h.obj i p w hp hw
set_option maxHeartbeats 4000000 in
theorem with_ok0 (ws:List (List Int)) (hM:MOk ws) (addr w:Int) (ha:i64 addr):ACalls Tryz.prog 18 [memV ws,.int .i64 addr,.int .i64 w] st0 (fun v st'=>∃ os,v=.tuple [.agg [.view 2 (mrs os) .shared],.bool (decide (0≤addr∧addr < 64 * (ws.length:Int)))]∧Fam st' os (setw ws addr w)) (fun _ _=>False):=by
 refine ACalls.ofBody Tryz.func18 rfl Tryz.ntmps18 rfl ?_
 have hn:=hM.len
 obtain ⟨ha1,ha2⟩:=ha
 refine goC ?_
 refine rg ?_
 refine goE ?_
 refine al rfl rfl fun o6 h6=>?_
 refine goD ?_
 refine cl rfl rfl (copy_ok ws hM _) fun v st' ⟨os,hv,hf,hfr,hnew,hgl⟩=>?_
 subst hv
 have k6:st'.obj o6=some (.cells 30 1 [[.view 0 [] .nil]]):=hfr _ _ (St.obj_set _ _ _)
 have ne6:∀ o ∈ os,o≠o6:=fun o ho e=>by have:=hnew o ho; rw [e,St.obj_set] at this; cases this
 refine goD ?_
 refine cle rfl rfl (find_ok ws hM addr ⟨ha1,ha2⟩ _) ?_
 by_cases hin:0≤addr∧addr < 64 * (ws.length:Int)
 ·obtain ⟨k,hk⟩:∃ k:Nat,addr / 64=(k:Int):=⟨(addr / 64).toNat,by omega⟩
  obtain ⟨m,hm⟩:∃ m:Nat,addr % 64=(m:Int):=⟨(addr % 64).toNat,by omega⟩
  have hkl:k < ws.length:=by omega
  have hfn:fnd ws.length addr=(k:Int):=by unfold fnd; rw [if_pos hin,hk]
  rw [hfn]
  obtain ⟨wk,hwk⟩:∃ w,ws[k]?=some w:=⟨_,List.getElem?_eq_getElem hkl⟩
  obtain ⟨o,ho⟩:∃ o,os[k]?=some o:=⟨_,List.getElem?_eq_getElem (by rw [hf.len]; exact hkl)⟩
  have hob:=hf.obj k o wk ho hwk
  have hr:=mrs_at ho
  have hr2:=pgs_at hwk
  have hlen:=mrs_len os
  have hosl:=hf.len
  have hpl:=pgs_len ws
  have hi1:k < (mrs os).length:=by omega
  have hi2:k < (pgs ws).length:=by omega
  have hw64:=hM.at hwk
  have hwl:=irs_len wk
  refine goD ?_
  refine AWP.any rfl ?_
  apply AAny.segQ (k':=16) (hok:=by decide +kernel)
  repeat (first|apply dsY (hi:=rfl) (hs:=rfl)|apply dqY (hi:=rfl) (hd:=rfl) (hw:=rfl) (h:=fun _ _=>ZD (z:=nz))|apply dqY (hi:=rfl) (hd:=rfl) (hw:=rfl) (h:=fun _ _=>ZF (z:=nz))|apply dqY (hi:=rfl) (hd:=rfl) (hw:=rfl) (h:=fun _ _=>ZC (z:=nz))|apply dqY (hi:=rfl) (hd:=rfl) (hw:=rfl) (h:=fun _ _=>ZJ (z:=nz))|apply dqY (hi:=rfl) (hd:=rfl) (hw:=rfl) (h:=fun _ _=>ZK (z:=nz))|apply dqY (hi:=rfl) (hd:=rfl) (hw:=rfl) (h:=fun _ _=>ZM (z:=nz))|apply dqY (hi:=rfl) (hd:=rfl) (hw:=rfl) (h:=fun _ _=>ZN (z:=nz))|apply dqY (hi:=rfl) (hd:=rfl) (hw:=rfl) (h:=fun _ _=>ZH (z:=nz))|apply dqY (hi:=rfl) (hd:=rfl) (hw:=rfl) (h:=fun _ _=>ZQ (z:=nz))|apply dqY (hi:=rfl) (hd:=rfl) (hw:=rfl) (h:=fun _ _=>ZP (z:=nz))|apply dqY (hi:=rfl) (hd:=rfl) (hw:=rfl) (h:=fun _ _=>ZO (z:=nz))|apply dqY (hi:=rfl) (hd:=rfl) (hw:=rfl) (h:=fun _ _=>YK (z:=nz)))
  apply dqY (hi:=rfl) (hd:=rfl) (hw:=rfl) (h:=fun _ _=>ixm (m:=m) rfl rfl rfl (by omega) (by omega) nz)
  repeat (first|apply dsY (hi:=rfl) (hs:=rfl)|apply dqY (hi:=rfl) (hd:=rfl) (hw:=rfl) (h:=fun _ _=>ZD (z:=nz))|apply dqY (hi:=rfl) (hd:=rfl) (hw:=rfl) (h:=fun _ _=>ZF (z:=nz))|apply dqY (hi:=rfl) (hd:=rfl) (hw:=rfl) (h:=fun _ _=>ZC (z:=nz))|apply dqY (hi:=rfl) (hd:=rfl) (hw:=rfl) (h:=fun _ _=>ZJ (z:=nz))|apply dqY (hi:=rfl) (hd:=rfl) (hw:=rfl) (h:=fun _ _=>ZK (z:=nz))|apply dqY (hi:=rfl) (hd:=rfl) (hw:=rfl) (h:=fun _ _=>ZM (z:=nz))|apply dqY (hi:=rfl) (hd:=rfl) (hw:=rfl) (h:=fun _ _=>ZN (z:=nz))|apply dqY (hi:=rfl) (hd:=rfl) (hw:=rfl) (h:=fun _ _=>ZH (z:=nz))|apply dqY (hi:=rfl) (hd:=rfl) (hw:=rfl) (h:=fun _ _=>ZQ (z:=nz))|apply dqY (hi:=rfl) (hd:=rfl) (hw:=rfl) (h:=fun _ _=>ZP (z:=nz))|apply dqY (hi:=rfl) (hd:=rfl) (hw:=rfl) (h:=fun _ _=>ZO (z:=nz))|apply dqY (hi:=rfl) (hd:=rfl) (hw:=rfl) (h:=fun _ _=>YK (z:=nz)))
  refine dnQ ?_
  refine AAny.text rfl ?_
  obtain ⟨x,hx⟩:∃ x,wk[m]?=some x:=⟨_,List.getElem?_eq_getElem (by omega)⟩
  refine so (rows':=irs (wk.set m w)) rfl rfl rfl hob (by rw [Nat.zero_add]; exact irs_at hx) rfl rfl rfl (by rw [Nat.zero_add,← irs_set]; rfl) ?_
  have neo:o6≠o:=fun e=>ne6 o (List.mem_of_getElem? ho) e.symm
  have k6':(st'.set o (.cells 3 1 (irs (wk.set m w)))).obj o6=some (.cells 30 1 [[.view 0 [] .nil]]):=by rw [St.obj_set_ne neo]; exact k6
  refine goD ?_
  refine so (rows':=[[.view 2 (mrs os) .shared]]) rfl rfl rfl k6' rfl rfl rfl rfl rfl ?_
  refine goD ?_
  have hset:setw ws addr w=ws.set k (wk.set m w):=by
   unfold setw
   rw [if_pos hin,show (addr / 64).toNat=k by omega,show (addr % 64).toNat=m by omega,List.getD_eq_getElem?_getD,hwk]
   rfl
  have hfu:=hf.upd (w':=wk.set m w) ho
  refine AWP.ret (rets (resCW rfl (St.obj_set _ _ _) rfl rfl rfl rfl) (.refl _) (.refl _) ⟨os,by rw [decide_eq_true hin]; rfl,⟨fun j p l h1 h2=>?_,hf.nd,by rw [hset,List.length_set]; exact hf.len⟩⟩)
  rw [hset] at h2
  have:=hfu.obj j p l h1 h2
  rw [St.obj_set_ne (ne6 p (List.mem_of_getElem? h1))]
  exact this
 ·have hfn:fnd ws.length addr=-1:=by unfold fnd; rw [if_neg hin]
  rw [hfn]
  refine goD ?_
  refine so (rows':=[[.view 2 (mrs os) .shared]]) rfl rfl rfl k6 rfl rfl rfl rfl rfl ?_
  refine goD ?_
  have hset:setw ws addr w=ws:=by unfold setw; rw [if_neg hin]
  refine AWP.ret (rets (resCW rfl (St.obj_set _ _ _) rfl rfl rfl rfl) (.refl _) (.refl _) ⟨os,by rw [decide_eq_false hin]; rfl,⟨fun j p l h1 h2=>?_,hf.nd,by rw [hset]; exact hf.len⟩⟩)
  rw [hset] at h2
  have:=hf.obj j p l h1 h2
  rw [St.obj_set_ne (ne6 p (List.mem_of_getElem? h1))]
  exact this
theorem tup2_frz {st:St} {a b c d:AV} (h1:AX.Frz st a b) (h2:AX.Frz st c d):AX.Frz st (.tuple [a,c]) (.tuple [b,d]):=by
 refine .tuple _ _ rfl fun i x y hx hy=>?_
 match i,hx,hy with
 | 0,hx,hy=>cases hx; cases hy; exact h1
 | 1,hx,hy=>cases hx; cases hy; exact h2
 | i + 2,hx,_=>simp at hx
theorem with_ok (ws:List (List Int)) (hM:MOk ws) (addr w:Int) (ha:i64 addr) (st:St):ACalls Tryz.prog 18 [memV ws,.int .i64 addr,.int .i64 w] st (fun v st'=>v=.tuple [memV (setw ws addr w),.bool (decide (0≤addr∧addr < 64 * (ws.length:Int)))]∧st'=st) (fun _ _=>False):=by
 refine AX.pure_call (gl:=[]) (by simp) (by simp) (fun v hv=>?_) (with_ok0 ws hM addr w ha) fun v st' ⟨os,hv,hf⟩=>⟨_,hv ▸ tup2_frz (hf.frz (setw_ok hM addr w).each rfl) (.clean _ (.bool _)),rfl⟩
 simp only [List.mem_cons,List.not_mem_nil,or_false] at hv
 rcases hv with rfl|rfl|rfl
 ·exact memV_clean _
 ·exact .int _ _
 ·exact .int _ _
end Go.Proofs
namespace Go.Proofs
open Go.AM
attribute [local irreducible] AWP AOps ACalls AAny
set_option linter.unusedSimpArgs false

structure Ch where
 reg:Bool
 n:Int
 w:Int
def chR (x:Ch):List AV:=[.bool x.reg,.int .i64 x.n,.int .i64 x.w]
def chRs (l:List Ch):List (List AV):=l.map chR
theorem chRs_len (l:List Ch):(chRs l).length=l.length:=List.length_map ..
theorem chRs_at {l:List Ch} {i:Nat} {x:Ch} (h:l[i]?=some x):(chRs l)[i]?=some [.bool x.reg,.int .i64 x.n,.int .i64 x.w]:=by unfold chRs; rw [List.getElem?_map,h]; rfl
def cpR (c:List Int):List AV:=c.map fun x=>.int .i64 x
theorem cpR_len (c:List Int):(cpR c).length=c.length:=List.length_map ..
def app1 (x:Ch) (c:List Int) (ws:List (List Int)):List Int × List (List Int) :=
 if x.reg=false then (c,setw ws x.n x.w) else if 0≤x.n∧x.n < 16 then (c.set x.n.toNat x.w,ws) else (c,ws)
def app:List Ch→List Int→List (List Int)→List Int × List (List Int)
 | [],c,ws=>(c,ws)
 | x::l,c,ws=>app l (app1 x c ws).1 (app1 x c ws).2
theorem app_drop {l:List Ch} {i:Nat} {x:Ch} (h:l[i]?=some x) (c:List Int) (ws:List (List Int)):app (l.drop i) c ws=app (l.drop (i + 1)) (app1 x c ws).1 (app1 x c ws).2:=by
 rw [List.drop_eq_getElem_cons (List.getElem?_eq_some_iff.1 h).1,(List.getElem?_eq_some_iff.1 h).2,app]
theorem app1_ok {x:Ch} {c:List Int} {ws:List (List Int)} (hc:c.length=17) (hM:MOk ws):(app1 x c ws).1.length=17∧MOk (app1 x c ws).2:=by
 unfold app1
 split
 ·exact ⟨hc,setw_ok hM _ _⟩
 ·split
  ·exact ⟨by rw [List.length_set]; exact hc,hM⟩
  ·exact ⟨hc,hM⟩
theorem app_ok {l:List Ch}:∀ {c:List Int} {ws:List (List Int)},c.length=17→MOk ws→(app l c ws).1.length=17∧MOk (app l c ws).2:=by
 induction l with
 | nil=>exact fun hc hM=>⟨hc,hM⟩
 | cons x l ih=>exact fun hc hM=>ih (app1_ok hc hM).1 (app1_ok hc hM).2
theorem cpR_clean (c:List Int):AX.Clean (.agg (cpR c)):=.agg _ fun x hx=>by
 unfold cpR at hx
 rw [List.mem_map] at hx
 obtain ⟨a,_,rfl⟩:=hx
 exact .int _ _
theorem chRs_clean (l:List Ch):AX.Clean (.view 3 (chRs l) .shared):=by
 refine .view _ _ _ (fun k e h=>by cases h) fun r hr c hc=>?_
 unfold chRs at hr
 rw [List.mem_map] at hr
 obtain ⟨x,_,rfl⟩:=hr
 simp only [chR,List.mem_cons,List.not_mem_nil,or_false] at hc
 rcases hc with rfl|rfl|rfl
 ·exact .bool _
 ·exact .int _ _
 ·exact .int _ _
theorem copyP_ok (ws:List (List Int)) (hM:MOk ws) (st:St):ACalls Tryz.prog 17 [memV ws] st (fun v st'=>v=memV ws∧st'=st) (fun _ _=>False):=by
 refine AX.pure_call (gl:=[]) (by simp) (by simp) (fun v hv=>?_) (copy_ok ws hM st0) fun v st' ⟨os,hv,hf,_⟩=>⟨_,hv ▸ hf.frz hM.each rfl,rfl⟩
 rw [List.mem_singleton] at hv
 rw [hv]
 exact memV_clean _
def JA (s s2:St) (M:AV):List (Option AV)→St→Prop
 | [a,none],t=>t=s∧∀ x,a=some x→x=M
 | [_,some _],t=>t=s2
 | _,_=>False
theorem vs2 {vs:List (Option AV)} {b1 b2:Bool} (h:vs.map Option.isSome=[b1,b2]):∃ v1 v2,vs=[v1,v2]∧v1.isSome=b1∧v2.isSome=b2:=by
 match vs,h with
 | [v1,v2],h=>simp at h; exact ⟨v1,v2,rfl,h.1,h.2⟩
theorem St.set_same {st:St} {o:Nat} {c:AObj} (h:st.obj o=some c):st.set o c=st:=by
 have:(fun p=>if p=o then some c else st.obj p)=st.obj:=by
  funext p
  split
  ·rename_i e; rw [e,h]
  ·rfl
 cases st
 simp only [St.set] at this ⊢
 rw [this]
theorem rowSet_one {row:List AV} {k:Nat} {v:AV} (h:k < row.length):rowSet row k [v]=row.set k v:=by
 unfold rowSet
 rw [List.set_eq_take_append_cons_drop,if_pos h]
 simp
theorem cpR_set (c:List Int) (k:Nat) (w:Int):(cpR c).set k (.int .i64 w)=cpR (c.set k w):=by unfold cpR; rw [List.map_set]
def wo (s:St) (a b:Nat):St:=(s.drop a).drop b
theorem StLe.wo {s:St} {a b:Nat} (x y:AObj):StLe ((s.set a x).set b y) (wo s a b):=by
 refine ⟨fun p c h=>?_,fun t h=>h,rfl⟩
 have h:(if p=b then none else if p=a then none else s.obj p)=some c:=h
 show (if p=b then some y else if p=a then some x else s.obj p)=some c
 split at h
 ·cases h
 ·rename_i e
  split at h
  ·cases h
  ·rename_i e2
   rw [if_neg e,if_neg e2]
   exact h
theorem wo_obj {s:St} {a b p:Nat} (h1:p≠a) (h2:p≠b):(wo s a b).obj p=s.obj p:=by
 show (if p=b then none else if p=a then none else s.obj p)=_
 rw [if_neg h2,if_neg h1]
structure LpA where
 s:St
 i:Nat
 c:List Int
 ws:List (List Int)
structure RaI (l:List Ch) (c0:List Int) (ws0:List (List Int)) (o3 o6 o7 o8:Nat) (y:LpA):Prop where
 i:y.i≤l.length
 o3:y.s.obj o3=some (.cells 24 17 [cpR y.c])
 o6:∃ r,r.length=17∧y.s.obj o6=some (.cells 24 17 [r])
 o7:y.s.obj o7=some (.cells 30 1 [[.view 0 [] .nil]])
 o8:y.s.obj o8=some (.cells 30 1 [[.view 2 (pgs y.ws) .shared]])
 c:y.c.length=17
 M:MOk y.ws
 res:app l c0 ws0=app (l.drop y.i) y.c y.ws
set_option maxHeartbeats 8000000 in
theorem rapply_ok0 (c0:List Int) (hc:c0.length=17) (ws0:List (List Int)) (hM:MOk ws0) (l:List Ch) (hl:l.length≤100) (hN:∀ x ∈ l,i64 x.n):ACalls Tryz.prog 8 [.agg (cpR c0),memV ws0,.view 3 (chRs l) .shared] st0
  (fun v _=>v=.tuple [.agg (cpR (app l c0 ws0).1),memV (app l c0 ws0).2]) (fun _ _=>False):=by
 refine ACalls.ofBody Tryz.func8 rfl Tryz.ntmps8 rfl ?_
 have hcl:=chRs_len l
 refine goC ?_
 refine rg ?_
 refine bx (sz:=17) rfl rfl rfl (by rw [← hc]; exact cpR_len c0) fun o3 h3=>?_
 refine bxe rfl rfl rfl rfl ?_
 refine al rfl rfl fun o6 h6=>?_
 refine al rfl rfl fun o7 h7=>?_
 refine goD ?_
 refine cle rfl rfl (copyP_ok ws0 hM _) ?_
 refine al rfl rfl fun o8 h8=>?_
 refine soV rfl rfl rfl rfl rfl rfl ?_
 have n63:o6≠o3:=fun e=>by rw [e,St.obj_set] at h6; cases h6
 have n76:o7≠o6:=fun e=>by rw [e,St.obj_set] at h7; cases h7
 have n73:o7≠o3:=fun e=>by rw [e,St.obj_set_ne n63.symm,St.obj_set] at h7; cases h7
 have n87:o8≠o7:=fun e=>by rw [e,St.obj_set] at h8; cases h8
 have n86:o8≠o6:=fun e=>by rw [e,St.obj_set_ne n76.symm,St.obj_set] at h8; cases h8
 have n83:o8≠o3:=fun e=>by rw [e,St.obj_set_ne n73.symm,St.obj_set_ne n63.symm,St.obj_set] at h8; cases h8
 refine goD ?_
 refine AWP.loop (α:=LpA) (fun y=>[(9,.int .i64 (y.i:Int)),(8,.cptr o8 1 0 0),(7,.cptr o7 1 0 0),(6,.cptr o6 17 0 0),(3,.cptr o3 17 0 0),(2,.view 3 (chRs l) .shared)]) (fun y=>y.s) (RaI l c0 ws0 o3 o6 o7 o8) (fun y=>l.length - y.i)
  ⟨_,0,c0,ws0⟩ ⟨Nat.zero_le _,?_,?_,?_,St.obj_set _ _ _,hc,hM,rfl⟩ (tl6 rfl rfl rfl rfl rfl rfl) (.refl _) ?_
 ·show ((((st0.set o3 _).set o6 _).set o7 _).set o8 _).obj o3=_
  rw [St.obj_set_ne n83.symm,St.obj_set_ne n73.symm,St.obj_set_ne n63.symm]
  exact St.obj_set _ _ _
 ·refine ⟨List.replicate 17 (.int .i64 0),rfl,?_⟩
  show ((((st0.set o3 _).set o6 _).set o7 _).set o8 _).obj o6=_
  rw [St.obj_set_ne n86.symm,St.obj_set_ne n76.symm]
  exact St.obj_set _ _ _
 ·show ((((st0.set o3 _).set o6 _).set o7 _).set o8 _).obj o7=_
  rw [St.obj_set_ne n87.symm]
  exact St.obj_set _ _ _
 rintro ⟨s,i,c,ws⟩ I
 refine AWP.weaken (T':=[(9,.int .i64 (i:Int)),(8,.cptr o8 1 0 0),(7,.cptr o7 1 0 0),(6,.cptr o6 17 0 0),(3,.cptr o3 17 0 0),(2,.view 3 (chRs l) .shared)]) (tl6 rfl rfl rfl rfl rfl rfl) (.refl _) ?_
 have k3:s.obj o3=_:=I.o3
 have k8:s.obj o8=_:=I.o8
 show AWP _ _ _ _ _ _ s
 by_cases hlt:i < l.length
 ·obtain ⟨x,hx⟩:∃ x,l[i]?=some x:=⟨_,List.getElem?_eq_getElem hlt⟩
  have hr:=chRs_at hx
  have hir:i < (chRs l).length:=by omega
  have hxN:=hN x (List.mem_of_getElem? hx)
  have hres:=I.res
  simp only at hres
  rw [app_drop hx] at hres
  obtain ⟨q1,q2⟩:=app1_ok (x:=x) I.c I.M
  simp only at q1 q2
  have fin:∀ (s':St),s'.obj o3=some (.cells 24 17 [cpR (app1 x c ws).1])→s'.obj o8=some (.cells 30 1 [[.view 2 (pgs (app1 x c ws).2) .shared]])→(∀ p,p≠o3→p≠o8→s'.obj p=s.obj p) →
    RaI l c0 ws0 o3 o6 o7 o8 ⟨s',i + 1,(app1 x c ws).1,(app1 x c ws).2⟩:=fun s' e3 e8 hp =>
   ⟨hlt,e3,by obtain ⟨r,hr1,hr2⟩:=I.o6; exact ⟨r,hr1,by rw [hp o6 n63 n86.symm]; exact hr2⟩,by rw [hp o7 n73 n87.symm]; exact I.o7,e8,q1,q2,hres⟩
  cases hreg:x.reg with
  | false =>
   rw [hreg] at hr
   have happ:app1 x c ws=(c,setw ws x.n x.w):=by unfold app1; rw [if_pos hreg]
   rw [happ] at fin
   refine goD ?_
   refine AWP.any rfl ?_
   apply AAny.segW (k':=16) (Es:=[0,15]) (J:=JA s (s.set o8 (.cells 30 1 [[.view 2 (pgs (setw ws x.n x.w)) .shared]])) (memV ws)) (base:=s.bareOf) (hok:=by decide +kernel) (hJ:=⟨rfl,fun _ h=>by cases h⟩) (hb:=StLe.bare rfl)
   apply deV (Q:=fun v=>v=memV ws) (L:=[[false,false]]) (hL:=rfl) (hd:=rfl) (hw:=rfl) (hex:=⟨_,rfl⟩) (h:=by
    refine ⟨?_,trivial⟩
    intro vs hvs hlk s1 hJ hb
    obtain ⟨v1,v2,rfl,e1,e2⟩:=vs2 hvs
    obtain rfl:=none_of e1
    obtain rfl:=none_of e2
    obtain ⟨rfl,_⟩:=hJ
    exact lcW rfl rfl rfl k8 rfl rfl (nl ⟨_,rfl,rfl,⟨rfl,fun x hx=>by cases hx; rfl⟩,hb⟩))
   rintro v rfl
   repeat (first|apply dsV (hi:=rfl) (hs:=rfl)|apply dqV (hi:=rfl) (hd:=rfl) (hw:=rfl) (h:=fun _ _=>bs0 (z:=nz))|apply dqV (hi:=rfl) (hd:=rfl) (hw:=rfl) (h:=fun _ _=>ZD (z:=nz))|apply dqV (hi:=rfl) (hd:=rfl) (hw:=rfl) (h:=fun _ _=>ZF (z:=nz))|apply dqV (hi:=rfl) (hd:=rfl) (hw:=rfl) (h:=fun _ _=>ZC (z:=nz))|apply dqV (hi:=rfl) (hd:=rfl) (hw:=rfl) (h:=fun _ _=>ZJ (z:=nz))|apply dqV (hi:=rfl) (hd:=rfl) (hw:=rfl) (h:=fun _ _=>ZK (z:=nz))|apply dqV (hi:=rfl) (hd:=rfl) (hw:=rfl) (h:=fun _ _=>ZM (z:=nz))|apply dqV (hi:=rfl) (hd:=rfl) (hw:=rfl) (h:=fun _ _=>ZN (z:=nz))|apply dqV (hi:=rfl) (hd:=rfl) (hw:=rfl) (h:=fun _ _=>ZH (z:=nz))|apply dqV (hi:=rfl) (hd:=rfl) (hw:=rfl) (h:=fun _ _=>ZQ (z:=nz))|apply dqV (hi:=rfl) (hd:=rfl) (hw:=rfl) (h:=fun _ _=>ZP (z:=nz))|apply dqV (hi:=rfl) (hd:=rfl) (hw:=rfl) (h:=fun _ _=>ZO (z:=nz))|apply dqV (hi:=rfl) (hd:=rfl) (hw:=rfl) (h:=fun _ _=>YK (z:=nz)))
   apply dqV (hi:=rfl) (hd:=rfl) (hw:=rfl) (v:=.tuple [memV (setw ws x.n x.w),.bool (decide (0≤x.n∧x.n < 64 * (ws.length:Int)))]) (h:=fun st' hle=>cle rfl rfl (with_ok ws I.M x.n x.w hxN st') nz)
   repeat (first|apply dsV (hi:=rfl) (hs:=rfl)|apply dqV (hi:=rfl) (hd:=rfl) (hw:=rfl) (h:=fun _ _=>bs0 (z:=nz))|apply dqV (hi:=rfl) (hd:=rfl) (hw:=rfl) (h:=fun _ _=>ZD (z:=nz))|apply dqV (hi:=rfl) (hd:=rfl) (hw:=rfl) (h:=fun _ _=>ZF (z:=nz))|apply dqV (hi:=rfl) (hd:=rfl) (hw:=rfl) (h:=fun _ _=>ZC (z:=nz))|apply dqV (hi:=rfl) (hd:=rfl) (hw:=rfl) (h:=fun _ _=>ZJ (z:=nz))|apply dqV (hi:=rfl) (hd:=rfl) (hw:=rfl) (h:=fun _ _=>ZK (z:=nz))|apply dqV (hi:=rfl) (hd:=rfl) (hw:=rfl) (h:=fun _ _=>ZM (z:=nz))|apply dqV (hi:=rfl) (hd:=rfl) (hw:=rfl) (h:=fun _ _=>ZN (z:=nz))|apply dqV (hi:=rfl) (hd:=rfl) (hw:=rfl) (h:=fun _ _=>ZH (z:=nz))|apply dqV (hi:=rfl) (hd:=rfl) (hw:=rfl) (h:=fun _ _=>ZQ (z:=nz))|apply dqV (hi:=rfl) (hd:=rfl) (hw:=rfl) (h:=fun _ _=>ZP (z:=nz))|apply dqV (hi:=rfl) (hd:=rfl) (hw:=rfl) (h:=fun _ _=>ZO (z:=nz))|apply dqV (hi:=rfl) (hd:=rfl) (hw:=rfl) (h:=fun _ _=>YK (z:=nz)))
   apply dnW (L:=[[true,false]]) (hL:=rfl) (hd:=rfl) (hw:=rfl) (h:=by
    refine ⟨?_,trivial⟩
    intro vs hvs hlk s1 hJ hb
    obtain ⟨v1,v2,rfl,e1,e2⟩:=vs2 hvs
    obtain rfl:=none_of e2
    obtain ⟨rfl,_⟩:=hJ
    exact so (rows':=[[.view 2 (pgs (setw ws x.n x.w)) .shared]]) rfl rfl rfl k8 rfl rfl rfl rfl rfl (nl ⟨rfl,fun u=>rfl,StLe.bare rfl⟩))
   intro u
   refine dnV fun s1 hs=>?_
   obtain rfl:s1=_:=hs
   refine AAny.text rfl ?_
   refine goD ?_
   refine ⟨⟨_,i + 1,c,setw ws x.n x.w⟩,fin _ (by rw [St.obj_set_ne n83.symm]; exact k3) (St.obj_set _ _ _) (fun p h1 h2=>St.obj_set_ne h2),by show _ - (i + 1) < _ - i; omega,(tl6 rfl rfl rfl rfl rfl rfl),.refl _⟩
  | true =>
   rw [hreg] at hr
   by_cases h0:0≤x.n
   ·have h0':x.n ≥ 0:=h0
    by_cases h16:x.n < 16
    ·obtain ⟨m,hm⟩:∃ m:Nat,x.n=(m:Int):=⟨x.n.toNat,by omega⟩
     have hml:m < c.length:=by have:=I.c; simp only at this; omega
     have hcl2:=cpR_len c
     have happ:app1 x c ws=(c.set m x.w,ws):=by unfold app1; rw [if_neg (by rw [hreg]; decide),if_pos ⟨h0,h16⟩,show x.n.toNat=m by omega]
     rw [happ] at fin
     refine goD ?_
     refine AWP.any rfl ?_
     apply AAny.segQ (k':=11) (hok:=by decide +kernel)
     repeat (first|apply dsY (hi:=rfl) (hs:=rfl)|apply dqY (hi:=rfl) (hd:=rfl) (hw:=rfl) (h:=fun _ _=>ZD (z:=nz))|apply dqY (hi:=rfl) (hd:=rfl) (hw:=rfl) (h:=fun _ _=>ZF (z:=nz))|apply dqY (hi:=rfl) (hd:=rfl) (hw:=rfl) (h:=fun _ _=>ZC (z:=nz))|apply dqY (hi:=rfl) (hd:=rfl) (hw:=rfl) (h:=fun _ _=>ZJ (z:=nz))|apply dqY (hi:=rfl) (hd:=rfl) (hw:=rfl) (h:=fun _ _=>ZK (z:=nz))|apply dqY (hi:=rfl) (hd:=rfl) (hw:=rfl) (h:=fun _ _=>ZM (z:=nz))|apply dqY (hi:=rfl) (hd:=rfl) (hw:=rfl) (h:=fun _ _=>ZN (z:=nz))|apply dqY (hi:=rfl) (hd:=rfl) (hw:=rfl) (h:=fun _ _=>ZH (z:=nz))|apply dqY (hi:=rfl) (hd:=rfl) (hw:=rfl) (h:=fun _ _=>ZQ (z:=nz))|apply dqY (hi:=rfl) (hd:=rfl) (hw:=rfl) (h:=fun _ _=>ZP (z:=nz))|apply dqY (hi:=rfl) (hd:=rfl) (hw:=rfl) (h:=fun _ _=>ZO (z:=nz))|apply dqY (hi:=rfl) (hd:=rfl) (hw:=rfl) (h:=fun _ _=>YK (z:=nz)))
     refine dnQ ?_
     refine AAny.text rfl ?_
     refine ixa (m:=m) rfl rfl hm (by omega) rfl ?_
     have e1:0 + 0 + m * 1=m:=by omega
     refine so (rows':=[cpR (c.set m x.w)]) rfl rfl rfl k3 rfl rfl rfl (Nat.ble_eq_true_of_le (by show 0 + 0 + m * 1 + 1≤(cpR c).length; omega)) (by show [rowSet (cpR c) (0 + 0 + m * 1) [.int .i64 x.w]]=_; rw [e1,rowSet_one (by omega),cpR_set]) ?_
     refine goD ?_
     refine ⟨⟨_,i + 1,c.set m x.w,ws⟩,fin _ (St.obj_set _ _ _) (by rw [St.obj_set_ne n83]; exact k8) (fun p h1 h2=>St.obj_set_ne h1),by show _ - (i + 1) < _ - i; omega,(tl6 rfl rfl rfl rfl rfl rfl),.refl _⟩
    ·have happ:app1 x c ws=(c,ws):=by unfold app1; rw [if_neg (by rw [hreg]; decide),if_neg (by omega)]
     rw [happ] at fin
     refine goD ?_
     exact ⟨⟨_,i + 1,c,ws⟩,fin _ k3 k8 (fun p h1 h2=>rfl),by show _ - (i + 1) < _ - i; omega,(tl6 rfl rfl rfl rfl rfl rfl),.refl _⟩
   ·have h0':¬ x.n ≥ 0:=h0
    have happ:app1 x c ws=(c,ws):=by unfold app1; rw [if_neg (by rw [hreg]; decide),if_neg (by omega)]
    rw [happ] at fin
    refine goD ?_
    exact ⟨⟨_,i + 1,c,ws⟩,fin _ k3 k8 (fun p h1 h2=>rfl),by show _ - (i + 1) < _ - i; omega,(tl6 rfl rfl rfl rfl rfl rfl),.refl _⟩
 ·have hin:i=l.length:=by have:i≤_:=I.i; omega
  subst hin
  have hres:=I.res
  simp only at hres
  rw [List.drop_length] at hres
  obtain ⟨r,hr1,hr2⟩:=I.o6
  simp only at hr2
  have k7:s.obj o7=_:=I.o7
  have hc17:c.length=17:=I.c
  have hcl2:=cpR_len c
  refine goD ?_
  refine AWP.exit (blk_hit ?_)
  refine goD ?_
  refine AWP.any rfl ?_
  have hs0:s=(s.set o6 (.cells 24 17 [r])).set o7 (.cells 30 1 [[.view 0 [] .nil]]):=by rw [St.set_same hr2,St.set_same k7]
  rw [hs0]
  apply AAny.segY (k':=4) (S:=_) (Es:=[2,3]) (sts:=fun bs=>match bs with|[b1,b2]=>some ((s.set o6 (.cells 24 17 [bif b1 then cpR c else r])).set o7 (.cells 30 1 [[bif b2 then .view 2 (pgs ws) .shared else .view 0 [] .nil]]))|_=>none) (F:=fun x y=>y=x) (base:=wo s o6 o7) (hok:=by decide +kernel) (hS:=rfl) (h0:=rfl) (hF:=rfl) (hb:=StLe.wo _ _)
  apply dqY (v:=.agg (cpR c)) (hi:=rfl) (hd:=rfl) (hw:=rfl) (h:=fun st' hle=>lcW (row:=cpR c) rfl rfl rfl (hle.obj _ _ (by rw [wo_obj n63.symm n73.symm]; exact k3)) rfl (by rw [hcl2,hc17]; rfl) nz)
  apply dqY (v:=.agg [.view 2 (pgs ws) .shared]) (hi:=rfl) (hd:=rfl) (hw:=rfl) (h:=fun st' hle=>lcW rfl rfl rfl (hle.obj _ _ (by rw [wo_obj n86 n87]; exact k8)) rfl rfl nz)
  apply deY (L:=[[false,false]]) (hL:=rfl) (hd:=rfl) (hw:=rfl) (h:=by
   refine ⟨?_,trivial⟩
   ·intro s0 e
    cases e
    refine ⟨_,rfl,fun s hs hle=>?_⟩
    subst hs
    simp only [cond_true,cond_false]
    refine so (rows':=[cpR c]) rfl rfl rfl (St.obj_under n76 _ _) rfl rfl (by show Nat.beq (cpR c).length 17=true; rw [hcl2,hc17]; rfl) (Nat.ble_eq_true_of_le (by show 0 + (cpR c).length≤r.length; omega)) (by show [rowSet r 0 (cpR c)]=_; rw [rowSet_all (by omega)]) ?_
    exact nl ⟨rfl,St.set_inner n76 _ _ _,by rw [St.set_inner n76]; exact StLe.wo _ _⟩)
  apply deY (L:=[[true,false]]) (hL:=rfl) (hd:=rfl) (hw:=rfl) (h:=by
   refine ⟨?_,trivial⟩
   ·intro s0 e
    cases e
    refine ⟨_,rfl,fun s hs hle=>?_⟩
    subst hs
    simp only [cond_true,cond_false]
    refine so (rows':=[[.view 2 (pgs ws) .shared]]) rfl rfl rfl (St.obj_set _ _ _) rfl rfl rfl rfl rfl ?_
    exact nl ⟨rfl,St.set_set _ _ _ _,by rw [St.set_set]; exact StLe.wo _ _⟩)
  refine dnY rfl fun s1 hs _=>?_
  subst hs
  refine AAny.text rfl ?_
  refine goD ?_
  refine AWP.ret (rets (resCW rfl (St.obj_under n76 _ _) rfl rfl (by show Nat.beq 17 (cpR c).length=true; rw [hcl2,hc17]; rfl) (resCW rfl (St.obj_set _ _ _) rfl rfl rfl rfl)) (.refl _) (.refl _) ?_)
  show AV.tuple [.agg (cpR c),memV ws]=.tuple [.agg (cpR (app l c0 ws0).1),memV (app l c0 ws0).2]
  rw [hres]
  rfl
theorem rapply_ok (c:List Int) (hc:c.length=17) (ws:List (List Int)) (hM:MOk ws) (l:List Ch) (hl:l.length≤100) (hN:∀ x ∈ l,i64 x.n) (st:St):ACalls Tryz.prog 8 [.agg (cpR c),memV ws,.view 3 (chRs l) .shared] st
  (fun v st'=>v=.tuple [.agg (cpR (app l c ws).1),memV (app l c ws).2]∧st'=st) (fun _ _=>False):=by
 refine AX.pure_call (gl:=[]) (by simp) (by simp) (fun v hv=>?_) (rapply_ok0 c hc ws hM l hl hN) fun v st' hv=>⟨_,.clean _ ?_,hv⟩
 ·simp only [List.mem_cons,List.not_mem_nil,or_false] at hv
  rcases hv with rfl|rfl|rfl
  ·exact cpR_clean _
  ·exact memV_clean _
  ·exact chRs_clean _
 ·rw [hv]
  refine .tuple _ fun x hx=>?_
  simp only [List.mem_cons,List.not_mem_nil,or_false] at hx
  rcases hx with rfl|rfl
  ·exact cpR_clean _
  ·exact memV_clean _
end Go.Proofs
namespace Go.AM
open Go.RowKit (Below)
section
variable {P:Program} {n:Nat} {K:Post} {E:EPost} {T:Tmps} {st:St} {ops:Array Oper} {rest:List Oper} {dd:Option Tmp} {d:Tmp} {ty:TypeId} {pos:String} {es:Array Edge} {gd:Option (Nat × Bool)} {x y:Operand}
inductive NilC:TypeDesc→AV→AV→Bool→Prop
 | nn (e:TypeId) (s s':Nat):NilC (.slice e) (.view s [] .nil) (.view s' [] .nil) true
 | nv (e:TypeId) (s s':Nat) (r:List AV) (rows:List (List AV)) (t:Tok):NilC (.slice e) (.view s (r::rows) t) (.view s' [] .nil) false
 | nm (e:TypeId) (o s lo len s':Nat):NilC (.slice e) (.msl o s lo len) (.view s' [] .nil) false
 | pp (e:TypeId):NilC (.pointer e) (.lit (.pointer none)) (.lit (.pointer none)) true
 | pc (e:TypeId) (o s i j:Nat):NilC (.pointer e) (.cptr o s i j) (.lit (.pointer none)) false
 | pe (e:TypeId) (s:Nat) (rows:List (List AV)) (i j:Nat):NilC (.pointer e) (.eptr s rows i j) (.lit (.pointer none)) false
theorem eqS_nn {w:World} {t e:TypeId} (hu:P.underlying t=some (.slice e)) (k:Nat):(Op.equalIn (k + 1) t (.slice none 0 0) (.slice none 0 0)).run P w=.ok true w:=by
 simp [Op.equalIn,run_underlying hu]
theorem eqS_sn {w:World} {t e:TypeId} (hu:P.underlying t=some (.slice e)) (k:Nat) (a:Addr) (l c:Nat):(Op.equalIn (k + 1) t (.slice (some a) l c) (.slice none 0 0)).run P w=.ok false w:=by
 simp [Op.equalIn,run_underlying hu]
theorem nil_run {g:G} {w:World} {t:TypeId} {td:TypeDesc} {v u:AV} {b:Bool} {a c:Value} (hu:P.underlying t=some td) (h:NilC td v u b) (h1:R g w v a) (h2:R g w u c) :
  (Op.equal t a c).run P w=.ok b w∧(∀ bo x y,(eqGuard bo t x y a c).run P w=.ok () w)∧binOp .eql t a c=(do pure (.bool (← Op.equal t a c)))∧binOp .neq t a c=(do pure (.bool (!(← Op.equal t a c)))):=by
 have gd:∀ {a c:Value},((∃ b l k b' l' k',a=.slice b l k∧c=.slice b' l' k')∨∃ p q,a=.pointer p∧c=.pointer q)→(∀ bo x y,(eqGuard bo t x y a c).run P w=.ok () w)∧binOp .eql t a c=(do pure (.bool (← Op.equal t a c)))∧binOp .neq t a c=(do pure (.bool (!(← Op.equal t a c)))):=by
  intro a c h
  refine ⟨fun bo x y=>?_,?_,?_⟩
  ·unfold eqGuard
   rcases h with ⟨b,l,k,b',l',k',rfl,rfl⟩|⟨p,q,rfl,rfl⟩ <;> cases bo <;> rfl
  ·rcases h with ⟨b,l,k,b',l',k',rfl,rfl⟩|⟨p,q,rfl,rfl⟩ <;> rfl
  ·rcases h with ⟨b,l,k,b',l',k',rfl,rfl⟩|⟨p,q,rfl,rfl⟩ <;> rfl
 have nilv:∀ {s:Nat} {c:Value},R g w (.view s [] .nil) c→c=.slice none 0 0:=by
  intro s c h
  cases h with
  | vnil=>rfl
  | vemp _ _ _ hn _=>exact absurd rfl hn
  | view _ _ _ b off cap f hc hm hsz h1 ht himm hh=>simp [TokAt] at ht
 cases h with
 | nn e s s' =>
  rw [nilv h1,nilv h2]
  exact ⟨eqS_nn hu 9999,gd (.inl ⟨_,_,_,_,_,_,rfl,rfl⟩)⟩
 | nv e s s' r rows t' =>
  rw [nilv h2]
  cases h1 with
  | view _ _ _ b off cap f hc hm hsz h1 ht himm hh=>exact ⟨eqS_sn hu 9999 _ _ _,gd (.inl ⟨_,_,_,_,_,_,rfl,rfl⟩)⟩
 | nm e o s lo len s' =>
  rw [nilv h2]
  cases h1 with
  | msl=>exact ⟨eqS_sn hu 9999 _ _ _,gd (.inl ⟨_,_,_,_,_,_,rfl,rfl⟩)⟩
 | pp e =>
  cases h1; cases h2
  exact ⟨eqQ_nil hu 9999,gd (.inr ⟨_,_,rfl,rfl⟩)⟩
 | pc e o s i j =>
  cases h2
  cases h1
  exact ⟨eqQ_some hu 9999 _,gd (.inr ⟨_,_,rfl,rfl⟩)⟩
 | pe e s rows i j =>
  cases h2
  cases h1
  exact ⟨eqQ_some hu 9999 _,gd (.inr ⟨_,_,rfl,rfl⟩)⟩
theorem eqN {t u:TypeId} {td:TypeDesc} {v z:AV} {b:Bool} [hq:Und P t td] (hg:goes ops n T ⟨dd,.binOp .eql t x y u,ty,pos,es,gd⟩=some d)
  (hx:ev st T x=some v) (hy:ev st T y=some z) (hc:NilC td v z b)
  (h:AOps P n ops rest K E ((d,.bool b)::T) st):AOps P n ops (⟨dd,.binOp .eql t x y u,ty,pos,es,gd⟩::rest) K E T st:=by
 obtain ⟨hw,hd,hok⟩:=goes_some hg
 simp only at hd
 subst hd
 refine AOps.pure hw hok _ (fun g w a' hs hk=>?_) h
 have h1:=ev_R hs hk hx
 have h2:=ev_R hs hk hy
 obtain ⟨e1,e2,e3,_⟩:=nil_run (P:=P) hq.out hc h1 h2
 refine ⟨.bool b,?_,.bool _⟩
 show Sem.run P ((do eqGuard .eql t x y (a'.eval x) (a'.eval y); binOp .eql t (a'.eval x) (a'.eval y)) >>= fun z=>pure (Next.value z)) w=_
 rw [e3]
 simp only [Sem.run_bind,e2,Result.andThen_ok,e1]
 rfl
theorem neN {t u:TypeId} {td:TypeDesc} {v z:AV} {b:Bool} [hq:Und P t td] (hg:goes ops n T ⟨dd,.binOp .neq t x y u,ty,pos,es,gd⟩=some d)
  (hx:ev st T x=some v) (hy:ev st T y=some z) (hc:NilC td v z b)
  (h:AOps P n ops rest K E ((d,.bool (!b))::T) st):AOps P n ops (⟨dd,.binOp .neq t x y u,ty,pos,es,gd⟩::rest) K E T st:=by
 obtain ⟨hw,hd,hok⟩:=goes_some hg
 simp only at hd
 subst hd
 refine AOps.pure hw hok _ (fun g w a' hs hk=>?_) h
 have h1:=ev_R hs hk hx
 have h2:=ev_R hs hk hy
 obtain ⟨e1,e2,_,e3⟩:=nil_run (P:=P) hq.out hc h1 h2
 refine ⟨.bool (!b),?_,.bool _⟩
 show Sem.run P ((do eqGuard .neq t x y (a'.eval x) (a'.eval y); binOp .neq t (a'.eval x) (a'.eval y)) >>= fun z=>pure (Next.value z)) w=_
 rw [e3]
 simp only [Sem.run_bind,e2,Result.andThen_ok,e1]
 rfl
end
end Go.AM
namespace Go.Proofs
open Go.AM
attribute [local irreducible] AWP AOps ACalls AAny
set_option linter.unusedSimpArgs false

theorem clone_ok (w:List Int) (hw:w.length=64) (st:St):ACalls Tryz.prog 15 [.view 1 (irs w) .shared] st (fun v st'=>∃ o,st.obj o=none∧v=.msl o 1 0 64∧st'=st.set o (.cells 3 1 (irs w))) (fun _ _=>False):=by
 refine ACalls.ofBody Tryz.func15 rfl Tryz.ntmps15 rfl ?_
 have hwl:=irs_len w
 have hne:irs w≠[]:=fun e=>by rw [e] at hwl; simp at hwl; omega
 refine goC ?_
 refine rg ?_
 refine goD ?_
 refine eqN (b:=false) rfl rfl rfl (by
  cases w with
  | nil=>simp at hw
  | cons x w=>exact .nv _ _ _ _ _ _) ?_
 refine goD ?_
 refine bs0 (z:=?_)
 refine goE ?_
 refine apfM rfl rfl rfl hne rfl (by rw [hwl,hw]; decide) (by rw [hwl,hw]; decide) fun o' ho'=>?_
 rw [hwl,hw]
 refine goD ?_
 exact AWP.ret (rets rfl (.refl _) (.refl _) ⟨o',ho',rfl,rfl⟩)
theorem above_ok {s:St} {oP:Nat} {os:List Nat} (hP:s.obj oP=some (.cells 82 2 (mrs os))) (addr:Int) (i:Nat) (hi:i < os.length) (n:Nat) (hn:n=os.length) :
  ACalls Tryz.prog 36 ([.int .i64 (i:Int)]++[.eptr 1 [[.msl oP 2 0 n]] 0 0,.eptr 1 [[.int .i64 addr]] 0 0]) s (fun v st'=>v=.bool (decide (((64 * i:Nat):Int) > addr))∧st'=s) (fun _ _=>False):=by
 subst hn
 refine ACalls.ofBody Tryz.func36 rfl Tryz.ntmps36 rfl ?_
 obtain ⟨o,ho⟩:∃ o,os[i]?=some o:=⟨_,List.getElem?_eq_getElem hi⟩
 have hr:=mrs_at ho
 refine goD ?_
 refine AWP.any rfl ?_
 apply AAny.segQ (k':=7) (hok:=by decide +kernel)
 repeat (first|apply dsY (hi:=rfl) (hs:=rfl)|apply dqY (hi:=rfl) (hd:=rfl) (hw:=rfl) (h:=fun _ _=>ZD (z:=nz))|apply dqY (hi:=rfl) (hd:=rfl) (hw:=rfl) (h:=fun _ _=>ZF (z:=nz))|apply dqY (hi:=rfl) (hd:=rfl) (hw:=rfl) (h:=fun _ _=>ZC (z:=nz))|apply dqY (hi:=rfl) (hd:=rfl) (hw:=rfl) (h:=fun _ _=>ZJ (z:=nz))|apply dqY (hi:=rfl) (hd:=rfl) (hw:=rfl) (h:=fun _ _=>ZK (z:=nz))|apply dqY (hi:=rfl) (hd:=rfl) (hw:=rfl) (h:=fun _ _=>ZM (z:=nz))|apply dqY (hi:=rfl) (hd:=rfl) (hw:=rfl) (h:=fun _ _=>ZN (z:=nz))|apply dqY (hi:=rfl) (hd:=rfl) (hw:=rfl) (h:=fun _ _=>ZH (z:=nz))|apply dqY (hi:=rfl) (hd:=rfl) (hw:=rfl) (h:=fun _ _=>ZQ (z:=nz))|apply dqY (hi:=rfl) (hd:=rfl) (hw:=rfl) (h:=fun _ _=>ZP (z:=nz))|apply dqY (hi:=rfl) (hd:=rfl) (hw:=rfl) (h:=fun _ _=>ZO (z:=nz))|apply dqY (hi:=rfl) (hd:=rfl) (hw:=rfl) (h:=fun _ _=>YK (z:=nz)))
 apply dqY (v:=.int .i64 ((64 * i:Nat):Int)) (hi:=rfl) (hd:=rfl) (hw:=rfl) (h:=fun st' hle=>lcS rfl rfl rfl (hle.obj _ _ hP) (by rw [Nat.zero_add]; exact hr) rfl nz)
 repeat (first|apply dsY (hi:=rfl) (hs:=rfl)|apply dqY (hi:=rfl) (hd:=rfl) (hw:=rfl) (h:=fun _ _=>ZD (z:=nz))|apply dqY (hi:=rfl) (hd:=rfl) (hw:=rfl) (h:=fun _ _=>ZF (z:=nz))|apply dqY (hi:=rfl) (hd:=rfl) (hw:=rfl) (h:=fun _ _=>ZC (z:=nz))|apply dqY (hi:=rfl) (hd:=rfl) (hw:=rfl) (h:=fun _ _=>ZJ (z:=nz))|apply dqY (hi:=rfl) (hd:=rfl) (hw:=rfl) (h:=fun _ _=>ZK (z:=nz))|apply dqY (hi:=rfl) (hd:=rfl) (hw:=rfl) (h:=fun _ _=>ZM (z:=nz))|apply dqY (hi:=rfl) (hd:=rfl) (hw:=rfl) (h:=fun _ _=>ZN (z:=nz))|apply dqY (hi:=rfl) (hd:=rfl) (hw:=rfl) (h:=fun _ _=>ZH (z:=nz))|apply dqY (hi:=rfl) (hd:=rfl) (hw:=rfl) (h:=fun _ _=>ZQ (z:=nz))|apply dqY (hi:=rfl) (hd:=rfl) (hw:=rfl) (h:=fun _ _=>ZP (z:=nz))|apply dqY (hi:=rfl) (hd:=rfl) (hw:=rfl) (h:=fun _ _=>ZO (z:=nz))|apply dqY (hi:=rfl) (hd:=rfl) (hw:=rfl) (h:=fun _ _=>YK (z:=nz)))
 refine dnQ ?_
 refine AAny.text rfl ?_
 refine goD ?_
 exact AWP.ret (rets rfl (.refl _) (.refl _) ⟨rfl,rfl⟩)
def srch (n:Nat) (addr:Int):Nat:=if addr < 0 then 0 else min n ((addr / 64).toNat + 1)
structure LpS where
 i:Nat
 j:Nat
set_option maxHeartbeats 4000000 in
theorem search_ok {s:St} {oP:Nat} {os:List Nat} (hP:s.obj oP=some (.cells 82 2 (mrs os))) (hn:os.length≤16) (addr:Int) :
  ACalls Tryz.prog 35 [.int .i64 (os.length:Int),.func (.func 36) [] [.eptr 1 [[.msl oP 2 0 os.length]] 0 0,.eptr 1 [[.int .i64 addr]] 0 0]] s (fun v st'=>v=.int .i64 (srch os.length addr:Nat)∧st'=s) (fun _ _=>False):=by
 refine ACalls.ofBody Tryz.func35 rfl Tryz.ntmps35 rfl ?_
 refine goD ?_
 refine AWP.loop (α:=LpS) (fun y=>[(5,.int .i64 (y.i:Int)),(6,.int .i64 (y.j:Int)),(1,.func (.func 36) [] [.eptr 1 [[.msl oP 2 0 os.length]] 0 0,.eptr 1 [[.int .i64 addr]] 0 0])]) (fun _=>s)
  (fun y=>y.i≤y.j∧y.j≤os.length∧(y.i=0∨64 * ((y.i:Int) - 1)≤addr)∧(y.j=os.length∨64 * (y.j:Int) > addr)) (fun y=>y.j - y.i) ⟨0,os.length⟩ ⟨Nat.zero_le _,Nat.le_refl _,.inl rfl,.inl rfl⟩ (tl3 rfl rfl rfl) (.refl _) ?_
 rintro ⟨i,j⟩ ⟨h1,h2,h3,h4⟩
 simp only at h1 h2 h3 h4
 refine AWP.weaken (T':=[(5,.int .i64 (i:Int)),(6,.int .i64 (j:Int)),(1,.func (.func 36) [] [.eptr 1 [[.msl oP 2 0 os.length]] 0 0,.eptr 1 [[.int .i64 addr]] 0 0])]) (tl3 rfl rfl rfl) (.refl _) ?_
 by_cases hlt:i < j
 ·have hlt':(i:Int) < (j:Int):=by omega
  obtain ⟨h,hh⟩:∃ h:Nat,h=(i + j) / 2:=⟨_,rfl⟩
  refine goD ?_
  refine cv (c:=(i:Int) + j) rfl rfl (by simp only [IntKind.wrap,IntKind.bits,IntKind.signed]; simp; omega) ?_
  refine shr_ (b:=1) (c:=(h:Int)) rfl rfl rfl (by
   show ((i:Int) + j).fdiv 2=_
   rw [Int.fdiv_eq_ediv_of_nonneg _ (by omega)]
   omega) ?_
  refine cv (c:=(h:Int)) rfl rfl (by simp only [IntKind.wrap,IntKind.bits,IntKind.signed]; simp; omega) ?_
  refine goD ?_
  refine clc rfl rfl rfl (above_ok hP addr h (by omega) _ rfl) ?_
  by_cases hb:((64 * h:Nat):Int) > addr
  ·rw [decide_eq_true hb]
   refine goD ?_
   exact ⟨⟨i,h⟩,⟨by show i≤h; omega,by show h≤_; omega,h3,.inr (by show 64 * (h:Int) > addr; omega)⟩,by show h - i < j - i; omega,(tl3 rfl rfl rfl),.refl _⟩
  ·rw [decide_eq_false hb]
   refine goD ?_
   exact ⟨⟨h + 1,j⟩,⟨by show h + 1≤j; omega,h2,.inr (by show 64 * (((h + 1:Nat):Int) - 1)≤addr; omega),h4⟩,by show j - (h + 1) < j - i; omega,(tl3 rfl rfl rfl),.refl _⟩
 ·have hlt':¬ (i:Int) < (j:Int):=by omega
  refine goD ?_
  refine AWP.exit (blk_hit ?_)
  refine goD ?_
  refine AWP.ret (rets rfl (.refl _) (.refl _) ⟨?_,rfl⟩)
  show AV.int .i64 ((i:Nat):Int)=.int .i64 ((srch os.length addr:Nat):Int)
  have:i=srch os.length addr:=by unfold srch; split <;> omega
  rw [← this]
end Go.Proofs
namespace Go.Proofs
open Go.AM
attribute [local irreducible] AWP AOps ACalls AAny
set_option linter.unusedSimpArgs false

set_option maxHeartbeats 8000000 in
theorem write_ok {s:St} {oP:Nat} {os:List Nat} {ws:List (List Int)} (hP:s.obj oP=some (.cells 82 2 (mrs os))) (hf:Fam s os ws) (hM:MOk ws) (addr w:Int) (ha:i64 addr) :
  ACalls Tryz.prog 16 [.agg [.msl oP 2 0 os.length],.int .i64 addr,.int .i64 w] s (fun _ st'=>Fam st' os (setw ws addr w)∧∀ p,p ∉ os→st'.obj p=s.obj p) (fun _ _=>False):=by
 refine ACalls.ofBody Tryz.func16 rfl Tryz.ntmps16 rfl ?_
 have hosl:=hf.len
 have hn:=hM.len
 obtain ⟨ha1,ha2⟩:=ha
 have hlen:=mrs_len os
 refine goD ?_
 refine mkf rfl rfl rfl ?_
 refine cle rfl rfl (search_ok hP (by omega) addr) ?_
 have stay:∀ (T:Tmps),¬ (0≤addr∧addr < 64 * (ws.length:Int))→∃ vs v st1,resA Tryz.prog s T []=some vs∧Le (packA vs) v∧StLe s st1∧(fun (_:AV) (st':St)=>Fam st' os (setw ws addr w)∧∀ p,p ∉ os→st'.obj p=s.obj p) v st1:=fun T h =>
  ⟨_,_,s,rfl,.refl _,.refl _,by unfold setw; rw [if_neg h]; exact hf,fun _ _=>rfl⟩
 by_cases h0:addr < 0∨ws.length=0
 ·have hs:srch os.length addr=0:=by unfold srch; split <;> omega
  rw [hs]
  refine sbk (c:=-1) rfl rfl rfl rfl ?_
  refine goD ?_
  exact AWP.ret (stay _ (by omega))
 ·obtain ⟨i,hi⟩:∃ i:Nat,srch os.length addr=i + 1∧i < os.length∧(addr / 64 < (os.length:Int)→(i:Int)=addr / 64)∧((os.length:Int)≤addr / 64→i + 1=os.length)∧(i:Int)≤addr / 64:=by
   refine ⟨srch os.length addr - 1,?_⟩
   unfold srch
   rw [if_neg (by omega)]
   omega
  obtain ⟨e1,e2,e3,e4,e5⟩:=hi
  rw [e1]
  refine sbk (c:=(i:Int)) rfl rfl rfl (by simp only [IntKind.wrap,IntKind.bits,IntKind.signed]; simp; omega) ?_
  obtain ⟨o,ho⟩:∃ o,os[i]?=some o:=⟨_,List.getElem?_eq_getElem e2⟩
  obtain ⟨wk,hwk⟩:∃ w,ws[i]?=some w:=⟨_,List.getElem?_eq_getElem (by omega)⟩
  have hob:=hf.obj i o wk ho hwk
  have hr:=mrs_at ho
  have hw64:=hM.at hwk
  have hwl:=irs_len wk
  refine goD ?_
  refine AWP.any rfl ?_
  apply AAny.segQ (k':=7) (hok:=by decide +kernel)
  repeat (first|apply dsY (hi:=rfl) (hs:=rfl)|apply dqY (hi:=rfl) (hd:=rfl) (hw:=rfl) (h:=fun _ _=>ZD (z:=nz))|apply dqY (hi:=rfl) (hd:=rfl) (hw:=rfl) (h:=fun _ _=>ZF (z:=nz))|apply dqY (hi:=rfl) (hd:=rfl) (hw:=rfl) (h:=fun _ _=>ZC (z:=nz))|apply dqY (hi:=rfl) (hd:=rfl) (hw:=rfl) (h:=fun _ _=>ZJ (z:=nz))|apply dqY (hi:=rfl) (hd:=rfl) (hw:=rfl) (h:=fun _ _=>ZK (z:=nz))|apply dqY (hi:=rfl) (hd:=rfl) (hw:=rfl) (h:=fun _ _=>ZM (z:=nz))|apply dqY (hi:=rfl) (hd:=rfl) (hw:=rfl) (h:=fun _ _=>ZN (z:=nz))|apply dqY (hi:=rfl) (hd:=rfl) (hw:=rfl) (h:=fun _ _=>ZH (z:=nz))|apply dqY (hi:=rfl) (hd:=rfl) (hw:=rfl) (h:=fun _ _=>ZQ (z:=nz))|apply dqY (hi:=rfl) (hd:=rfl) (hw:=rfl) (h:=fun _ _=>ZP (z:=nz))|apply dqY (hi:=rfl) (hd:=rfl) (hw:=rfl) (h:=fun _ _=>ZO (z:=nz))|apply dqY (hi:=rfl) (hd:=rfl) (hw:=rfl) (h:=fun _ _=>YK (z:=nz)))
  apply dqY (v:=.int .i64 ((64 * i:Nat):Int)) (hi:=rfl) (hd:=rfl) (hw:=rfl) (h:=fun st' hle=>lcS rfl rfl rfl (hle.obj _ _ hP) (by rw [Nat.zero_add]; exact hr) rfl nz)
  refine dnQ ?_
  refine AAny.text rfl ?_
  refine Go.AM.sb rfl rfl rfl (by omega) ?_
  refine goD ?_
  have hge:addr - ((64 * i:Nat):Int) ≥ 0:=by omega
  refine goD ?_
  refine lcS (v:=.msl o 1 0 64) rfl rfl rfl hP (by rw [Nat.zero_add]; exact hr) rfl ?_
  by_cases hin:addr < 64 * (ws.length:Int)
  ·have hlt:addr - ((64 * i:Nat):Int) < ((64:Nat):Int):=by omega
   obtain ⟨m,hm⟩:∃ m:Nat,addr % 64=(m:Int):=⟨(addr % 64).toNat,by omega⟩
   have hmi:addr - ((64 * i:Nat):Int)=(m:Int):=by omega
   refine goD ?_
   refine lcS (v:=.msl o 1 0 64) rfl rfl rfl hP (by rw [Nat.zero_add]; exact hr) rfl ?_
   refine goE ?_
   refine ixm (m:=m) rfl rfl rfl hmi (by omega) ?_
   obtain ⟨x,hx⟩:∃ x,wk[m]?=some x:=⟨_,List.getElem?_eq_getElem (by omega)⟩
   refine so (rows':=irs (wk.set m w)) rfl rfl rfl hob (by rw [Nat.zero_add]; exact irs_at hx) rfl rfl rfl (by rw [Nat.zero_add,← irs_set]; rfl) ?_
   refine goD ?_
   have hset:setw ws addr w=ws.set i (wk.set m w):=by
    unfold setw
    rw [if_pos (by omega),show (addr / 64).toNat=i by omega,show (addr % 64).toNat=m by omega,List.getD_eq_getElem?_getD,hwk]
    rfl
   exact ⟨_,_,_,rfl,.refl _,.refl _,by rw [hset]; exact hf.upd ho,fun p hp=>St.obj_set_ne fun e=>hp (e ▸ List.mem_of_getElem? ho)⟩
  ·have hlt:¬ addr - ((64 * i:Nat):Int) < ((64:Nat):Int):=by omega
   refine goD ?_
   exact stay _ (by omega)
end Go.Proofs
namespace Go.Proofs
open Go.AM
attribute [local irreducible] AWP AOps ACalls AAny
set_option linter.unusedSimpArgs false

def zP:List AV:=[.int .i64 0,.view 0 [] .nil]
structure LpC where
 s:St
 i:Nat
 os:List Nat
structure C1I (c0:List Int) (ws:List (List Int)) (o3 o6 o7 oP:Nat) (y:LpC):Prop where
 i:y.i≤ws.length
 oP:y.s.obj oP=some (.cells 82 2 (mrs y.os++List.replicate (ws.length - y.i) zP))
 o3:y.s.obj o3=some (.cells 24 17 [cpR c0])
 o6:y.s.obj o6=some (.cells 24 17 [List.replicate 17 (.int .i64 0)])
 o7:y.s.obj o7=some (.cells 30 1 [[.view 0 [] .nil]])
 fam:Fam y.s y.os (ws.take y.i)
theorem C1I.oslen {c0:List Int} {ws:List (List Int)} {o3 o6 o7 oP:Nat} {y:LpC} (h:C1I c0 ws o3 o6 o7 oP y):y.os.length=y.i:=by
 have h1:=h.fam.len
 have h2:=h.i
 rw [List.length_take] at h1
 omega
theorem Fam.sz {s:St} {os:List Nat} {ws:List (List Int)} (h:Fam s os ws) {o:Nat} (ho:o ∈ os):∃ w,s.obj o=some (.cells 3 1 (irs w)):=by
 obtain ⟨j,hj,rfl⟩:=List.getElem_of_mem ho
 exact ⟨_,h.obj j _ _ (List.getElem?_eq_getElem hj) (List.getElem?_eq_getElem (by rw [← h.len]; exact hj))⟩
theorem C1I.ne {c0:List Int} {ws:List (List Int)} {o3 o6 o7 oP:Nat} {y:LpC} (h:C1I c0 ws o3 o6 o7 oP y):o3 ∉ y.os∧o6 ∉ y.os∧o7 ∉ y.os∧oP ∉ y.os:=by
 refine ⟨fun hm=>?_,fun hm=>?_,fun hm=>?_,fun hm=>?_⟩ <;> obtain ⟨w,hw⟩:=h.fam.sz hm
 ·rw [h.o3] at hw; cases hw
 ·rw [h.o6] at hw; cases hw
 ·rw [h.o7] at hw; cases hw
 ·rw [h.oP] at hw; cases hw
def JD (st:St) (B:Int) (C:AObj):List (Option AV)→St→Prop
 | [none,b],s=>s=st∧b=none
 | [some v,b],s=>∃ o',v=.msl o' 1 0 64∧st.obj o'=none∧s=st.set o' C∧(∀ x,b=some x→x=.agg [.int .i64 B,.msl o' 1 0 64])
 | _,_=>False
structure C2I (l:List Ch) (c0:List Int) (ws0:List (List Int)) (o3 o6 o7 oP:Nat) (os:List Nat) (y:LpA):Prop where
 i:y.i≤l.length
 oP:y.s.obj oP=some (.cells 82 2 (mrs os))
 o3:y.s.obj o3=some (.cells 24 17 [cpR y.c])
 o6:y.s.obj o6=some (.cells 24 17 [List.replicate 17 (.int .i64 0)])
 o7:y.s.obj o7=some (.cells 30 1 [[.view 0 [] .nil]])
 fam:Fam y.s os y.ws
 c:y.c.length=17
 M:MOk y.ws
 res:app l c0 ws0=app (l.drop y.i) y.c y.ws
theorem pages_frz {st:St} {oP:Nat} {os:List Nat} {ws:List (List Int)} (hP:st.obj oP=some (.cells 82 2 (mrs os))) (hf:Fam st os ws) (hM:MOk ws):AX.Frz st (.agg [.msl oP 2 0 os.length]) (memV ws):=by
 have hl:=hf.len
 refine .agg _ _ rfl fun i c d h1 h2=>?_
 match i,h1,h2 with
 | i + 1,h1,_=>simp at h1
 | 0,h1,h2 =>
  cases h1; cases h2
  have key:∀ (i:Nat) r r',(mrs os)[0 + i]?=some r→(pgs ws)[i]?=some r'→∃ o w,os[i]?=some o∧ws[i]?=some w∧r=[.int .i64 ((64 * i:Nat):Int),.msl o 1 0 64]∧r'=[.int .i64 ((64 * i:Nat):Int),.view 1 (irs w) .shared]:=by
   intro i r r' h1 h2
   rw [Nat.zero_add] at h1
   have hi:i < os.length:=by rw [← mrs_len os]; exact (List.getElem?_eq_some_iff.1 h1).1
   have e1:=mrs_at (List.getElem?_eq_getElem hi)
   have e2:=pgs_at (ws:=ws) (List.getElem?_eq_getElem (show i < ws.length by omega))
   rw [h1] at e1
   rw [h2] at e2
   exact ⟨_,_,List.getElem?_eq_getElem hi,List.getElem?_eq_getElem (by omega),Option.some.inj e1,Option.some.inj e2⟩
  refine .msl _ _ _ _ _ (mrs os) (pgs ws) hP (by rw [pgs_len,hl]) (by rw [mrs_len]; omega) (fun i r r' h1 h2=>?_) fun i j r r' c d h1 h2 h3 h4=>?_
  ·obtain ⟨o,w,_,_,rfl,rfl⟩:=key i r r' h1 h2
   rfl
  ·obtain ⟨o,w,ho,hw,rfl,rfl⟩:=key i r r' h1 h2
   match j,h3,h4 with
   | 0,h3,h4=>cases h3; cases h4; exact .clean _ (.int _ _)
   | 1,h3,h4=>cases h3; cases h4; exact frz_page (hf.obj i o w ho hw) (hM.each w (List.mem_of_getElem? hw))
   | j + 2,h3,_=>simp at h3
theorem set_mid {a:List (List AV)} {z r:List AV} {zs:List (List AV)} {i:Nat} (h:a.length=i):(a++z::zs).set i r=(a++[r])++zs:=by
 subst h
 rw [List.set_append_right _ _ (Nat.le_refl _),Nat.sub_self]
 simp
set_option maxHeartbeats 16000000 in
theorem apply_ok0 (c0:List Int) (hc:c0.length=17) (ws0:List (List Int)) (hM:MOk ws0) (l:List Ch) (hl:l.length≤100) (hN:∀ x ∈ l,i64 x.n):ACalls Tryz.prog 7 [.agg (cpR c0),memV ws0,.view 3 (chRs l) .shared] st0
  (fun v st'=>∃ oP os,v=.tuple [.agg (cpR (app l c0 ws0).1),.agg [.msl oP 2 0 os.length]]∧st'.obj oP=some (.cells 82 2 (mrs os))∧Fam st' os (app l c0 ws0).2) (fun _ _=>False):=by
 refine ACalls.ofBody Tryz.func7 rfl Tryz.ntmps7 rfl ?_
 have hcl:=chRs_len l
 have hpl:=pgs_len ws0
 have hn16:=hM.len
 refine goC ?_
 refine rg ?_
 refine bx (sz:=17) rfl rfl rfl (by rw [← hc]; exact cpR_len c0) fun o3 h3=>?_
 refine bxe rfl rfl rfl rfl ?_
 refine al rfl rfl fun o6 h6=>?_
 refine al rfl rfl fun o7 h7=>?_
 refine goD ?_
 refine mk (len:=ws0.length) (cap:=ws0.length) rfl (by rw [← hpl]; rfl) (by rw [← hpl]; rfl) rfl (Nat.le_refl _) (by omega) (by omega) fun oP hP=>?_
 refine bds (cs:=[.msl oP 2 0 ws0.length]) rfl rfl rfl rfl ?_
 refine goD ?_
 have n63:o6≠o3:=fun e=>by rw [e,St.obj_set] at h6; cases h6
 have n76:o7≠o6:=fun e=>by rw [e,St.obj_set] at h7; cases h7
 have n73:o7≠o3:=fun e=>by rw [e,St.obj_set_ne n63.symm,St.obj_set] at h7; cases h7
 have nP7:oP≠o7:=fun e=>by rw [e,St.obj_set] at hP; cases hP
 have nP6:oP≠o6:=fun e=>by rw [e,St.obj_set_ne n76.symm,St.obj_set] at hP; cases hP
 have nP3:oP≠o3:=fun e=>by rw [e,St.obj_set_ne n73.symm,St.obj_set_ne n63.symm,St.obj_set] at hP; cases hP
 refine AWP.loop (α:=LpC) (fun y=>[(21,.int .i64 (y.i:Int)),(20,.int .i64 (ws0.length:Int)),(19,.view 2 (pgs ws0) .shared),(8,.eptr 1 [[.msl oP 2 0 ws0.length]] 0 0),(7,.cptr o7 1 0 0),(6,.cptr o6 17 0 0),(3,.cptr o3 17 0 0),(2,.view 3 (chRs l) .shared)]) (fun y=>y.s) (C1I c0 ws0 o3 o6 o7 oP) (fun y=>ws0.length - y.i)
  ⟨_,0,[]⟩ ⟨Nat.zero_le _,St.obj_set _ _ _,?_,?_,?_,⟨fun i o w h=>by simp at h,List.nodup_nil,by simp⟩⟩ (tl8 rfl (by rw [← hpl]; rfl) rfl rfl rfl rfl rfl rfl) (.refl _) ?_
 ·show ((((st0.set o3 _).set o6 _).set o7 _).set oP _).obj o3=_
  rw [St.obj_set_ne nP3.symm,St.obj_set_ne n73.symm,St.obj_set_ne n63.symm]
  exact St.obj_set _ _ _
 ·show ((((st0.set o3 _).set o6 _).set o7 _).set oP _).obj o6=_
  rw [St.obj_set_ne nP6.symm,St.obj_set_ne n76.symm]
  exact St.obj_set _ _ _
 ·show ((((st0.set o3 _).set o6 _).set o7 _).set oP _).obj o7=_
  rw [St.obj_set_ne nP7.symm]
  exact St.obj_set _ _ _
 rintro ⟨s,i,os⟩ I
 have hos:=I.oslen
 simp only at hos
 have kP:s.obj oP=some (.cells 82 2 (mrs os++List.replicate (ws0.length - i) zP)):=I.oP
 have k3:s.obj o3=some (.cells 24 17 [cpR c0]):=I.o3
 have k6:s.obj o6=_:=I.o6
 have k7:s.obj o7=_:=I.o7
 obtain ⟨nI3,nI6,nI7,nIP⟩:=I.ne
 simp only at nI3 nI6 nI7 nIP
 refine AWP.weaken (T':=[(21,.int .i64 (i:Int)),(20,.int .i64 (ws0.length:Int)),(19,.view 2 (pgs ws0) .shared),(8,.eptr 1 [[.msl oP 2 0 ws0.length]] 0 0),(7,.cptr o7 1 0 0),(6,.cptr o6 17 0 0),(3,.cptr o3 17 0 0),(2,.view 3 (chRs l) .shared)]) (tl8 rfl rfl rfl rfl rfl rfl rfl rfl) (.refl _) ?_
 show AWP _ _ _ _ _ _ s
 by_cases hlt:i < ws0.length
 ·obtain ⟨w,hw⟩:∃ w,ws0[i]?=some w:=⟨_,List.getElem?_eq_getElem hlt⟩
  have hr:=pgs_at hw
  have hw64:=hM.at hw
  have hir:i < (pgs ws0).length:=by omega
  have hlt':(i:Int) < (ws0.length:Int):=by omega
  refine goD ?_
  refine al rfl rfl fun o10 h10=>?_
  refine goE ?_
  refine soN 10 rfl rfl rfl rfl rfl rfl h10 ?_
  refine goD ?_
  refine AWP.any rfl ?_
  show AAny _ _ _ _ _ _ _ s
  apply AAny.segW (k':=9) (Es:=[7,8]) (J:=JD s ((64 * i:Nat):Int) (.cells 3 1 (irs w))) (base:=s) (hok:=by decide +kernel) (hJ:=⟨rfl,rfl⟩) (hb:=.refl _)
  repeat (first|apply dsV (hi:=rfl) (hs:=rfl)|apply dqV (hi:=rfl) (hd:=rfl) (hw:=rfl) (h:=fun _ _=>bs0 (z:=nz))|apply dqV (hi:=rfl) (hd:=rfl) (hw:=rfl) (h:=fun _ _=>ZD (z:=nz))|apply dqV (hi:=rfl) (hd:=rfl) (hw:=rfl) (h:=fun _ _=>ZF (z:=nz))|apply dqV (hi:=rfl) (hd:=rfl) (hw:=rfl) (h:=fun _ _=>ZC (z:=nz))|apply dqV (hi:=rfl) (hd:=rfl) (hw:=rfl) (h:=fun _ _=>ZJ (z:=nz))|apply dqV (hi:=rfl) (hd:=rfl) (hw:=rfl) (h:=fun _ _=>ZK (z:=nz))|apply dqV (hi:=rfl) (hd:=rfl) (hw:=rfl) (h:=fun _ _=>ZM (z:=nz))|apply dqV (hi:=rfl) (hd:=rfl) (hw:=rfl) (h:=fun _ _=>ZN (z:=nz))|apply dqV (hi:=rfl) (hd:=rfl) (hw:=rfl) (h:=fun _ _=>ZH (z:=nz))|apply dqV (hi:=rfl) (hd:=rfl) (hw:=rfl) (h:=fun _ _=>ZQ (z:=nz))|apply dqV (hi:=rfl) (hd:=rfl) (hw:=rfl) (h:=fun _ _=>ZP (z:=nz))|apply dqV (hi:=rfl) (hd:=rfl) (hw:=rfl) (h:=fun _ _=>ZO (z:=nz))|apply dqV (hi:=rfl) (hd:=rfl) (hw:=rfl) (h:=fun _ _=>YK (z:=nz)))
  apply deV (Q:=fun v=>∃ o,v=.msl o 1 0 64) (L:=[[false,false]]) (hL:=rfl) (hd:=rfl) (hw:=rfl) (hex:=⟨_,0,rfl⟩) (h:=by
   refine ⟨?_,trivial⟩
   intro vs hvs hlk s1 hJ hb
   obtain ⟨v1,v2,rfl,e1,e2⟩:=vs2 hvs
   obtain rfl:=none_of e1
   obtain rfl:=none_of e2
   obtain rfl:s1=s:=hJ.1
   refine cl rfl rfl (clone_ok w hw64 _) fun v st' ⟨o',ho',hv,hst⟩=>?_
   subst hv hst
   exact nl ⟨_,rfl,⟨o',rfl⟩,⟨o',rfl,ho',rfl,(fun x hx=>by cases hx)⟩,StLe.new ho' (.refl _)⟩)
  rintro v ⟨oA,rfl⟩
  apply deV (Q:=fun v=>∃ o,v=.agg [.int .i64 ((64 * i:Nat):Int),.msl o 1 0 64]) (L:=[[true,false]]) (hL:=rfl) (hd:=rfl) (hw:=rfl) (hex:=⟨_,0,rfl⟩) (h:=by
   refine ⟨?_,trivial⟩
   intro vs hvs hlk s1 hJ hb
   obtain ⟨v1,v2,rfl,e1,e2⟩:=vs2 hvs
   obtain rfl:=none_of e2
   cases v1 with
   | none=>cases e1
   | some v1 =>
    have ev1:v1=.msl oA 1 0 64:=hlk (7,some v1) (.head _) (Nat.le_of_ble_eq_true rfl) v1 rfl
    subst ev1
    obtain ⟨o7',h7',h8',rfl,h9'⟩:=hJ
    cases h7'
    exact bds (cs:=[.int .i64 ((64 * i:Nat):Int),.msl oA 1 0 64]) rfl rfl rfl rfl (nl ⟨_,rfl,⟨oA,rfl⟩,⟨oA,rfl,h8',rfl,(fun x hx=>by cases hx; rfl)⟩,StLe.new h8' (.refl _)⟩))
  rintro v ⟨oB,rfl⟩
  refine dnV fun s1 hs=>?_
  obtain ⟨o,hq7,ho',rfl,hq9⟩:=hs
  cases hq7
  cases hq9 _ rfl
  refine AAny.text rfl ?_
  have neP:oP≠oA:=fun e=>by rw [e,ho'] at kP; cases kP
  have ne3:o3≠oA:=fun e=>by rw [e,ho'] at k3; cases k3
  have ne6:o6≠oA:=fun e=>by rw [e,ho'] at k6; cases k6
  have ne7:o7≠oA:=fun e=>by rw [e,ho'] at k7; cases k7
  obtain ⟨d,hd⟩:∃ d,ws0.length - i=d + 1:=⟨ws0.length - i - 1,by omega⟩
  have hd':ws0.length - (i + 1)=d:=by omega
  have hml:=mrs_len os
  have kP':(s.set oA (.cells 3 1 (irs w))).obj oP=some (.cells 82 2 (mrs os++zP::List.replicate d zP)):=by rw [St.obj_set_ne neP,kP,hd]; rfl
  refine ixm (m:=i) rfl rfl rfl rfl hlt ?_
  refine so (row:=zP) (rows':=mrs (os++[oA])++List.replicate d zP) rfl rfl rfl kP' (by rw [Nat.zero_add,List.getElem?_append_right (by omega),hml,hos,Nat.sub_self]; rfl) rfl rfl rfl (by rw [Nat.zero_add,set_mid (by omega),mrs_snoc,hos]; rfl) ?_
  refine goD ?_
  obtain ⟨s2,hs2⟩:∃ s2:St,s2=(s.set oA (.cells 3 1 (irs w))).set oP (.cells 82 2 (mrs (os++[oA])++List.replicate d zP)):=⟨_,rfl⟩
  rw [← hs2]
  have hobj:∀ p,p≠oP→p≠oA→s2.obj p=s.obj p:=fun p h1 h2=>by rw [hs2,St.obj_set_ne h1,St.obj_set_ne h2]
  refine ⟨⟨s2,i + 1,os++[oA]⟩,⟨hlt,?_,(hobj o3 nP3.symm ne3).trans k3,(hobj o6 nP6.symm ne6).trans k6,(hobj o7 nP7.symm ne7).trans k7,?_⟩,by show _ - (i + 1) < _ - i; omega,(tl8 rfl rfl rfl rfl rfl rfl rfl rfl),.refl _⟩
  ·show s2.obj oP=some (AObj.cells _ _ (mrs (os++[oA])++List.replicate (ws0.length - (i + 1)) zP))
   rw [hd',hs2]
   exact St.obj_set _ _ _
  refine I.fam.snoc hw hos ho' ?_ fun p hp c hc hm=>?_
  ·show s2.obj oA=_
   rw [hs2,St.obj_set_ne neP.symm]
   exact St.obj_set _ _ _
  ·show s2.obj p=_
   rw [hobj p (fun e=>nIP (e ▸ hm)) hp]
   exact hc
 ·have hin:i=ws0.length:=by have:i≤_:=I.i; omega
  have hlt':¬ (i:Int) < (ws0.length:Int):=by omega
  have hf:=I.fam
  simp only at hf
  rw [hin,List.take_length] at hf
  rw [hin,Nat.sub_self,List.replicate_zero,List.append_nil] at kP
  have hosn:os.length=ws0.length:=by omega
  refine goD ?_
  refine AWP.exit (blk_hit ?_)
  refine goD ?_
  refine AWP.loop (α:=LpA) (fun y=>[(39,.int .i64 (y.i:Int)),(38,.int .i64 (l.length:Int)),(37,.view 3 (chRs l) .shared),(8,.eptr 1 [[.msl oP 2 0 ws0.length]] 0 0),(7,.cptr o7 1 0 0),(6,.cptr o6 17 0 0),(3,.cptr o3 17 0 0)]) (fun y=>y.s) (C2I l c0 ws0 o3 o6 o7 oP os) (fun y=>l.length - y.i)
   ⟨s,0,c0,ws0⟩ ⟨Nat.zero_le _,kP,k3,k6,k7,hf,hc,hM,rfl⟩ (tl7 rfl (by rw [← hcl]; rfl) rfl rfl rfl rfl rfl) (.refl _) ?_
  clear hf I kP k3 k6 k7
  rintro ⟨s,j,c,ws⟩ I
  refine AWP.weaken (T':=[(39,.int .i64 (j:Int)),(38,.int .i64 (l.length:Int)),(37,.view 3 (chRs l) .shared),(8,.eptr 1 [[.msl oP 2 0 ws0.length]] 0 0),(7,.cptr o7 1 0 0),(6,.cptr o6 17 0 0),(3,.cptr o3 17 0 0)]) (tl7 rfl rfl rfl rfl rfl rfl rfl) (.refl _) ?_
  have kP:s.obj oP=some (.cells 82 2 (mrs os)):=I.oP
  have k3:s.obj o3=some (.cells 24 17 [cpR c]):=I.o3
  have k6:s.obj o6=_:=I.o6
  have k7:s.obj o7=_:=I.o7
  have m3:o3 ∉ os:=fun hm=>by obtain ⟨w,hw⟩:=I.fam.sz hm; simp only at hw; rw [k3] at hw; cases hw
  have m6:o6 ∉ os:=fun hm=>by obtain ⟨w,hw⟩:=I.fam.sz hm; simp only at hw; rw [k6] at hw; cases hw
  have m7:o7 ∉ os:=fun hm=>by obtain ⟨w,hw⟩:=I.fam.sz hm; simp only at hw; rw [k7] at hw; cases hw
  have mP:oP ∉ os:=fun hm=>by obtain ⟨w,hw⟩:=I.fam.sz hm; simp only at hw; rw [kP] at hw; cases hw
  show AWP _ _ _ _ _ _ s
  by_cases hlt:j < l.length
  ·obtain ⟨x,hx⟩:∃ x,l[j]?=some x:=⟨_,List.getElem?_eq_getElem hlt⟩
   have hr:=chRs_at hx
   have hir:j < (chRs l).length:=by omega
   have hlt':(j:Int) < (l.length:Int):=by omega
   have hxN:=hN x (List.mem_of_getElem? hx)
   have hres:=I.res
   simp only at hres
   rw [app_drop hx] at hres
   obtain ⟨q1,q2⟩:=app1_ok (x:=x) I.c I.M
   simp only at q1 q2
   cases hreg:x.reg with
   | false =>
    rw [hreg] at hr
    have happ:app1 x c ws=(c,setw ws x.n x.w):=by unfold app1; rw [if_pos hreg]
    rw [happ] at hres q2
    refine goD ?_
    have hwr:=write_ok kP I.fam I.M x.n x.w hxN
    rw [hosn] at hwr
    refine cl rfl rfl hwr fun v st' ⟨hf',hfr⟩=>?_
    refine goD ?_
    exact ⟨⟨st',j + 1,c,setw ws x.n x.w⟩,⟨hlt,(hfr _ mP).trans kP,(hfr _ m3).trans k3,(hfr _ m6).trans k6,(hfr _ m7).trans k7,hf',I.c,q2,hres⟩,by show _ - (j + 1) < _ - j; omega,(tl7 rfl rfl rfl rfl rfl rfl rfl),.refl _⟩
   | true =>
    rw [hreg] at hr
    by_cases h0:0≤x.n
    ·have h0':x.n ≥ 0:=h0
     by_cases h16:x.n < 16
     ·obtain ⟨m,hm⟩:∃ m:Nat,x.n=(m:Int):=⟨x.n.toNat,by omega⟩
      have hml:m < c.length:=by have:=I.c; simp only at this; omega
      have hcl2:=cpR_len c
      have happ:app1 x c ws=(c.set m x.w,ws):=by unfold app1; rw [if_neg (by rw [hreg]; decide),if_pos ⟨h0,h16⟩,show x.n.toNat=m by omega]
      rw [happ] at hres q1
      refine goD ?_
      refine ixa (m:=m) rfl rfl hm (by omega) rfl ?_
      have e1:0 + 0 + m * 1=m:=by omega
      refine so (rows':=[cpR (c.set m x.w)]) rfl rfl rfl k3 rfl rfl rfl (Nat.ble_eq_true_of_le (by show 0 + 0 + m * 1 + 1≤(cpR c).length; omega)) (by show [rowSet (cpR c) (0 + 0 + m * 1) [.int .i64 x.w]]=_; rw [e1,rowSet_one (by omega),cpR_set]) ?_
      refine goD ?_
      obtain ⟨s2,hs2⟩:∃ s2:St,s2=s.set o3 (.cells 24 17 [cpR (c.set m x.w)]):=⟨_,rfl⟩
      rw [← hs2]
      have hobj:∀ p,p≠o3→s2.obj p=s.obj p:=fun p h1=>by rw [hs2,St.obj_set_ne h1]
      refine ⟨⟨s2,j + 1,c.set m x.w,ws⟩,⟨hlt,(hobj _ nP3).trans kP,by rw [hs2]; exact St.obj_set _ _ _,(hobj _ n63).trans k6,(hobj _ n73).trans k7,?_,q1,I.M,hres⟩,by show _ - (j + 1) < _ - j; omega,(tl7 rfl rfl rfl rfl rfl rfl rfl),.refl _⟩
      exact ⟨fun p o w h1 h2=>(hobj o (fun e=>m3 (e ▸ List.mem_of_getElem? h1))).trans (I.fam.obj p o w h1 h2),I.fam.nd,I.fam.len⟩
     ·have happ:app1 x c ws=(c,ws):=by unfold app1; rw [if_neg (by rw [hreg]; decide),if_neg (by omega)]
      rw [happ] at hres
      refine goD ?_
      exact ⟨⟨s,j + 1,c,ws⟩,⟨hlt,kP,k3,k6,k7,I.fam,I.c,I.M,hres⟩,by show _ - (j + 1) < _ - j; omega,(tl7 rfl rfl rfl rfl rfl rfl rfl),.refl _⟩
    ·have h0':¬ x.n ≥ 0:=h0
     have happ:app1 x c ws=(c,ws):=by unfold app1; rw [if_neg (by rw [hreg]; decide),if_neg (by omega)]
     rw [happ] at hres
     refine goD ?_
     exact ⟨⟨s,j + 1,c,ws⟩,⟨hlt,kP,k3,k6,k7,I.fam,I.c,I.M,hres⟩,by show _ - (j + 1) < _ - j; omega,(tl7 rfl rfl rfl rfl rfl rfl rfl),.refl _⟩
  ·have hin2:j=l.length:=by have:j≤_:=I.i; omega
   have hlt':¬ (j:Int) < (l.length:Int):=by omega
   have hres:=I.res
   simp only at hres
   rw [hin2,List.drop_length] at hres
   have hc17:c.length=17:=I.c
   have hcl2:=cpR_len c
   refine goD ?_
   refine AWP.exit (blk_hit ?_)
   refine goD ?_
   refine AWP.any rfl ?_
   have hs0:s=(s.set o6 (.cells 24 17 [List.replicate 17 (.int .i64 0)])).set o7 (.cells 30 1 [[.view 0 [] .nil]]):=by rw [St.set_same k6,St.set_same k7]
   rw [hs0]
   apply AAny.segY (k':=4) (S:=_) (Es:=[2,3]) (sts:=fun bs=>match bs with|[b1,b2]=>some ((s.set o6 (.cells 24 17 [bif b1 then cpR c else List.replicate 17 (.int .i64 0)])).set o7 (.cells 30 1 [[bif b2 then .msl oP 2 0 ws0.length else .view 0 [] .nil]]))|_=>none) (F:=fun x y=>y=x) (base:=wo s o6 o7) (hok:=by decide +kernel) (hS:=rfl) (h0:=rfl) (hF:=rfl) (hb:=StLe.wo _ _)
   apply dqY (v:=.agg (cpR c)) (hi:=rfl) (hd:=rfl) (hw:=rfl) (h:=fun st' hle=>lcW (row:=cpR c) rfl rfl rfl (hle.obj _ _ (by rw [wo_obj n63.symm n73.symm]; exact k3)) rfl (by rw [hcl2,hc17]; rfl) nz)
   repeat (first|apply dsY (hi:=rfl) (hs:=rfl)|apply dqY (hi:=rfl) (hd:=rfl) (hw:=rfl) (h:=fun _ _=>ZD (z:=nz))|apply dqY (hi:=rfl) (hd:=rfl) (hw:=rfl) (h:=fun _ _=>ZF (z:=nz))|apply dqY (hi:=rfl) (hd:=rfl) (hw:=rfl) (h:=fun _ _=>ZC (z:=nz))|apply dqY (hi:=rfl) (hd:=rfl) (hw:=rfl) (h:=fun _ _=>ZJ (z:=nz))|apply dqY (hi:=rfl) (hd:=rfl) (hw:=rfl) (h:=fun _ _=>ZK (z:=nz))|apply dqY (hi:=rfl) (hd:=rfl) (hw:=rfl) (h:=fun _ _=>ZM (z:=nz))|apply dqY (hi:=rfl) (hd:=rfl) (hw:=rfl) (h:=fun _ _=>ZN (z:=nz))|apply dqY (hi:=rfl) (hd:=rfl) (hw:=rfl) (h:=fun _ _=>ZH (z:=nz))|apply dqY (hi:=rfl) (hd:=rfl) (hw:=rfl) (h:=fun _ _=>ZQ (z:=nz))|apply dqY (hi:=rfl) (hd:=rfl) (hw:=rfl) (h:=fun _ _=>ZP (z:=nz))|apply dqY (hi:=rfl) (hd:=rfl) (hw:=rfl) (h:=fun _ _=>ZO (z:=nz))|apply dqY (hi:=rfl) (hd:=rfl) (hw:=rfl) (h:=fun _ _=>YK (z:=nz)))
   apply deY (L:=[[false,false]]) (hL:=rfl) (hd:=rfl) (hw:=rfl) (h:=by
    refine ⟨?_,trivial⟩
    intro s0 e
    cases e
    refine ⟨_,rfl,fun s hs hle=>?_⟩
    subst hs
    simp only [cond_true,cond_false]
    refine so (rows':=[cpR c]) rfl rfl rfl (St.obj_under n76 _ _) rfl rfl (by show Nat.beq (cpR c).length 17=true; rw [hcl2,hc17]; rfl) (Nat.ble_eq_true_of_le (by show 0 + (cpR c).length≤17; omega)) (by show [rowSet _ 0 (cpR c)]=_; rw [rowSet_all (by rw [List.length_replicate]; omega)]) ?_
    exact nl ⟨rfl,St.set_inner n76 _ _ _,by rw [St.set_inner n76]; exact StLe.wo _ _⟩)
   apply deY (L:=[[true,false]]) (hL:=rfl) (hd:=rfl) (hw:=rfl) (h:=by
    refine ⟨?_,trivial⟩
    intro s0 e
    cases e
    refine ⟨_,rfl,fun s hs hle=>?_⟩
    subst hs
    simp only [cond_true,cond_false]
    refine so (rows':=[[.msl oP 2 0 ws0.length]]) rfl rfl rfl (St.obj_set _ _ _) rfl rfl rfl rfl rfl ?_
    exact nl ⟨rfl,St.set_set _ _ _ _,by rw [St.set_set]; exact StLe.wo _ _⟩)
   refine dnY rfl fun s1 hs _=>?_
   subst hs
   refine AAny.text rfl ?_
   refine goD ?_
   refine AWP.ret (rets (resCW rfl (St.obj_under n76 _ _) rfl rfl (by show Nat.beq 17 (cpR c).length=true; rw [hcl2,hc17]; rfl) (resCW rfl (St.obj_set _ _ _) rfl rfl rfl rfl)) (.refl _) (.refl _) ⟨oP,os,?_,?_,?_⟩)
   ·show AV.tuple [.agg (cpR c),.agg [.msl oP 2 0 ws0.length]]=_
    rw [hres,hosn]
    rfl
   ·rw [St.obj_set_ne nP7,St.obj_set_ne nP6]
    exact kP
   ·rw [hres]
    exact ⟨fun p o w h1 h2=>by
     have hm:=List.mem_of_getElem? h1
     have g7:o≠o7:=fun e=>m7 (by rw [← e]; exact hm)
     have g6:o≠o6:=fun e=>m6 (by rw [← e]; exact hm)
     rw [St.obj_set_ne g7,St.obj_set_ne g6]
     exact I.fam.obj p o w h1 h2,I.fam.nd,I.fam.len⟩
theorem apply_ok (c:List Int) (hc:c.length=17) (ws:List (List Int)) (hM:MOk ws) (l:List Ch) (hl:l.length≤100) (hN:∀ x ∈ l,i64 x.n) (st:St):ACalls Tryz.prog 7 [.agg (cpR c),memV ws,.view 3 (chRs l) .shared] st
  (fun v st'=>v=.tuple [.agg (cpR (app l c ws).1),memV (app l c ws).2]∧st'=st) (fun _ _=>False):=by
 refine AX.pure_call (gl:=[]) (by simp) (by simp) (fun v hv=>?_) (apply_ok0 c hc ws hM l hl hN) fun v st' ⟨oP,os,hv,hP,hf⟩=>⟨_,hv ▸ tup2_frz (.clean _ (cpR_clean _)) (pages_frz hP hf (app_ok hc hM).2),rfl⟩
 simp only [List.mem_cons,List.not_mem_nil,or_false] at hv
 rcases hv with rfl|rfl|rfl
 ·exact cpR_clean _
 ·exact memV_clean _
 ·exact chRs_clean _
end Go.Proofs
namespace Go.AX
open Go.AM

inductive KX where
 | num (k:IntKind)
 | bool
 | str
 | slice (e:TypeId)
 | arr (len:Nat) (e:TypeId)
 | struct (fs:List (Nat × TypeId)) (pl:List (Nat × Nat))
 | ptr
 | imap (e:TypeId)
 | other
def kindOk (P:Program) (td:TypeDesc):KX→Prop
 | .num k=>td=.int k
 | .bool=>td=.bool
 | .str=>td=.string
 | .slice e=>td=.slice e
 | .arr n e=>td=.array n e
 | .struct fs pl=>∃ a:Array Field,td=.struct a∧Places P a pl∧∀ (f off t:Nat),fs[f]?=some (off,t)→∃ fld:Field,a[f]?=some fld∧fld.offset=off∧fld.type=t
 | .ptr=>∃ e,td=.pointer e
 | .imap e=>∃ kt,td=.map kt e∧P.underlying kt=some (.int .i64)
 | .other=>True
structure TX where
 kind:KX
 agg:Bool
 size:Nat
 bytes:Nat
 zero:List AV
 flat:Option (List Sh)
structure TOk (P:Program) (t:TypeId) (x:TX):Prop where
 out:∃ td z,Und P t td∧Inf P t x.size x.bytes z∧aggD td=x.agg∧kindOk P td x.kind∧zok x.size z=true∧zrow z=x.zero
 flat:∀ sh,x.flat=some sh→FlatT P t sh
 zval:∀ z,Inf P t x.size x.bytes z→absV z=(bif x.agg then .agg x.zero else x.zero.headD (.lit undef))
structure XS where
 objs:Tr AObj
 lim:Nat
def XS.get (s:XS) (k:Nat):Option AObj:=s.objs.get k
structure Env where
 ty:Nat→Option TX
 fn:Nat→Option Func
 gl:List (Nat × List AV)
 inl:Nat→Bool
 byte:Nat→Bool
 memo:Nat→List AV→Option AV
 sp:Nat→List AV→XS→Option (AV × XS)
def Env.st (E:Env):St:={ obj:=fun _=>none,tok:=fun _=>false,glob:=E.gl }

structure Rep (E:Env) (ρ:Ren) (s:XS) (st:St):Prop where
 glob:st.glob=E.gl
 obj:∀ k c o,s.get k=some c→ρ k=some o→∃ c',st.obj o=some c'∧OR ρ c c'
 inj:∀ k k' c c' o,s.get k=some c→s.get k'=some c'→ρ k=some o→ρ k'=some o→k=k'
 lim:∀ k,s.lim≤k→ρ k=none∧ρ.rs k=false

structure EnvOk (P:Program) (E:Env):Prop where
 ty:∀ t x,E.ty t=some x→TOk P t x
 fn : ∀ f fn, E.fn f = some fn → P.funcs[f]? = some fn ∧ fn.body.isNone = false ∧ (fn.name == "runtime.NumGoroutine") = false
 gl:∀ p ∈ E.gl,∀ c ∈ p.2,Clean c
 mixed:P.follows .mixedOrders=true
 byte:∀ t,E.byte t=true→Inf P t 1 1 (.int .u8 0)
 memo:∀ f vs v,E.memo f vs=some v→Clean v∧∀ st:St,(∀ p ∈ E.gl,p ∈ st.glob)→ACalls P f vs st (fun u st'=>u=v∧st'=st) (fun _ _=>False)
 sp:∀ f vs s v s',E.sp f vs s=some (v,s')→∀ ρ us st,LR ρ vs us→Rep E ρ s st→ACalls P f us st (fun u st'=>∃ ρ',RLe ρ ρ'∧VR ρ' v u∧Rep E ρ' s' st') (fun _ _=>False)
theorem Rep.objc {E:Env} {ρ:Ren} {s:XS} {st:St} (h:Rep E ρ s st) (k:Nat) (o:Nat) {ty:TypeId} {sz:Nat} {rows:List (List AV)} (hk:s.get k=some (.cells ty sz rows)) (ho:ρ k=some o) :
  ∃ ty' sz' rows1 rows',AObj.cells ty sz rows=.cells ty' sz' rows1∧st.obj o=some (.cells ty' sz' rows')∧LLR ρ rows1 rows':=by
 obtain ⟨c',h1,h2⟩:=h.obj k _ o hk ho
 obtain ⟨rows',rfl,h3⟩:=h2.cells_inv
 exact ⟨ty,sz,rows,rows',rfl,h1,h3⟩

/-! Operands, out of what is known. -/
def evX (E:Env) (G:Gt):Operand→Option AV
 | .tmp t=>G t
 | .const v=>some (absV v)
 | .global gi=>(E.st.row gi).map fun row=>.eptr row.length [row] 0 0
 | .func f=>some (.func (.func f) [] [])
def evsX (E:Env) (G:Gt):List Operand→Option (List AV)
 | []=>some []
 | x::r=>match evX E G x,evsX E G r with
  | some v,some vs=>some (v::vs)
  | _,_=>none
def evPartsX (E:Env) (G:Gt):List (Nat × Operand)→Option (List (Nat × AV))
 | []=>some []
 | (i,x)::r=>match evX E G x,evPartsX E G r with
  | some v,some vs=>some ((i,v)::vs)
  | _,_=>none
def wantedX (ops:Array Oper) (G:Gt) (o:Oper):Option Bool :=
 match o.guard with
 | none=>some true
 | some (j,want) =>
  match (ops[j]?).bind (·.dst) with
  | some t=>match G t with
   | some (.bool b)=>some (b == want)
   | some (.lit (.tuple _))=>some false
   | _=>none
  | none=>none
def valX (E:Env) (G:Gt):Op→Option AV
 | .move x|.assign x=>evX E G x
 | .pick c a b=>match evX E G c with
  | some (.bool true)=>evX E G a
  | some (.bool false)=>evX E G b
  | _=>none
 | .binOp bo _ x y _=>cmpA bo (evX E G x) (evX E G y)
 | .unOp .not _ x=>match evX E G x with
  | some (.bool b)=>some (.bool (!b))
  | _=>none
 | .extract x i=>match evX E G x with
  | some (.tuple vs)=>vs[i]?
  | _=>none
 | .nilCheck x=>match evX E G x with
  | some (.eptr s rows i off)=>some (.eptr s rows i off)
  | some (.cptr o s i off)=>some (.cptr o s i off)
  | _=>none
 | _=>none
theorem VR.of_clean {ρ:Ren} {v:AV} (h:Clean v):VR ρ v v:=by
 induction h with
 | int=>exact .int _ _
 | bool=>exact .bool _
 | str=>exact .str _
 | lit=>exact .lit _
 | agg cs _ ih=>exact .agg _ _ rfl fun i c d h1 h2=>by rw [h1] at h2; cases h2; exact ih c (List.mem_of_getElem? h1)
 | tuple cs _ ih=>exact .tuple _ _ rfl fun i c d h1 h2=>by rw [h1] at h2; cases h2; exact ih c (List.mem_of_getElem? h1)
 | view sz rows t ht _ ih =>
  refine .view _ _ _ _ ht rfl (fun i r r' h1 h2=>by rw [h1] at h2; cases h2; rfl) fun i j r r' c d h1 h2 h3 h4=>?_
  rw [h1] at h2; cases h2
  rw [h3] at h4; cases h4
  exact ih r (List.mem_of_getElem? h1) c (List.mem_of_getElem? h3)
 | eptr sz rows i0 off _ ih =>
  refine .eptr _ _ _ _ _ rfl (fun i r r' h1 h2=>by rw [h1] at h2; cases h2; rfl) fun i j r r' c d h1 h2 h3 h4=>?_
  rw [h1] at h2; cases h2
  rw [h3] at h4; cases h4
  exact ih r (List.mem_of_getElem? h1) c (List.mem_of_getElem? h3)
theorem rows_eq {rows rows':List (List AV)} (hl:rows.length=rows'.length) (hl2:∀ (i:Nat) r r',rows[i]?=some r→rows'[i]?=some r'→r.length=r'.length)
  (h:∀ (i j:Nat) r r' c d,rows[i]?=some r→rows'[i]?=some r'→r[j]?=some c→r'[j]?=some d→d=c):rows'=rows:=by
 apply List.ext_getElem hl.symm
 intro i h1 h2
 apply List.ext_getElem (hl2 i _ _ (List.getElem?_eq_getElem h2) (List.getElem?_eq_getElem h1)).symm
 intro j h3 h4
 exact h i j _ _ _ _ (List.getElem?_eq_getElem h2) (List.getElem?_eq_getElem h1) (List.getElem?_eq_getElem h4) (List.getElem?_eq_getElem h3)
theorem VR.clean_eq {ρ:Ren} {v u:AV} (h:VR ρ v u):Clean v→u=v:=by
 induction h with
 | int=>exact fun _=>rfl
 | bool=>exact fun _=>rfl
 | str=>exact fun _=>rfl
 | lit=>exact fun _=>rfl
 | agg cs ds hl _ ih =>
  intro hc
  cases hc with
  | agg _ hc =>
   congr 1
   apply List.ext_getElem hl.symm
   intro i h1 h2
   exact ih i _ _ (List.getElem?_eq_getElem h2) (List.getElem?_eq_getElem h1) (hc _ (List.getElem_mem h2))
 | tuple cs ds hl _ ih =>
  intro hc
  cases hc with
  | tuple _ hc =>
   congr 1
   apply List.ext_getElem hl.symm
   intro i h1 h2
   exact ih i _ _ (List.getElem?_eq_getElem h2) (List.getElem?_eq_getElem h1) (hc _ (List.getElem_mem h2))
 | view sz rows rows' t ht hl hl2 _ ih =>
  intro hc
  cases hc with
  | view _ _ _ _ hc=>rw [rows_eq hl hl2 fun i j r r' c d h1 h2 h3 h4=>ih i j r r' c d h1 h2 h3 h4 (hc r (List.mem_of_getElem? h1) c (List.mem_of_getElem? h3))]
 | eptr sz rows rows' i0 off hl hl2 _ ih =>
  intro hc
  cases hc with
  | eptr _ _ _ _ hc=>rw [rows_eq hl hl2 fun i j r r' c d h1 h2 h3 h4=>ih i j r r' c d h1 h2 h3 h4 (hc r (List.mem_of_getElem? h1) c (List.mem_of_getElem? h3))]
 | cptr=>intro hc; cases hc
 | msl=>intro hc; cases hc
 | amap=>intro hc; cases hc
 | func=>intro hc; cases hc
theorem clean_abs1 (v:Value):Clean (abs1 v):=by
 unfold abs1
 split
 ·exact .int _ _
 ·exact .bool _
 ·exact .str _
 ·exact .view _ _ _ (fun k e h=>by cases h) (fun r hr=>by cases hr)
 ·exact .lit _
theorem clean_absV (v:Value):Clean (absV v):=by
 unfold absV
 split
 ·rename_i cs
  cases cs.all Value.oneCell' with
  | false=>exact .lit _
  | true =>
   refine .agg _ fun c hc=>?_
   simp only [List.mem_map] at hc
   obtain ⟨v,_,rfl⟩:=hc
   exact clean_abs1 v
 ·exact clean_abs1 _

section
variable {P:Program} {n:Nat} {K:Post} {Ep:EPost} {G:Gt} {τ:Tmps} {st:St} {ops:Array Oper} {rest:List Oper} {E:Env} {ρ:Ren} {s:XS}

theorem evR (hE:EnvOk P E) (hT:TR ρ G τ) (hg:st.glob=E.gl) {x:Operand} {v:AV} (h:evX E G x=some v):∃ u,ev st τ x=some u∧VR ρ v u:=by
 cases x with
 | tmp t=>exact hT.get h
 | const c=>cases h; exact ⟨_,rfl,VR.of_clean (clean_absV c)⟩
 | global gi =>
  simp only [evX,Option.map_eq_some_iff] at h
  obtain ⟨row,h1,rfl⟩:=h
  have h2:st.row gi=some row:=by
   rw [← h1]
   unfold St.row
   rw [hg]
   rfl
  refine ⟨.eptr row.length [row] 0 0,by simp only [ev,h2,Option.map_some],VR.of_clean (.eptr _ _ _ _ fun r hr c hc=>?_)⟩
  rw [List.mem_singleton.1 hr] at hc
  simp only [St.row,Option.map_eq_some_iff] at h1
  obtain ⟨⟨gi',row'⟩,h3,rfl⟩:=h1
  exact hE.gl _ (List.mem_of_find?_eq_some h3) c hc
 | func f=>cases h; exact ⟨_,rfl,.func _⟩
theorem evsR (hE:EnvOk P E) (hT:TR ρ G τ) (hg:st.glob=E.gl):∀ {xs:List Operand} {vs:List AV},evsX E G xs=some vs→∃ us,evs st τ xs=some us∧LR ρ vs us
 | [],vs,h=>by cases h; exact ⟨_,rfl,.nil⟩
 | x::r,vs,h=>by
  unfold evsX at h
  cases h1:evX E G x with
  | none=>rw [h1] at h; cases h
  | some v =>
   cases h2:evsX E G r with
   | none=>rw [h1,h2] at h; cases h
   | some vs' =>
    rw [h1,h2] at h
    cases h
    obtain ⟨u,e1,r1⟩:=evR hE hT hg h1
    obtain ⟨us,e2,r2⟩:=evsR hE hT hg h2
    exact ⟨u::us,by rw [evs,e1,e2],.cons r1 r2⟩
theorem goesR (hT:TR ρ G τ) {o:Oper} {b:Bool} (h:wantedX ops G o=some b):wantedA ops τ o=some b:=by
 unfold wantedX at h
 unfold wantedA
 split at h
 ·rename_i hg
  simp only [hg]
  exact h
 ·rename_i j want hg
  simp only [hg]
  split at h
  ·rename_i t ht
   simp only [ht]
   split at h
   ·rename_i c hc
    obtain ⟨u,hu,hv⟩:=hT.get hc
    cases hv
    simp only [hu]
    exact h
   ·rename_i vs hc
    obtain ⟨u,hu,hv⟩:=hT.get hc
    cases hv
    simp only [hu]
    exact h
   ·cases h
  ·cases h
theorem cmpAR {bo:BinOp} {x y x' y':Option AV} {v:AV} (h:cmpA bo x y=some v) (hx:∀ a,x=some a→∃ b,x'=some b∧VR ρ a b) (hy:∀ a,y=some a→∃ b,y'=some b∧VR ρ a b):∃ u,cmpA bo x' y'=some u∧VR ρ v u:=by
 unfold cmpA at h
 split at h
 ·obtain ⟨b1,rfl,r1⟩:=hx _ rfl
  obtain ⟨b2,rfl,r2⟩:=hy _ rfl
  cases r1; cases r2
  refine ⟨v,by unfold cmpA; exact h,?_⟩
  rename_i j a k b
  cases hk:kindEq j k with
  | false=>rw [hk] at h; cases h
  | true =>
   rw [hk] at h
   cases bo <;> simp only [cond_true,Option.some.injEq,reduceCtorEq] at h <;> subst h <;> exact .bool _
 ·obtain ⟨b1,rfl,r1⟩:=hx _ rfl
  obtain ⟨b2,rfl,r2⟩:=hy _ rfl
  cases r1; cases r2
  refine ⟨v,by unfold cmpA; exact h,?_⟩
  cases bo <;> simp only [Option.some.injEq,reduceCtorEq] at h <;> subst h <;> exact .bool _
 ·cases h
theorem valAR (hE:EnvOk P E) (hT:TR ρ G τ) (hg:st.glob=E.gl) {o:Op} {v:AV} (h:valX E G o=some v):∃ u,valA st τ o=some u∧VR ρ v u:=by
 have e:∀ {x:Operand} {v:AV},evX E G x=some v→∃ u,ev st τ x=some u∧VR ρ v u:=fun h=>evR hE hT hg h
 cases o <;> simp only [valX,valA,reduceCtorEq] at h ⊢
 case move x=>exact e h
 case assign x=>exact e h
 case pick c a b =>
  split at h
  ·rename_i hc
   obtain ⟨u,h1,h2⟩:=e hc
   cases h2
   rw [h1]
   exact e h
  ·rename_i hc
   obtain ⟨u,h1,h2⟩:=e hc
   cases h2
   rw [h1]
   exact e h
  ·cases h
 case nilCheck x =>
  split at h
  ·rename_i hc
   obtain ⟨u,h1,h2⟩:=e hc
   rw [h1]
   cases h
   cases h2 with
   | eptr _ _ _ _ _ q1 q2 q3=>exact ⟨_,rfl,.eptr _ _ _ _ _ q1 q2 q3⟩
  ·rename_i hc
   obtain ⟨u,h1,h2⟩:=e hc
   rw [h1]
   cases h
   cases h2 with
   | cptr _ _ _ _ _ q1=>exact ⟨_,rfl,.cptr _ _ _ _ _ q1⟩
  ·cases h
 case binOp bo t x y u=>exact cmpAR h (fun a ha=>e ha) (fun a ha=>e ha)
 case unOp uo t x =>
  cases uo <;> simp only [reduceCtorEq] at h ⊢
  split at h
  ·rename_i hc
   obtain ⟨u,h1,h2⟩:=e hc
   cases h2
   rw [h1]
   cases h
   exact ⟨_,rfl,.bool _⟩
  ·cases h
 case extract x i =>
  split at h
  ·rename_i hc
   obtain ⟨u,h1,h2⟩:=e hc
   rw [h1]
   cases h2 with
   | tuple _ _ q1 q2=>exact LR.get ⟨q1,q2⟩ h
  ·cases h
end
end Go.AX
namespace Go.AX
open Go.AM

def arith (bo:BinOp) (k:IntKind) (a b:Int):Option Int :=
 match bo with
 | .add=>some (k.wrap (a + b))
 | .sub=>some (k.wrap (a - b))
 | .mul=>some (k.wrap (a * b))
 | .quo=>if b=0 then none else some (k.wrap (a.tdiv b))
 | .rem=>if b=0 then none else some (a.tmod b)
 | .and=>some (bits .and k a b)
 | .or=>some (bits .or k a b)
 | .xor=>some (bits .xor k a b)
 | _=>none
def shift (bo:BinOp) (k:IntKind) (a:Int) (b:Nat):Option Int :=
 match bo with
 | .shl=>some (k.wrap (a * 2 ^ (min b k.bits)))
 | .shr=>some (a.fdiv (2 ^ (min b k.bits)))
 | _=>none
def isShift:BinOp→Bool
 | .shl|.shr=>true
 | _=>false
def nat?:Int→Option Nat
 | .ofNat n=>some n
 | _=>none
theorem nat?_eq {i:Int} {m:Nat} (h:nat? i=some m):i=(m:Int):=by
 cases i with
 | ofNat n=>cases h; rfl
 | negSucc n=>cases h
def binX (E:Env) (bo:BinOp) (t:TypeId) (x y:Option AV):Option AV :=
 match x,y with
 | some (.int k a),some (.int k' b) =>
  bif isShift bo then (match nat? b with
   | some m=>(shift bo k a m).map (.int k)
   | none=>none)
  else bif kindEq k k' then (arith bo k a b).map (.int k) else none
 | some (.str a),some (.str b)=>(match bo with
  | .add=>bif Nat.ble (a.length + b.length) 9223372036854775807 then some (.str (a++b)) else none
  | _=>none)
 | some (.bool a),some (.bool b)=>(match E.ty t with
  | some ⟨.bool,_,_,_,_,_⟩=>(match bo with
   | .eql=>some (.bool (decide (a=b)))
   | .neq=>some (.bool (decide (a≠b)))
   | _=>none)
  | _=>none)
 | some (.agg cs),some (.agg ds)=>(match E.ty t with
  | some ⟨_,_,_,_,_,some sh⟩=>bif fits sh cs && fits sh ds then (match bo with
   | .eql=>some (.bool (cellsEq cs ds))
   | .neq=>some (.bool (!cellsEq cs ds))
   | _=>none) else none
  | _=>none)
 | _,_=>none
def loadX (s:XS) (x:TX):Option AV→Option AV
 | some (.eptr _ rows i off)=>match rows[i]? with
  | some row=>sel x.agg x.size row off
  | none=>none
 | some (.cptr k sz i off)=>match s.get k with
  | some (.cells _ sz' rows)=>bif Nat.beq sz sz' then (match rows[i]? with
   | some row=>sel x.agg x.size row off
   | none=>none) else none
  | _=>none
 | _=>none
def idxX (E:Env) (t:TypeId) (p:Option AV) (i:Option AV):Option AV :=
 match i with
 | some (.int _ i)=>match nat? i with
  | some m=>match E.ty t with
   | some ⟨.slice e,_,_,_,_,_⟩=>(match E.ty e with
    | some xe=>(match p with
     | some (.view sz rows _)=>bif Nat.blt m rows.length && Nat.beq sz xe.size then some (.eptr sz rows m 0) else none
     | some (.msl o sz lo len)=>bif Nat.blt m len && Nat.beq sz xe.size then some (.cptr o sz (lo + m) 0) else none
     | _=>none)
    | none=>none)
   | some ⟨.arr len e,_,_,_,_,_⟩=>(match E.ty e with
    | some xe=>bif Nat.blt m len then ptrA (m * xe.size) p else none
    | none=>none)
   | _=>none
  | none=>none
 | _=>none
def indX (E:Env) (t:TypeId) (p:Option AV) (i:Option AV):Option AV :=
 match i with
 | some (.int _ i)=>match nat? i with
  | some m=>match p with
   | some (.str l)=>(match E.ty t with
    | some ⟨.str,_,_,_,_,_⟩=>(l[m]?).map fun c=>.int .u8 c.toNat
    | _=>none)
   | some (.agg cs)=>(match E.ty t with
    | some ⟨.arr len e,_,_,_,_,_⟩=>(match E.ty e with
     | some xe=>bif Nat.blt m len then (bif xe.agg then (bif Nat.ble (m * xe.size + xe.size) cs.length then some (.agg ((cs.drop (m * xe.size)).take xe.size)) else none) else cs[m * xe.size]?) else none
     | none=>none)
    | _=>none)
   | _=>none
  | none=>none
 | _=>none
section
variable {P:Program} {n:Nat} {K:Post} {Ep:EPost} {G:Gt} {τ:Tmps} {st:St} {ops:Array Oper} {rest:List Oper} {E:Env} {ρ:Ren} {s:XS}
variable {ty:TypeId} {pos:String} {es:Array Edge} {gd:Option (Nat × Bool)} {d:Tmp} {x y:Operand} {dd:Option Tmp}

theorem arith_ok {bo:BinOp} {t u:TypeId} {k:IntKind} {a b c:Int} (hg:goes ops n τ ⟨dd,.binOp bo t x y u,ty,pos,es,gd⟩=some d) (hx:ev st τ x=some (.int k a)) (hy:ev st τ y=some (.int k b)) (h:arith bo k a b=some c)
  (kk:AOps P n ops rest K Ep ((d,.int k c)::τ) st):AOps P n ops (⟨dd,.binOp bo t x y u,ty,pos,es,gd⟩::rest) K Ep τ st:=by
 cases bo <;> simp only [arith,reduceCtorEq,Option.some.injEq] at h
 case add=>exact adk hg hx hy h kk
 case sub=>exact sbk hg hx hy h kk
 case mul=>exact mlk hg hx hy h kk
 case quo =>
  split at h
  ·cases h
  ·rename_i h0; cases h; exact quk hg hx hy h0 rfl kk
 case rem =>
  split at h
  ·cases h
  ·rename_i h0; cases h; exact rm hg hx hy h0 kk
 case and=>exact btk (.inl rfl) hg hx hy h kk
 case or=>exact btk (.inr (.inl rfl)) hg hx hy h kk
 case xor=>exact btk (.inr (.inr rfl)) hg hx hy h kk
theorem shift_ok {bo:BinOp} {t u:TypeId} {k k':IntKind} {a c:Int} {b:Nat} (hg:goes ops n τ ⟨dd,.binOp bo t x y u,ty,pos,es,gd⟩=some d) (hx:ev st τ x=some (.int k a)) (hy:ev st τ y=some (.int k' (b:Int))) (h:shift bo k a b=some c)
  (kk:AOps P n ops rest K Ep ((d,.int k c)::τ) st):AOps P n ops (⟨dd,.binOp bo t x y u,ty,pos,es,gd⟩::rest) K Ep τ st:=by
 cases bo <;> simp only [shift,reduceCtorEq,Option.some.injEq] at h
 case shl=>exact shl_ hg hx hy h kk
 case shr=>exact shr_ hg hx hy h kk
theorem fits_same:∀ {ss:List Sh} {cs ds:List AV},fits ss cs=true→LR ρ cs ds→ds=cs
 | [],[],ds,_,h=>List.eq_nil_of_length_eq_zero (by rw [← h.1]; rfl)
 | [],_::_,_,h,_=>by cases h
 | _::_,[],_,h,_=>by cases h
 | s::ss,c::cs,[],_,h=>by have:=h.1; simp at this
 | s::ss,c::cs,d::ds,h,hl=>by
  simp only [fits,Bool.and_eq_true] at h
  have h1:=hl.2 0 c d rfl rfl
  have h2:LR ρ cs ds:=⟨by have:=hl.1; simpa using this,fun i x y hx hy=>hl.2 (i + 1) x y (by simpa using hx) (by simpa using hy)⟩
  rw [fits_same h.2 h2]
  congr 1
  cases h1 with
  | int=>rfl
  | bool=>rfl
  | str=>rfl
  | _=>cases s <;> cases h.1
theorem bin_ok (hE:EnvOk P E) (hT:TR ρ G τ) (hg0:st.glob=E.gl) {bo:BinOp} {t u:TypeId} {v:AV} (hg:goes ops n τ ⟨dd,.binOp bo t x y u,ty,pos,es,gd⟩=some d)
  (h:binX E bo t (evX E G x) (evX E G y)=some v) (kk:∀ w,VR ρ v w→AOps P n ops rest K Ep ((d,w)::τ) st):AOps P n ops (⟨dd,.binOp bo t x y u,ty,pos,es,gd⟩::rest) K Ep τ st:=by
 unfold binX at h
 split at h
 ·rename_i k a k' b e1 e2
  obtain ⟨u1,f1,r1⟩:=evR hE hT hg0 e1
  obtain ⟨u2,f2,r2⟩:=evR hE hT hg0 e2
  cases r1; cases r2
  cases hs:isShift bo with
  | true =>
   rw [hs,cond_true] at h
   split at h
   ·rename_i m hm
    rw [nat?_eq hm] at f2
    obtain ⟨c,hc,rfl⟩:=Option.map_eq_some_iff.1 h
    exact shift_ok hg f1 f2 hc (kk _ (.int _ _))
   ·cases h
  | false =>
   rw [hs,cond_false] at h
   cases hk:kindEq k k' with
   | false=>rw [hk] at h; cases h
   | true =>
    rw [hk,cond_true] at h
    have:=kindEq_eq hk
    subst this
    obtain ⟨c,hc,rfl⟩:=Option.map_eq_some_iff.1 h
    exact arith_ok hg f1 f2 hc (kk _ (.int _ _))
 ·rename_i a b e1 e2
  obtain ⟨u1,f1,r1⟩:=evR hE hT hg0 e1
  obtain ⟨u2,f2,r2⟩:=evR hE hT hg0 e2
  cases r1; cases r2
  split at h
  ·cases hb:Nat.ble (a.length + b.length) 9223372036854775807 with
   | false=>rw [hb] at h; cases h
   | true =>
    rw [hb] at h
    cases h
    exact sad hg f1 f2 (Nat.le_of_ble_eq_true hb) (kk _ (.str _))
  ·cases h
 ·rename_i a b e1 e2
  obtain ⟨u1,f1,r1⟩:=evR hE hT hg0 e1
  obtain ⟨u2,f2,r2⟩:=evR hE hT hg0 e2
  cases r1; cases r2
  split at h
  ·rename_i ht
   obtain ⟨td,z,h1,_,_,hk,_,_⟩:=(hE.ty _ _ ht).out
   cases hk
   haveI:Und P t .bool:=h1
   obtain ⟨hw,hd,hok⟩:=goes_some hg
   simp only at hd
   subst hd
   split at h
   ·cases h
    exact AOps.boolEql hw hok f1 f2 (kk _ (.bool _))
   ·cases h
    exact AOps.boolNeq hw hok f1 f2 (kk _ (.bool _))
   ·cases h
  ·cases h
 ·rename_i cs ds e1 e2
  obtain ⟨u1,f1,r1⟩:=evR hE hT hg0 e1
  obtain ⟨u2,f2,r2⟩:=evR hE hT hg0 e2
  cases r1 with
  | agg _ cs' q1 q2 =>
  cases r2 with
  | agg _ ds' q3 q4 =>
  split at h
  ·rename_i sh ht
   haveI:FlatT P t sh:=(hE.ty _ _ ht).flat sh rfl
   cases hf:fits sh cs && fits sh ds with
   | false=>rw [hf] at h; cases h
   | true =>
    rw [hf,cond_true] at h
    rw [Bool.and_eq_true] at hf
    have e3:=fits_same hf.1 ⟨q1,q2⟩
    have e4:=fits_same hf.2 ⟨q3,q4⟩
    subst e3 e4
    split at h
    ·cases h
     exact eqA hg f1 f2 hf.1 hf.2 (kk _ (.bool _))
    ·cases h
     exact neA hg f1 f2 hf.1 hf.2 (kk _ (.bool _))
    ·cases h
  ·cases h
 ·cases h
theorem load_ok (hE:EnvOk P E) (hT:TR ρ G τ) (hR:Rep E ρ s st) {t:TypeId} {tx:TX} (ht:E.ty t=some tx) {v:AV} (hg:goes ops n τ ⟨dd,.load t x,ty,pos,es,gd⟩=some d)
  (h:loadX s tx (evX E G x)=some v) (kk:∀ w,VR ρ v w→AOps P n ops rest K Ep ((d,w)::τ) st):AOps P n ops (⟨dd,.load t x,ty,pos,es,gd⟩::rest) K Ep τ st:=by
 obtain ⟨td,z,h1,h2,h3,_,_,_⟩:=(hE.ty _ _ ht).out
 haveI:Und P t td:=h1
 haveI:Inf P t tx.size tx.bytes z:=h2
 unfold loadX at h
 rw [← h3] at h
 split at h
 ·rename_i sz rows i off e1
  obtain ⟨u1,f1,r1⟩:=evR hE hT hR.glob e1
  cases r1 with
  | eptr _ _ rows' _ _ q1 q2 q3 =>
  split at h
  ·rename_i row hr
   obtain ⟨row',hr',hrr⟩:=LLR.get ⟨q1,fun i r r' a b=>⟨q2 i r r' a b,fun j c d e f=>q3 i j r r' c d a b e f⟩⟩ hr
   obtain ⟨w,hw,hv⟩:=hrr.sel h
   exact Go.AM.le hg f1 hr' hw (kk w hv)
  ·cases h
 ·rename_i k sz i off e1
  obtain ⟨u1,f1,r1⟩:=evR hE hT hR.glob e1
  cases r1 with
  | cptr _ o _ _ _ q1 =>
  split at h
  ·rename_i oty sz' rows hk
   cases hb:Nat.beq sz sz' with
   | false=>rw [hb] at h; cases h
   | true =>
    rw [hb,cond_true] at h
    have:=Nat.eq_of_beq_eq_true hb
    subst this
    obtain ⟨ty',sz'',rows1,rows',p2,p3,p4⟩:=hR.objc k _ hk q1
    cases p2
    split at h
    ·rename_i row hr
     obtain ⟨row',hr',hrr⟩:=p4.get hr
     obtain ⟨w,hw,hv⟩:=hrr.sel h
     exact lc hg f1 p3 hr' hw (kk w hv)
    ·cases h
  ·cases h
 ·cases h
theorem ptrR {off:Nat} {p p':Option AV} {q:AV} (h:ptrA off p=some q) (hp:∀ a,p=some a→∃ b,p'=some b∧VR ρ a b):∃ q',ptrA off p'=some q'∧VR ρ q q':=by
 unfold ptrA at h
 split at h
 ·obtain ⟨b,rfl,r⟩:=hp _ rfl
  cases h
  cases r with
  | eptr _ _ rows' _ _ q1 q2 q3=>exact ⟨_,rfl,.eptr _ _ _ _ _ q1 q2 q3⟩
 ·obtain ⟨b,rfl,r⟩:=hp _ rfl
  cases h
  cases r with
  | cptr _ _ _ _ _ q1=>exact ⟨_,rfl,.cptr _ _ _ _ _ q1⟩
 ·cases h
theorem idx_ok (hE:EnvOk P E) (hT:TR ρ G τ) (hg0:st.glob=E.gl) {t:TypeId} {v:AV} (hg:goes ops n τ ⟨dd,.indexAddr t x y,ty,pos,es,gd⟩=some d)
  (h:idxX E t (evX E G x) (evX E G y)=some v) (kk:∀ w,VR ρ v w→AOps P n ops rest K Ep ((d,w)::τ) st):AOps P n ops (⟨dd,.indexAddr t x y,ty,pos,es,gd⟩::rest) K Ep τ st:=by
 unfold idxX at h
 split at h
 ·rename_i k i e2
  obtain ⟨u2,f2,r2⟩:=evR hE hT hg0 e2
  cases r2
  split at h
  ·rename_i m hm
   have hm:=nat?_eq hm
   split at h
   ·rename_i e _ _ _ _ _ ht
    obtain ⟨td,z,h1,_,_,hk,_,_⟩:=(hE.ty _ _ ht).out
    cases hk
    haveI:Und P t (.slice e):=h1
    split at h
    ·rename_i xe hte
     obtain ⟨td',z',_,i2,_,_,_,_⟩:=(hE.ty _ _ hte).out
     haveI:Inf P e xe.size xe.bytes z':=i2
     split at h
     ·rename_i sz rows tk e1
      obtain ⟨u1,f1,r1⟩:=evR hE hT hg0 e1
      cases hb:(Nat.blt m rows.length && Nat.beq sz xe.size) with
      | false=>rw [hb] at h; cases h
      | true =>
       rw [hb] at h
       cases h
       rw [Bool.and_eq_true] at hb
       have h4:=Nat.eq_of_beq_eq_true hb.2
       subst h4
       have hlt:m < rows.length:=by simpa [Nat.blt_eq] using hb.1
       cases r1 with
       | view _ _ rows' _ q0 q1 q2 q3=>exact ix hg f1 f2 hm (q1 ▸ hlt) (kk _ (.eptr _ _ _ _ _ q1 q2 q3))
     ·rename_i o sz lo len e1
      obtain ⟨u1,f1,r1⟩:=evR hE hT hg0 e1
      cases hb:(Nat.blt m len && Nat.beq sz xe.size) with
      | false=>rw [hb] at h; cases h
      | true =>
       rw [hb] at h
       cases h
       rw [Bool.and_eq_true] at hb
       have h4:=Nat.eq_of_beq_eq_true hb.2
       subst h4
       have hlt:m < len:=by simpa [Nat.blt_eq] using hb.1
       cases r1 with
       | msl _ o' _ _ _ q1=>exact ixm hg f1 f2 hm hlt (kk _ (.cptr _ _ _ _ _ q1))
     ·cases h
    ·cases h
   ·rename_i len e _ _ _ _ _ ht
    obtain ⟨td,z,h1,_,_,hk,_,_⟩:=(hE.ty _ _ ht).out
    cases hk
    haveI:Und P t (.array len e):=h1
    split at h
    ·rename_i xe hte
     obtain ⟨td',z',_,i2,_,_,_,_⟩:=(hE.ty _ _ hte).out
     haveI:Inf P e xe.size xe.bytes z':=i2
     cases hb:Nat.blt m len with
     | false=>rw [hb] at h; cases h
     | true =>
      rw [hb,cond_true] at h
      obtain ⟨q',hq,hv⟩:=ptrR h (fun a ha=>evR (st:=st) hE hT hg0 ha)
      exact ixa hg f2 hm (by simpa [Nat.blt_eq] using hb) hq (kk _ hv)
    ·cases h
   ·cases h
  ·cases h
 ·cases h
theorem ind_ok (hE:EnvOk P E) (hT:TR ρ G τ) (hg0:st.glob=E.gl) {t:TypeId} {v:AV} (hg:goes ops n τ ⟨dd,.index t x y,ty,pos,es,gd⟩=some d)
  (h:indX E t (evX E G x) (evX E G y)=some v) (kk:∀ w,VR ρ v w→AOps P n ops rest K Ep ((d,w)::τ) st):AOps P n ops (⟨dd,.index t x y,ty,pos,es,gd⟩::rest) K Ep τ st:=by
 unfold indX at h
 split at h
 ·rename_i k i e2
  obtain ⟨u2,f2,r2⟩:=evR hE hT hg0 e2
  cases r2
  split at h
  ·rename_i m hm
   have hm:=nat?_eq hm
   split at h
   ·rename_i l e1
    obtain ⟨u1,f1,r1⟩:=evR hE hT hg0 e1
    cases r1
    split at h
    ·rename_i ht
     obtain ⟨td,z,h1,_,_,hk,_,_⟩:=(hE.ty _ _ ht).out
     cases hk
     haveI:Und P t .string:=h1
     obtain ⟨c,hc,rfl⟩:=Option.map_eq_some_iff.1 h
     exact sx hg f1 f2 hm hc (kk _ (.int _ _))
    ·cases h
   ·rename_i cs e1
    obtain ⟨u1,f1,r1⟩:=evR hE hT hg0 e1
    cases r1 with
    | agg _ ds q1 q2 =>
    have hl:LR ρ cs ds:=⟨q1,q2⟩
    split at h
    ·rename_i len e _ _ _ _ _ ht
     obtain ⟨td,z,h1,_,_,hk,_,_⟩:=(hE.ty _ _ ht).out
     cases hk
     haveI:Und P t (.array len e):=h1
     split at h
     ·rename_i xe hte
      obtain ⟨td',z',u',i2,a2,_,_,_⟩:=(hE.ty _ _ hte).out
      haveI:Und P e td':=u'
      haveI:Inf P e xe.size xe.bytes z':=i2
      cases hb:Nat.blt m len with
      | false=>rw [hb] at h; cases h
      | true =>
       rw [hb,cond_true] at h
       have hlt:m < len:=by simpa [Nat.blt_eq] using hb
       cases ha:xe.agg with
       | true =>
        rw [ha,cond_true] at h
        cases hb2:Nat.ble (m * xe.size + xe.size) cs.length with
        | false=>rw [hb2] at h; cases h
        | true =>
         rw [hb2] at h
         cases h
         exact ixgA hg (a2.trans ha) f1 f2 hm hlt (q1 ▸ Nat.le_of_ble_eq_true hb2) rfl (kk _ (.agg_of ((hl.drop _).take _)))
       | false =>
        rw [ha,cond_false] at h
        obtain ⟨w,hw,hv⟩:=hl.get h
        exact ixg hg (a2.trans ha) f1 f2 hm hlt hw (kk w hv)
     ·cases h
    ·cases h
   ·cases h
  ·cases h
 ·cases h
end
end Go.AX
namespace Go.AM
open Go.RowKit (Below)
theorem R.full {g:G} {w:World} {sz:Nat} {rows:List (List AV)} {tk:Tok} {a:Addr} {m:Nat} (h:R g w (.view sz rows tk) (.slice (some a) m m)):R g w (.view sz rows .full) (.slice (some a) m m):=by
 cases h with
 | vemp _ _ _ hn _=>exact .vemp _ _ _ (fun h=>by cases h) rfl
 | view _ _ _ b off cap f hc hm hsz h1 ht himm hh=>exact .view _ _ _ _ _ _ f hc hm hsz h1 rfl himm hh
section
variable {P:Program} {n:Nat} {K:Post} {E:EPost} {T:Tmps} {st:St} {ops:Array Oper} {rest:List Oper}
variable {ty:TypeId} {pos:String} {es:Array Edge} {gd:Option (Nat × Bool)} {d:Tmp} {dd:Option Tmp}
theorem bsF {t e:TypeId} {len:Nat} {esz eby:Nat} {ez:Value} {parts:Array (Nat × Operand)} {vs:List (Nat × AV)} {cs:List AV} [hu:Und P t (.slice e)] [hie:Inf P e (esz + 1) eby ez] (hg:goes ops n T ⟨dd,.buildSlice t len parts,ty,pos,es,gd⟩=some d)
  (hz:zok (esz + 1) ez=true) (hsm:Nat.ble (len * (esz + 1)) 16777216=true) (he:evParts st T parts.toList=some vs) (hf:afill (fun i=>some (i * (esz + 1),esz + 1)) ((List.replicate len (zrow ez)).flatten) vs=some cs)
  (k:AOps P n ops rest K E ((d,.view (esz + 1) (chunk (esz + 1) len cs) .full)::T) st):AOps P n ops (⟨dd,.buildSlice t len parts,ty,pos,es,gd⟩::rest) K E T st:=by
 refine AOps.stepAny hg fun g w a hs hk=>?_
 obtain ⟨z1,z2,z3,z4⟩:=zok_spec hz
 obtain ⟨hl,hr⟩:=evParts_R hs hk _ _ he
 have hsm':=Nat.ble_le hsm
 have hfl:((List.replicate len (zrow ez)).flatten).length=len * (esz + 1):=by simp [z3]
 obtain ⟨rcs,f1,f2,f3,f4⟩:=afill_run (g:=g) (w:=w) vs (parts.toList.map fun (i,x)=>(i,a.eval x)) _ ((Array.range (len * (esz + 1))).map (ez.cells[· % ez.cells.size]!)) cs hf hl hr (by rw [hfl]; simp)
  (fun c hc=>by
   simp only [List.mem_flatten,List.mem_replicate] at hc
   obtain ⟨l,⟨_,rfl⟩,h⟩:=hc
   exact z4 c h)
  (fun i c v hc hv=>by
   have hi:i < len * (esz + 1):=by rw [← hfl]; exact (List.getElem?_eq_some_iff.1 hc).1
   rw [flatten_replicate_get (by rw [z3]; omega) len i (by rw [z3]; exact hi),z3] at hc
   obtain ⟨u,h1,h2⟩:=zrow_get hc g w
   simp only [Array.getElem?_map,Array.getElem?_range,hi,if_true,Option.map_some,Option.some.injEq,z1] at hv
   rw [getElem!_def,h1] at hv
   simp only at hv
   rw [← hv]
   exact h2)
 have hrcs:rcs.size=len * (esz + 1):=by
  rw [← f2,afill_length vs _ cs hf,hfl]
 have hlen:=length_chunk (esz + 1) len cs
 have hcsl:cs.length=len * (esz + 1):=by rw [f2,hrcs]
 have hrow:∀ i row,(chunk (esz + 1) len cs)[i]?=some row→i < len∧row=(cs.drop (i * (esz + 1))).take (esz + 1):=fun i row h =>
  ⟨by have:=(List.getElem?_eq_some_iff.1 h).1; rwa [hlen] at this,chunk_get (esz + 1) len cs i row h⟩
 have hlm:len≤maxLen:=by have h9:=Nat.le_mul_of_pos_right len (show 0 < esz + 1 by omega); unfold maxLen; omega
 obtain ⟨g',tk,het,hs',hR,_,_⟩:=hs.newView e (esz + 1) len (chunk (esz + 1) len cs) rcs (Nat.succ_pos _) (by rw [hlen]; exact Nat.le_refl _) hlm hrcs
  (fun row hr=>by
   obtain ⟨i,hi,rfl⟩:=List.getElem_of_mem hr
   obtain ⟨h1,h2⟩:=hrow i _ (List.getElem?_eq_getElem hi)
   rw [h2]
   have:=Nat.mul_le_mul_right (esz + 1) (show i + 1≤len from h1)
   rw [Nat.add_mul,Nat.one_mul] at this
   simp; omega)
  (fun row hr c hc=>by
   obtain ⟨i,hi,rfl⟩:=List.getElem_of_mem hr
   obtain ⟨_,h2⟩:=hrow i _ (List.getElem?_eq_getElem hi)
   rw [h2] at hc
   exact f3 c (List.mem_of_mem_drop (List.mem_of_mem_take hc)))
  (fun i j row c hr hc=>by
   obtain ⟨h1,rfl⟩:=hrow i row hr
   have hj:j < esz + 1:=by
    have:=(List.getElem?_eq_some_iff.1 hc).1
    simp at this; omega
   rw [List.getElem?_take_of_lt hj,List.getElem?_drop] at hc
   have hlt:=mul_add_lt h1 hj
   exact ⟨rcs[i * (esz + 1) + j]'(by omega),by simp [show i * (esz + 1) + j < rcs.size by omega],f4 _ c _ hc (by simp [show i * (esz + 1) + j < rcs.size by omega])⟩)
 rw [hlen] at hR
 refine ⟨.slice (some ⟨w.heap.size,0,none⟩) len len,g',w.alloc (.cells rcs e),_,_,?_,het,hs'.le (StLe.addTok _ (.refl _)),hR.full,k⟩
 have:=run_buildSlice (P:=P) (t:=t) (e:=e) (len:=len) hsm' (parts.map fun (i,x)=>(i,a.eval x)) rcs w (by rw [Array.toList_map]; exact f1)
 simp [execOp,this]

end
end Go.AM
namespace Go.AM
open Go.RowKit (Below)
section
variable {P:Program} {n:Nat} {K:Post} {E:EPost} {T:Tmps} {st:St} {ops:Array Oper} {rest:List Oper}
variable {ty:TypeId} {pos:String} {es:Array Edge} {gd:Option (Nat × Bool)} {d:Tmp} {x y:Operand} {dd:Option Tmp}
theorem mx2 {u t1 t2:TypeId} {k:IntKind} {a b:Int}
  (hg:goes ops n T ⟨dd,.call ⟨.builtin .max,#[x,y],#[t1,t2]⟩,u,pos,es,gd⟩=some d) (hx:ev st T x=some (.int k a)) (hy:ev st T y=some (.int k b))
  (h:AOps P n ops rest K E ((d,.int k (max a b))::T) st):AOps P n ops (⟨dd,.call ⟨.builtin .max,#[x,y],#[t1,t2]⟩,u,pos,es,gd⟩::rest) K E T st:=by
 obtain ⟨hw,hd,hok⟩:=goes_some hg
 simp only at hd
 subst hd
 exact AOps.pure hw hok _ (fun g w a' hs hk=>by
  have h1:=ev_R hs hk hx
  have h2:=ev_R hs hk hy
  generalize hu':a'.eval x=u1 at h1
  generalize hv':a'.eval y=u2 at h2
  cases h1
  cases h2
  refine ⟨.int k (if a < b then b else a),by simp [execOp,resolve,invoke,builtin,hu',hv',Builtin.max_,Builtin.max2],?_⟩
  rw [show (max a b:Int)=if a < b then b else a from by split <;> omega]
  exact .int _ _) h
def isSl:AV→Bool
 | .view _ _ _=>true
 | .msl _ _ _ _=>true
 | _=>false
def isNo:AV→Bool
 | .view _ [] _=>true
 | .msl _ _ _ 0=>true
 | _=>false
theorem R.isSl {g:G} {w:World} {v:AV} {rv:Value} (h:R g w v rv) (hv:isSl v=true):∃ base len cap,rv=.slice base len cap∧len≤cap:=by
 cases h with
 | vnil=>exact ⟨_,_,_,rfl,Nat.le_refl _⟩
 | vemp=>exact ⟨_,_,_,rfl,Nat.le_refl _⟩
 | view _ _ _ _ _ _ _ hc=>exact ⟨_,_,_,rfl,hc⟩
 | msl _ _ _ _ _ _ _ _ hc=>exact ⟨_,_,_,rfl,hc⟩
 | _=>cases hv
theorem R.isNo {g:G} {w:World} {v:AV} {rv:Value} (h:R g w v rv) (hv:isNo v=true):∃ base cap,rv=.slice base 0 cap:=by
 cases h with
 | vnil=>exact ⟨_,_,rfl⟩
 | vemp=>exact ⟨_,_,rfl⟩
 | view _ rows=>cases rows with
  | nil=>exact ⟨_,_,rfl⟩
  | cons=>cases hv
 | msl _ _ _ len=>cases len with
  | zero=>exact ⟨_,_,rfl⟩
  | succ=>cases hv
 | _=>cases hv
theorem apNo {t u e:TypeId} {sz by_:Nat} {ez:Value} [hut:Und P t (.slice e)] [hie:Inf P e sz by_ ez] {v v2:AV}
  (hg:goes ops n T ⟨dd,.call ⟨.builtin .append,#[x,y],#[t,t]⟩,u,pos,es,gd⟩=some d) (hx:ev st T x=some v) (hv:isSl v=true) (hy:ev st T y=some v2) (h2:isNo v2=true)
  (h:AOps P n ops rest K E ((d,v)::T) st):AOps P n ops (⟨dd,.call ⟨.builtin .append,#[x,y],#[t,t]⟩,u,pos,es,gd⟩::rest) K E T st:=by
 obtain ⟨hw,hd,hok⟩:=goes_some hg
 simp only at hd
 subst hd
 exact AOps.pure hw hok _ (fun g w a' hs hk=>by
  have r1:=ev_R hs hk hx
  have r2:=ev_R hs hk hy
  generalize hu':a'.eval x=u1 at r1
  generalize hv':a'.eval y=u2 at r2
  obtain ⟨base,len,cap,rfl,hc⟩:=r1.isSl hv
  obtain ⟨b2,c2,rfl⟩:=r2.isNo h2
  exact ⟨_,by simp [execOp,resolve,invoke,builtin,hu',hv',run_append_nothing (P:=P) (t:=t) (ty:=u) base len cap hc b2 c2 w],r1⟩) h
theorem R.empty {g:G} {w:World} (sz b off cap:Nat) (hm:cap≤maxLen):R g w (.view sz [] .shared) (.slice (some ⟨b,off,none⟩) 0 cap) :=
 R.view sz [] .shared b off cap (fun _ _=>undef) (Nat.zero_le _) hm (fun r hr=>by cases hr) (fun r hr=>by cases hr) trivial (fun i j hi=>absurd hi (Nat.not_lt_zero i)) (fun i j r c hr=>by simp at hr)
theorem slm0 {t e:TypeId} [hu:Und P t (.slice e)] {sz by_:Nat} {ez:Value} [hie:Inf P e sz by_ ez] {o lo len:Nat} {k:IntKind}
  (hg:goes ops n T ⟨dd,.slice t x (some y) none none,ty,pos,es,gd⟩=some d) (hx:ev st T x=some (.msl o sz lo len)) (hy:ev st T y=some (.int k (len:Int)))
  (kk:AOps P n ops rest K E ((d,.view sz [] .shared)::T) st):AOps P n ops (⟨dd,.slice t x (some y) none none,ty,pos,es,gd⟩::rest) K E T st:=by
 obtain ⟨hw,hd,hok⟩:=goes_some hg
 simp only at hd
 subst hd
 refine AOps.pure hw hok _ (fun g w a hs hk=>?_) kk
 have h1:=ev_R hs hk hx
 have h2:=ev_R hs hk hy
 generalize hux:a.eval x=ux at h1
 generalize huy:a.eval y=uy at h2
 cases h2
 cases h1 with
 | msl _ _ _ _ cap bk m hob hc hmx hfit =>
  obtain ⟨inf,i1,i2,i3,i4⟩:=hie.out
  have he:P.elem t=e:=by simp [Program.elem,hu.out]
  have hr:=run_slice_l (P:=P) w t (some ⟨bk,lo * sz,none⟩) len cap (by rw [he]; exact hu.out) k len (by omega) (by omega)
  refine ⟨sliced (some ⟨bk,lo * sz,none⟩) len len cap sz,?_,?_⟩
  ·simp [execOp,hux,huy,run_sliceAt_slice (P:=P) w t _ _ _ _ (by rw [he]; exact hu.out),hr,he,run_size (P:=P) (t:=e) w]
  ·unfold sliced
   rw [Nat.sub_self]
   split
   ·exact .empty _ _ _ _ (by omega)
   ·rw [Option.map_some,addr_add]
    exact .empty _ _ _ _ (by omega)
theorem slml {t e:TypeId} [hu:Und P t (.slice e)] {sz by_:Nat} {ez:Value} [hie:Inf P e sz by_ ez] {o lo len a:Nat} {k:IntKind}
  (hg:goes ops n T ⟨dd,.slice t x (some y) none none,ty,pos,es,gd⟩=some d) (hx:ev st T x=some (.msl o sz lo len)) (hy:ev st T y=some (.int k (a:Int))) (hal:a < len)
  (kk:AOps P n ops rest K E ((d,.msl o sz (lo + a) (len - a))::T) st):AOps P n ops (⟨dd,.slice t x (some y) none none,ty,pos,es,gd⟩::rest) K E T st:=by
 obtain ⟨hw,hd,hok⟩:=goes_some hg
 simp only at hd
 subst hd
 refine AOps.pure hw hok _ (fun g w a' hs hk=>?_) kk
 have h1:=ev_R hs hk hx
 have h2:=ev_R hs hk hy
 generalize hux:a'.eval x=ux at h1
 generalize huy:a'.eval y=uy at h2
 cases h2
 cases h1 with
 | msl _ _ _ _ cap bk m hob hc hmx hfit =>
  obtain ⟨inf,i1,i2,i3,i4⟩:=hie.out
  have he:P.elem t=e:=by simp [Program.elem,hu.out]
  have hr:=run_slice_l (P:=P) w t (some ⟨bk,lo * sz,none⟩) len cap (by rw [he]; exact hu.out) k a (by omega) (by omega)
  refine ⟨sliced (some ⟨bk,lo * sz,none⟩) a len cap sz,?_,?_⟩
  ·simp [execOp,hux,huy,run_sliceAt_slice (P:=P) w t _ _ _ _ (by rw [he]; exact hu.out),hr,he,run_size (P:=P) (t:=e) w]
  ·unfold sliced
   split
   ·omega
   ·rw [Option.map_some,addr_add,← Nat.add_mul]
    refine R.msl _ _ _ _ _ _ _ hob (by omega) (by omega) ?_
    rw [show lo + a + (cap - a)=lo + cap by omega]
    exact hfit
theorem slnl {t e:TypeId} [hu:Und P t (.slice e)] {sz by_ s:Nat} {ez:Value} [hie:Inf P e s by_ ez] {k:IntKind}
  (hg:goes ops n T ⟨dd,.slice t x (some y) none none,ty,pos,es,gd⟩=some d) (hx:ev st T x=some (.view sz [] .nil)) (hy:ev st T y=some (.int k ((0:Nat):Int)))
  (kk:AOps P n ops rest K E ((d,.view sz [] .nil)::T) st):AOps P n ops (⟨dd,.slice t x (some y) none none,ty,pos,es,gd⟩::rest) K E T st:=by
 obtain ⟨hw,hd,hok⟩:=goes_some hg
 simp only at hd
 subst hd
 refine AOps.pure hw hok _ (fun g w a hs hk=>?_) kk
 have h1:=ev_R hs hk hx
 have h2:=ev_R hs hk hy
 generalize hux:a.eval x=ux at h1
 generalize huy:a.eval y=uy at h2
 cases h2
 have he:P.elem t=e:=by simp [Program.elem,hu.out]
 cases h1 with
 | vnil =>
  have hr:=run_slice_l (P:=P) w t none 0 0 (by rw [he]; exact hu.out) k ((0:Nat):Int) (by omega) (by omega)
  refine ⟨.slice none 0 0,?_,.vnil _ _ rfl⟩
  simp at hr
  simp [execOp,hux,huy,run_sliceAt_slice (P:=P) w t _ _ _ _ (by rw [he]; exact hu.out),hr,he,run_size (P:=P) (t:=e) w,sliced]
 | vemp _ _ _ hn=>exact absurd rfl hn
 | view _ _ _ b off cap f hc hm hsz h1 ht=>cases ht
theorem slnh {t e:TypeId} [hu:Und P t (.slice e)] {sz by_ s:Nat} {ez:Value} [hie:Inf P e s by_ ez] {k:IntKind}
  (hg:goes ops n T ⟨dd,.slice t x none (some y) none,ty,pos,es,gd⟩=some d) (hx:ev st T x=some (.view sz [] .nil)) (hy:ev st T y=some (.int k ((0:Nat):Int)))
  (kk:AOps P n ops rest K E ((d,.view sz [] .nil)::T) st):AOps P n ops (⟨dd,.slice t x none (some y) none,ty,pos,es,gd⟩::rest) K E T st:=by
 obtain ⟨hw,hd,hok⟩:=goes_some hg
 simp only at hd
 subst hd
 refine AOps.pure hw hok _ (fun g w a hs hk=>?_) kk
 have h1:=ev_R hs hk hx
 have h2:=ev_R hs hk hy
 generalize hux:a.eval x=ux at h1
 generalize huy:a.eval y=uy at h2
 cases h2
 have he:P.elem t=e:=by simp [Program.elem,hu.out]
 cases h1 with
 | vnil =>
  have hr:=run_slice_h (P:=P) w t none 0 0 (by rw [he]; exact hu.out) k ((0:Nat):Int) (by omega) (by omega)
  refine ⟨.slice none 0 0,?_,.vnil _ _ rfl⟩
  simp at hr
  simp [execOp,hux,huy,run_sliceAt_slice (P:=P) w t _ _ _ _ (by rw [he]; exact hu.out),hr,he,run_size (P:=P) (t:=e) w,sliced]
 | vemp _ _ _ hn=>exact absurd rfl hn
 | view _ _ _ b off cap f hc hm hsz h1 ht=>cases ht
end
end Go.AM
namespace Go.AX
open Go.AM

def fldX (E:Env) (t:TypeId) (f:Nat):Option (Nat × TypeId) :=
 match E.ty t with
 | some ⟨.struct fs _,_,_,_,_,_⟩=>fs[f]?
 | _=>none
def faX (E:Env) (t:TypeId) (f:Nat) (p:Option AV):Option AV :=
 match fldX E t f with
 | some (off,ft)=>(match E.ty ft with
  | some xf=>bif Nat.beq xf.size 0 then none else ptrA off p
  | none=>none)
 | none=>none
def fdX (E:Env) (t:TypeId) (f:Nat) (p:Option AV):Option AV :=
 match fldX E t f with
 | some (off,ft)=>(match E.ty ft with
  | some xf=>(match p with
   | some (.agg cs)=>sel xf.agg xf.size cs off
   | _=>none)
  | none=>none)
 | none=>none
def lenX (E:Env) (t:TypeId) (p:Option AV):Option AV :=
 match E.ty t with
 | some ⟨.slice _,_,_,_,_,_⟩=>(match p with
  | some (.view _ rows _)=>some (.int .i64 rows.length)
  | some (.msl _ _ _ len)=>some (.int .i64 len)
  | _=>none)
 | some ⟨.str,_,_,_,_,_⟩=>(match p with
  | some (.str l)=>some (.int .i64 l.length)
  | _=>none)
 | _=>none
def bndX (E:Env) (G:Gt):Option Operand→Option (Option Nat)
 | none=>some none
 | some y=>match evX E G y with
  | some (.int _ i)=>(nat? i).map some
  | _=>none
def slX (E:Env) (t:TypeId) (p:Option AV) (lo hi:Option Nat):Option AV :=
 match E.ty t with
 | some ⟨.slice e,_,_,_,_,_⟩=>(match E.ty e with
  | some xe=>(match p with
   | some (.view sz rows _)=>bif Nat.beq sz xe.size then (match lo,hi with
    | some a,some b=>bif Nat.ble a b && Nat.ble b rows.length then some (.view sz ((rows.drop a).take (b - a)) .shared) else none
    | none,some b=>bif Nat.ble b rows.length then some (.view sz (rows.take b) .shared) else none
    | some a,none=>bif Nat.ble a rows.length then some (.view sz (rows.drop a) .shared) else none
    | none,none=>none) else none
   | some (.msl o sz l len)=>bif Nat.beq sz xe.size then (match lo,hi with
    | none,some b=>bif Nat.ble b len then some (.msl o sz l b) else none
    | some a,none=>bif Nat.blt a len then some (.msl o sz (l + a) (len - a)) else bif Nat.beq a len then some (.view sz [] .shared) else none
    | _,_=>none) else none
   | _=>none)
  | none=>none)
 | some ⟨.str,_,_,_,_,_⟩=>(match p with
  | some (.str l)=>(match lo,hi with
   | some a,some b=>bif Nat.ble a b && Nat.ble b l.length then some (.str ((l.drop a).take (b - a))) else none
   | none,some b=>bif Nat.ble b l.length then some (.str (l.take b)) else none
   | some a,none=>bif Nat.ble a l.length then some (.str (l.drop a)) else none
   | none,none=>none)
  | _=>none)
 | _=>none
def bldX (E:Env) (t:TypeId) (vs:Option (List (Nat × AV))):Option AV :=
 match E.ty t,vs with
 | some ⟨.struct _ pl,_,_,_,z,_⟩,some vs=>(afill (pl[·]?) z vs).map .agg
 | some ⟨.arr _ e,_,_,_,z,_⟩,some vs=>(match E.ty e with
  | some xe=>(afill (fun i=>some (i * xe.size,xe.size)) z vs).map .agg
  | none=>none)
 | _,_=>none
def bslX (E:Env) (t:TypeId) (len:Nat) (vs:Option (List (Nat × AV))):Option AV :=
 match E.ty t,vs with
 | some ⟨.slice e,_,_,_,_,_⟩,some vs=>(match E.ty e with
  | some ⟨_,_,sz + 1,_,z,_⟩=>bif Nat.ble (len * (sz + 1)) 16777216 then (afill (fun i=>some (i * (sz + 1),sz + 1)) ((List.replicate len z).flatten) vs).map fun cs=>.view (sz + 1) (chunk (sz + 1) len cs) .full else none
  | _=>none)
 | _,_=>none
def cvX (E:Env) (t u:TypeId) (p:Option AV):Option AV :=
 match E.ty u,p with
 | some ⟨.num k,_,_,_,_,_⟩,some (.int _ a)=>(match E.ty t with
  | some _=>some (.int k (k.wrap a))
  | none=>none)
 | _,_=>none
section
variable {P:Program} {n:Nat} {K:Post} {Ep:EPost} {G:Gt} {τ:Tmps} {st:St} {ops:Array Oper} {rest:List Oper} {E:Env} {ρ:Ren} {s:XS}
variable {ty:TypeId} {pos:String} {es:Array Edge} {gd:Option (Nat × Bool)} {d:Tmp} {x y:Operand} {dd:Option Tmp}

theorem fldX_ok (hE:EnvOk P E) {t:TypeId} {f off:Nat} {ft:TypeId} (h:fldX E t f=some (off,ft)):Fld P t f off ft:=by
 unfold fldX at h
 split at h
 ·rename_i ht
  obtain ⟨td,z,h1,_,_,hk,_,_⟩:=(hE.ty _ _ ht).out
  obtain ⟨a,rfl,_,h2⟩:=hk
  obtain ⟨fld,h3,h4,h5⟩:=h2 f off ft h
  exact ⟨a,fld,h1.out,h3,h4,h5⟩
 ·cases h
theorem fa_ok (hE:EnvOk P E) (hT:TR ρ G τ) (hg0:st.glob=E.gl) {t:TypeId} {f:Nat} {v:AV} (hg:goes ops n τ ⟨dd,.fieldAddr t x f,ty,pos,es,gd⟩=some d)
  (h:faX E t f (evX E G x)=some v) (kk:∀ w,VR ρ v w→AOps P n ops rest K Ep ((d,w)::τ) st):AOps P n ops (⟨dd,.fieldAddr t x f,ty,pos,es,gd⟩::rest) K Ep τ st:=by
 unfold faX at h
 split at h
 ·rename_i off ft hf
  haveI:=fldX_ok hE hf
  split at h
  ·rename_i xf hx
   obtain ⟨td,z,_,i2,_,_,_,_⟩:=(hE.ty _ _ hx).out
   cases hb:Nat.beq xf.size 0 with
   | true=>rw [hb] at h; cases h
   | false =>
    rw [hb,cond_false] at h
    obtain ⟨m,hm⟩:∃ m,xf.size=m + 1:=⟨xf.size - 1,by
     have:xf.size≠0:=fun e=>by rw [e] at hb; cases hb
     omega⟩
    rw [hm] at i2
    haveI:Inf P ft (m + 1) xf.bytes z:=i2
    obtain ⟨q',hq,hv⟩:=ptrR h (fun a ha=>evR (st:=st) hE hT hg0 ha)
    exact fa hg hq (kk _ hv)
  ·cases h
 ·cases h
theorem fd_ok (hE:EnvOk P E) (hT:TR ρ G τ) (hg0:st.glob=E.gl) {t:TypeId} {f:Nat} {v:AV} (hg:goes ops n τ ⟨dd,.field t x f,ty,pos,es,gd⟩=some d)
  (h:fdX E t f (evX E G x)=some v) (kk:∀ w,VR ρ v w→AOps P n ops rest K Ep ((d,w)::τ) st):AOps P n ops (⟨dd,.field t x f,ty,pos,es,gd⟩::rest) K Ep τ st:=by
 unfold fdX at h
 split at h
 ·rename_i off ft hf
  haveI:=fldX_ok hE hf
  split at h
  ·rename_i xf hx
   obtain ⟨td,z,i1,i2,i3,_,_,_⟩:=(hE.ty _ _ hx).out
   haveI:Und P ft td:=i1
   haveI:Inf P ft xf.size xf.bytes z:=i2
   split at h
   ·rename_i cs e1
    obtain ⟨u1,f1,r1⟩:=evR hE hT hg0 e1
    cases r1 with
    | agg _ ds q1 q2 =>
    rw [← i3] at h
    obtain ⟨w,hw,hv⟩:=LR.sel ⟨q1,q2⟩ h
    exact fd hg f1 hw (kk w hv)
   ·cases h
  ·cases h
 ·cases h
theorem len_ok (hE:EnvOk P E) (hT:TR ρ G τ) (hg0:st.glob=E.gl) {t u:TypeId} {v:AV} (hg:goes ops n τ ⟨dd,.call ⟨.builtin .len,#[x],#[t]⟩,u,pos,es,gd⟩=some d)
  (h:lenX E t (evX E G x)=some v) (kk:∀ w,VR ρ v w→AOps P n ops rest K Ep ((d,w)::τ) st):AOps P n ops (⟨dd,.call ⟨.builtin .len,#[x],#[t]⟩,u,pos,es,gd⟩::rest) K Ep τ st:=by
 unfold lenX at h
 split at h
 ·rename_i e _ _ _ _ _ ht
  obtain ⟨td,z,h1,_,_,hk,_,_⟩:=(hE.ty _ _ ht).out
  cases hk
  haveI:Und P t (.slice e):=h1
  split at h
  ·rename_i e1
   obtain ⟨u1,f1,r1⟩:=evR hE hT hg0 e1
   cases h
   cases r1 with
   | view _ rows rows' _ q0 q1 q2 q3=>exact lnv hg f1 (kk _ (by rw [q1]; exact .int _ _))
  ·rename_i e1
   obtain ⟨u1,f1,r1⟩:=evR hE hT hg0 e1
   cases h
   cases r1 with
   | msl _ o _ _ _ q=>exact lnm hg f1 (kk _ (.int _ _))
  ·cases h
 ·rename_i ht
  obtain ⟨td,z,h1,_,_,hk,_,_⟩:=(hE.ty _ _ ht).out
  cases hk
  haveI:Und P t .string:=h1
  split at h
  ·rename_i e1
   obtain ⟨u1,f1,r1⟩:=evR hE hT hg0 e1
   cases h
   cases r1
   exact lns hg f1 (kk _ (.int _ _))
  ·cases h
 ·cases h
theorem bnd_ok (hE:EnvOk P E) (hT:TR ρ G τ) (hg0:st.glob=E.gl) {y:Operand} {m:Option Nat} (h:bndX E G (some y)=some m):∃ a k,m=some a∧ev st τ y=some (.int k (a:Int)):=by
 simp only [bndX] at h
 split at h
 ·rename_i k i e1
  obtain ⟨u1,f1,r1⟩:=evR hE hT hg0 e1
  cases r1
  obtain ⟨a,ha,rfl⟩:=Option.map_eq_some_iff.1 h
  rw [nat?_eq ha] at f1
  exact ⟨a,k,rfl,f1⟩
 ·cases h
theorem sl_ok (hE:EnvOk P E) (hT:TR ρ G τ) (hg0:st.glob=E.gl) {t:TypeId} {lo hi:Option Operand} {a b:Option Nat} {v:AV} (hg:goes ops n τ ⟨dd,.slice t x lo hi none,ty,pos,es,gd⟩=some d)
  (ha:bndX E G lo=some a) (hb:bndX E G hi=some b) (h:slX E t (evX E G x) a b=some v) (kk:∀ w,VR ρ v w→AOps P n ops rest K Ep ((d,w)::τ) st):AOps P n ops (⟨dd,.slice t x lo hi none,ty,pos,es,gd⟩::rest) K Ep τ st:=by
 have none_of:∀ {o:Option Operand},bndX E G o=some none→o=none:=fun {o} h=>by
  cases o with
  | none=>rfl
  | some y=>obtain ⟨_,_,h1,_⟩:=bnd_ok (st:=st) hE hT hg0 h; cases h1
 have some_of:∀ {o:Option Operand} {m:Nat},bndX E G o=some (some m)→∃ y k,o=some y∧ev st τ y=some (.int k (m:Int)):=fun {o m} h=>by
  cases o with
  | none=>cases h
  | some y =>
   obtain ⟨_,k,h1,h2⟩:=bnd_ok (st:=st) hE hT hg0 h
   cases h1
   exact ⟨y,k,rfl,h2⟩
 unfold slX at h
 split at h
 ·rename_i e _ _ _ _ _ ht
  obtain ⟨td,z,h1,_,_,hk,_,_⟩:=(hE.ty _ _ ht).out
  cases hk
  haveI:Und P t (.slice e):=h1
  split at h
  ·rename_i xe hxe
   obtain ⟨td',z',_,i2,_,_,_,_⟩:=(hE.ty _ _ hxe).out
   haveI:Inf P e xe.size xe.bytes z':=i2
   split at h
   ·rename_i sz rows tk e1
    obtain ⟨u1,f1,r1⟩:=evR hE hT hg0 e1
    cases hs:Nat.beq sz xe.size with
    | false=>rw [hs] at h; cases h
    | true =>
     rw [hs,cond_true] at h
     have:=Nat.eq_of_beq_eq_true hs
     subst this
     cases r1 with
     | view _ _ rows' _ q0 q1 q2 q3 =>
     have hl:LLR ρ rows rows':=⟨q1,fun i r r' a b=>⟨q2 i r r' a b,fun j c d e f=>q3 i j r r' c d a b e f⟩⟩
     have sh:∀ k e,Tok.shared≠.own k e:=fun k e h=>by cases h
     split at h
     ·obtain ⟨y1,k1,rfl,g1⟩:=some_of ha
      obtain ⟨y2,k2,rfl,g2⟩:=some_of hb
      rename_i a b
      cases hc:(Nat.ble a b && Nat.ble b rows.length) with
      | false=>rw [hc] at h; cases h
      | true =>
       rw [hc] at h
       cases h
       rw [Bool.and_eq_true] at hc
       exact sv2 hg f1 g1 g2 (Nat.le_of_ble_eq_true hc.1) (q1 ▸ Nat.le_of_ble_eq_true hc.2) (kk _ (.view_of sh ((hl.drop _).take _)))
     ·obtain rfl:=none_of ha
      obtain ⟨y2,k2,rfl,g2⟩:=some_of hb
      rename_i b
      cases hc:Nat.ble b rows.length with
      | false=>rw [hc] at h; cases h
      | true =>
       rw [hc] at h
       cases h
       exact svh hg f1 g2 (q1 ▸ Nat.le_of_ble_eq_true hc) (kk _ (.view_of sh (hl.take _)))
     ·obtain rfl:=none_of hb
      obtain ⟨y2,k2,rfl,g2⟩:=some_of ha
      rename_i a
      cases hc:Nat.ble a rows.length with
      | false=>rw [hc] at h; cases h
      | true =>
       rw [hc] at h
       cases h
       exact svl hg f1 g2 (q1 ▸ Nat.le_of_ble_eq_true hc) (kk _ (.view_of sh (hl.drop _)))
     ·cases h
   ·rename_i o sz l len e1
    obtain ⟨u1,f1,r1⟩:=evR hE hT hg0 e1
    cases hs:Nat.beq sz xe.size with
    | false=>rw [hs] at h; cases h
    | true =>
     rw [hs,cond_true] at h
     have:=Nat.eq_of_beq_eq_true hs
     subst this
     cases r1 with
     | msl _ o' _ _ _ q =>
     split at h
     ·obtain rfl:=none_of ha
      obtain ⟨y2,k2,rfl,g2⟩:=some_of hb
      rename_i b
      cases hc:Nat.ble b len with
      | false=>rw [hc] at h; cases h
      | true =>
       rw [hc] at h
       cases h
       exact slm hg f1 g2 (Nat.le_of_ble_eq_true hc) (kk _ (.msl _ _ _ _ _ q))
     ·obtain ⟨y1,k1,rfl,g1⟩:=some_of ha
      obtain rfl:=none_of hb
      rename_i a
      cases hc0:Nat.blt a len with
      | true =>
       rw [hc0] at h
       cases h
       rw [Nat.blt_eq] at hc0
       exact slml hg f1 g1 hc0 (kk _ (.msl _ _ _ _ _ q))
      | false =>
      rw [hc0,cond_false] at h
      cases hc:Nat.beq a len with
      | false=>rw [hc] at h; cases h
      | true =>
       rw [hc] at h
       cases h
       have:=Nat.eq_of_beq_eq_true hc
       subst this
       exact slm0 hg f1 g1 (kk _ (.view_of (fun k e h=>by cases h) .nil))
     ·cases h
   ·cases h
  ·cases h
 ·rename_i ht
  obtain ⟨td,z,h1,_,_,hk,_,_⟩:=(hE.ty _ _ ht).out
  cases hk
  haveI:Und P t .string:=h1
  split at h
  ·rename_i l e1
   obtain ⟨u1,f1,r1⟩:=evR hE hT hg0 e1
   cases r1
   split at h
   ·obtain ⟨y1,k1,rfl,g1⟩:=some_of ha
    obtain ⟨y2,k2,rfl,g2⟩:=some_of hb
    rename_i a b
    cases hc:(Nat.ble a b && Nat.ble b l.length) with
    | false=>rw [hc] at h; cases h
    | true =>
     rw [hc] at h
     cases h
     rw [Bool.and_eq_true] at hc
     exact ss2 hg f1 g1 g2 (Nat.le_of_ble_eq_true hc.1) (Nat.le_of_ble_eq_true hc.2) (kk _ (.str _))
   ·obtain rfl:=none_of ha
    obtain ⟨y2,k2,rfl,g2⟩:=some_of hb
    rename_i b
    cases hc:Nat.ble b l.length with
    | false=>rw [hc] at h; cases h
    | true =>
     rw [hc] at h
     cases h
     exact ssh hg f1 g2 (Nat.le_of_ble_eq_true hc) (kk _ (.str _))
   ·obtain rfl:=none_of hb
    obtain ⟨y2,k2,rfl,g2⟩:=some_of ha
    rename_i a
    cases hc:Nat.ble a l.length with
    | false=>rw [hc] at h; cases h
    | true =>
     rw [hc] at h
     cases h
     exact ssl hg f1 g2 (Nat.le_of_ble_eq_true hc) (kk _ (.str _))
   ·cases h
  ·cases h
 ·cases h
def PR (ρ:Ren) (vs us:List (Nat × AV)):Prop:=vs.length=us.length∧∀ (i:Nat) p q,vs[i]?=some p→us[i]?=some q→p.1=q.1∧VR ρ p.2 q.2
theorem evPartsR (hE:EnvOk P E) (hT:TR ρ G τ) (hg0:st.glob=E.gl):∀ {ps:List (Nat × Operand)} {vs:List (Nat × AV)},evPartsX E G ps=some vs→∃ us,evParts st τ ps=some us∧PR ρ vs us
 | [],vs,h=>by cases h; exact ⟨[],rfl,rfl,fun i p q h=>by simp at h⟩
 | (i,x)::r,vs,h=>by
  unfold evPartsX at h
  cases h1:evX E G x with
  | none=>rw [h1] at h; cases h
  | some v =>
   cases h2:evPartsX E G r with
   | none=>rw [h1,h2] at h; cases h
   | some vs' =>
    rw [h1,h2] at h
    cases h
    obtain ⟨u,e1,r1⟩:=evR hE hT hg0 h1
    obtain ⟨us,e2,r2⟩:=evPartsR hE hT hg0 h2
    refine ⟨(i,u)::us,by rw [evParts,e1,e2],by rw [List.length_cons,List.length_cons,r2.1],fun j p q hp hq=>?_⟩
    cases j with
    | zero=>cases hp; cases hq; exact ⟨rfl,r1⟩
    | succ j=>exact r2.2 j p q (by simpa using hp) (by simpa using hq)
theorem afillR {place:Nat→Option (Nat × Nat)}:∀ {vs us:List (Nat × AV)} {cs ds cs':List AV},PR ρ vs us→LR ρ cs ds→afill place cs vs=some cs'→∃ ds',afill place ds us=some ds'∧LR ρ cs' ds'
 | [],us,cs,ds,cs',hp,hl,h=>by
  obtain rfl:us=[]:=List.eq_nil_of_length_eq_zero (by rw [← hp.1]; rfl)
  cases h
  exact ⟨ds,rfl,hl⟩
 | (i,v)::vs,[],cs,ds,cs',hp,hl,h=>by have:=hp.1; simp at this
 | (i,v)::vs,(j,u)::us,cs,ds,cs',hp,hl,h=>by
  obtain ⟨e,hv⟩:=hp.2 0 _ _ rfl rfl
  have e:i=j:=e
  have hv:VR ρ v u:=hv
  subst e
  have hp':PR ρ vs us:=⟨by have:=hp.1; simpa using this,fun k p q h1 h2=>hp.2 (k + 1) p q (by simpa using h1) (by simpa using h2)⟩
  unfold afill at h ⊢
  cases hpl:place i with
  | none=>rw [hpl] at h; cases h
  | some os =>
   obtain ⟨off,size⟩:=os
   rw [hpl] at h
   simp only at h ⊢
   rw [← hv.cells.1,← hl.1,hv.storable]
   cases hb:(Nat.beq v.cells.length size && Nat.ble (off + size) cs.length && storable v) with
   | false=>rw [hb] at h; cases h
   | true =>
    rw [hb,cond_true] at h
    rw [cond_true]
    exact afillR hp' (hl.rowSet off hv.cells) h
theorem LR.zero {z:Value}:LR ρ (zrow z) (zrow z):=by
 refine ⟨rfl,fun i c d h1 h2=>?_⟩
 rw [h1] at h2
 cases h2
 simp only [zrow,List.getElem?_map,Option.map_eq_some_iff] at h1
 obtain ⟨v,_,rfl⟩:=h1
 exact VR.of_clean (clean_abs1 v)
theorem LR.zeros {z:Value}:∀ len:Nat,LR ρ ((List.replicate len (zrow z)).flatten) ((List.replicate len (zrow z)).flatten)
 | 0=>.nil
 | len + 1=>by
  rw [List.replicate_succ,List.flatten_cons]
  exact LR.zero.append (LR.zeros len)
theorem bld_ok (hE:EnvOk P E) (hT:TR ρ G τ) (hg0:st.glob=E.gl) {t:TypeId} {parts:Array (Nat × Operand)} {v:AV} (hg:goes ops n τ ⟨dd,.build t parts,ty,pos,es,gd⟩=some d)
  (h:bldX E t (evPartsX E G parts.toList)=some v) (kk:∀ w,VR ρ v w→AOps P n ops rest K Ep ((d,w)::τ) st):AOps P n ops (⟨dd,.build t parts,ty,pos,es,gd⟩::rest) K Ep τ st:=by
 unfold bldX at h
 split at h
 ·rename_i fs pl ag sz by_ z fl vs ht he
  obtain ⟨us,e2,r2⟩:=evPartsR hE hT hg0 he
  obtain ⟨td,zz,h1,h2,_,hk,hz,hzr⟩:=(hE.ty _ _ ht).out
  obtain ⟨a,rfl,hpl,_⟩:=hk
  haveI:Und P t (.struct a):=h1
  haveI:Inf P t sz by_ zz:=h2
  haveI:Places P a pl:=hpl
  obtain ⟨cs,hc,rfl⟩:=Option.map_eq_some_iff.1 h
  have hzr:zrow zz=z:=hzr
  rw [← hzr] at hc
  obtain ⟨ds,hd,hl⟩:=afillR r2 LR.zero hc
  exact bds hg hz e2 hd (kk _ (.agg_of hl))
 ·rename_i len e ag sz by_ z fl vs ht he
  obtain ⟨us,e2,r2⟩:=evPartsR hE hT hg0 he
  obtain ⟨td,zz,h1,h2,_,hk,hz,hzr⟩:=(hE.ty _ _ ht).out
  cases hk
  haveI:Und P t (.array len e):=h1
  haveI:Inf P t sz by_ zz:=h2
  split at h
  ·rename_i xe hxe
   obtain ⟨td',ez,_,i2,_,_,_,_⟩:=(hE.ty _ _ hxe).out
   haveI:Inf P e xe.size xe.bytes ez:=i2
   obtain ⟨cs,hc,rfl⟩:=Option.map_eq_some_iff.1 h
   have hzr:zrow zz=z:=hzr
   rw [← hzr] at hc
   obtain ⟨ds,hd,hl⟩:=afillR r2 LR.zero hc
   exact bda hg hz e2 hd (kk _ (.agg_of hl))
  ·cases h
 ·cases h
theorem LLR.chunk {sz:Nat}:∀ (len:Nat) {cs ds:List AV},LR ρ cs ds→LLR ρ (chunk sz len cs) (chunk sz len ds)
 | 0,_,_,_=>.nil
 | len + 1,_,_,h=>.cons (h.take sz) (LLR.chunk len (h.drop sz))
theorem bsl_ok (hE:EnvOk P E) (hT:TR ρ G τ) (hg0:st.glob=E.gl) {t:TypeId} {len:Nat} {parts:Array (Nat × Operand)} {v:AV} (hg:goes ops n τ ⟨dd,.buildSlice t len parts,ty,pos,es,gd⟩=some d)
  (h:bslX E t len (evPartsX E G parts.toList)=some v) (kk:∀ w,VR ρ v w→AOps P n ops rest K Ep ((d,w)::τ) st):AOps P n ops (⟨dd,.buildSlice t len parts,ty,pos,es,gd⟩::rest) K Ep τ st:=by
 unfold bslX at h
 split at h
 ·rename_i e ag sz by_ z fl vs ht he
  obtain ⟨us,e2,r2⟩:=evPartsR hE hT hg0 he
  obtain ⟨td,zz,h1,_,_,hk,_,_⟩:=(hE.ty _ _ ht).out
  cases hk
  haveI:Und P t (.slice e):=h1
  split at h
  ·rename_i sz' by' z' _ hxe
   obtain ⟨td',ez,_,i2,_,_,hz,hzr⟩:=(hE.ty _ _ hxe).out
   haveI:Inf P e (sz' + 1) by' ez:=i2
   cases hb:Nat.ble (len * (sz' + 1)) 16777216 with
   | false=>rw [hb] at h; cases h
   | true =>
    rw [hb,cond_true] at h
    obtain ⟨cs,hc,rfl⟩:=Option.map_eq_some_iff.1 h
    simp only at hzr
    rw [← hzr] at hc
    obtain ⟨ds,hd,hl⟩:=afillR r2 (LR.zeros len) hc
    exact bsF hg hz hb e2 hd (kk _ (.view_of (fun k e h=>by cases h) (LLR.chunk len hl)))
  ·cases h
 ·cases h
theorem cv_ok (hE:EnvOk P E) (hT:TR ρ G τ) (hg0:st.glob=E.gl) {t u:TypeId} {v:AV} (hg:goes ops n τ ⟨dd,.convert t u x,ty,pos,es,gd⟩=some d)
  (h:cvX E t u (evX E G x)=some v) (kk:∀ w,VR ρ v w→AOps P n ops rest K Ep ((d,w)::τ) st):AOps P n ops (⟨dd,.convert t u x,ty,pos,es,gd⟩::rest) K Ep τ st:=by
 unfold cvX at h
 split at h
 ·rename_i k _ _ _ _ _ k0 a hu e1
  obtain ⟨u1,f1,r1⟩:=evR hE hT hg0 e1
  cases r1
  obtain ⟨td,zz,h1,_,_,hk,_,_⟩:=(hE.ty _ _ hu).out
  cases hk
  haveI:Und P u (.int k):=h1
  split at h
  ·rename_i xt ht
   obtain ⟨td',_,i1,_⟩:=(hE.ty _ _ ht).out
   haveI:Und P t td':=i1
   cases h
   exact cv hg f1 rfl (kk _ (.int _ _))
  ·cases h
 ·cases h
end
end Go.AX
namespace Go.AX
open Go.AM
open Go.RowKit (Below)
section
variable {P:Program} {st:St}

theorem src_msl {g:G} {w:World} (hs:Sim g w st) {o sz lo len:Nat} {rv:Value} {ty:TypeId} {rows:List (List AV)} (h:R g w (.msl o sz lo len) rv) (ho:st.obj o=some (.cells ty sz rows)) (hb:lo + len≤rows.length) :
  Src g w sz ((rows.drop lo).take len) rv:=by
 have hlen:((rows.drop lo).take len).length=len:=by rw [List.length_take,List.length_drop]; omega
 cases h with
 | msl _ _ _ _ cap b m hob hc hm hfit =>
  obtain ⟨_,⟨arr,ha,hasz,hml,hl,h1,hcell⟩,_⟩:=hs.objOf ho hob
  have hrow:∀ (i:Nat) row,((rows.drop lo).take len)[i]?=some row→rows[lo + i]?=some row:=fun i row hr=>by
   have hi:i < len:=by rw [← hlen]; exact (List.getElem?_eq_some_iff.1 hr).1
   rw [List.getElem?_take_of_lt hi,List.getElem?_drop] at hr
   exact hr
  have hval:∀ (i j:Nat) row c,((rows.drop lo).take len)[i]?=some row→row[j]?=some c→∃ v,arr[lo * sz + (i * sz + j)]?=some v∧R g w c v:=fun i j row c hr hc=>by
   obtain ⟨v,h4,h5⟩:=hcell (lo + i) j row c (hrow i row hr) hc
   exact ⟨v,by rw [← Nat.add_assoc,← Nat.add_mul]; exact h4,h5⟩
  have hR:∀ (i j:Nat) row c,((rows.drop lo).take len)[i]?=some row→row[j]?=some c→R g w c ((arr[lo * sz + (i * sz + j)]?).getD undef):=fun i j row c hr hc=>by
   obtain ⟨v,h4,h5⟩:=hval i j row c hr hc
   rw [h4]
   exact h5
  refine ⟨some ⟨b,lo * sz,none⟩,cap,fun i j=>(arr[lo * sz + (i * sz + j)]?).getD undef,by rw [hlen],fun h=>(by cases h),hR,fun row hr=>hl row (List.mem_of_mem_drop (List.mem_of_mem_take hr)),fun row hr=>h1 row (List.mem_of_mem_drop (List.mem_of_mem_take hr)),fun b' hb' q v hq=>?_,fun u hu=>?_⟩
  ·cases hb'
   obtain ⟨h2,rfl⟩:=flatV_get hq
   have hsz':0 < sz:=by
    rcases Nat.eq_zero_or_pos sz with h|h
    ·subst h; simp at h2
    ·exact h
   have hq1:q / sz < ((rows.drop lo).take len).length:=by rwa [Nat.div_lt_iff_lt_mul hsz']
   have hr:=List.getElem?_eq_getElem hq1
   have hrl:(((rows.drop lo).take len)[q / sz]).length=sz:=hl _ (List.mem_of_mem_drop (List.mem_of_mem_take (List.getElem_mem hq1)))
   have hj:q % sz < (((rows.drop lo).take len)[q / sz]).length:=by rw [hrl]; exact Nat.mod_lt _ hsz'
   obtain ⟨v,h4,_⟩:=hval _ _ _ _ hr (List.getElem?_eq_getElem hj)
   rw [h4]
   rw [Nat.mul_comm (q / sz) sz,Nat.div_add_mod] at h4
   rw [addr_add,cell_of_row w b _ arr ty (0,0) ha,h4]
   rfl
  ·obtain ⟨i,j,hi,hj,rfl⟩:=mem_flatV hu
   have hr:=List.getElem?_eq_getElem hi
   have hrl:(((rows.drop lo).take len)[i]).length=sz:=hl _ (List.mem_of_mem_drop (List.mem_of_mem_take (List.getElem_mem hi)))
   have hjl:j < (((rows.drop lo).take len)[i]).length:=by rw [hrl]; exact hj
   exact (hR i j _ _ hr (List.getElem?_eq_getElem hjl)).one (h1 _ (List.mem_of_mem_drop (List.mem_of_mem_take (List.getElem_mem hi))) _ (List.getElem_mem hjl))
theorem app_new {g:G} {w:World} (hs:Sim g w st) {t e:TypeId} {sz by_:Nat} {ez:Value} [hu:Und P t (.slice e)] [hie:Inf P e sz by_ ez] (hz:zok sz ez=true) {ty:TypeId} {rows rows2:List (List AV)} {tk:Tok} {ux uy:Value}
  (h1:R g w (.view sz rows tk) ux) (htk:tk=.nil∨tk=.full) (h2:Src g w sz rows2 uy) (h0:rows2≠[]) (hb:(rows.length + rows2.length) * by_≤140737488355328) (hm:rows.length + rows2.length≤maxLen) :
  ∃ v w' g' o',(Builtin.append_ #[t,t] ty #[ux,uy]).run P w=.ok v w'∧Ext g w g' w'∧Sim g' w' (st.set o' (.cells e sz (rows++rows2)))∧R g' w' (.msl o' sz 0 (rows.length + rows2.length)) v∧st.obj o'=none:=by
 have nilc:ux=.slice none 0 0→rows=[]→∃ v w' g' o',(Builtin.append_ #[t,t] ty #[ux,uy]).run P w=.ok v w'∧Ext g w g' w'∧Sim g' w' (st.set o' (.cells e sz (rows++rows2)))∧R g' w' (.msl o' sz 0 (rows.length + rows2.length)) v∧st.obj o'=none:=fun e1 e2=>by
  subst e1 e2
  simp only [List.length_nil,Nat.zero_add] at hb hm
  obtain ⟨v,w',g',o',r1,r2,r3,r4,r5⟩:=append_nil_msl (P:=P) hs (t:=t) (ty:=ty) hz h2 h0 hb hm
  exact ⟨v,w',g',o',r1,r2,r3,by simpa using r4,r5⟩
 have some1:∀ (ad1:Addr) (cap1:Nat),ux=.slice (some ad1) rows.length cap1→cap1=rows.length→∃ v w' g' o',(Builtin.append_ #[t,t] ty #[ux,uy]).run P w=.ok v w'∧Ext g w g' w'∧Sim g' w' (st.set o' (.cells e sz (rows++rows2)))∧R g' w' (.msl o' sz 0 (rows.length + rows2.length)) v∧st.obj o'=none:=by
  intro ad1 cap1 hux hcap
  obtain ⟨z1,z2,z3,z4⟩:=zok_spec hz
  obtain ⟨inf,i1,i2,i3,i4⟩:=hie.out
  obtain ⟨base1,cap1',f1,e1,hnil1,hR1,hl1,h11,hcell1,hone1⟩:=src_of h1
  obtain ⟨base2,cap2,f2,rfl,hnil2,hR2,hl2,h12,hcell2,hone2⟩:=h2
  have hpos:0 < rows2.length:=List.length_pos_iff.2 h0
  rw [hux] at e1
  cases e1
  subst hux hcap
  obtain ⟨ad,rfl⟩:∃ ad,base2=some ad:=by
   cases base2 with
   | none=>exact absurd (hnil2 rfl).1 h0
   | some ad=>exact ⟨ad,rfl⟩
  subst i2
  have hr:=run_append_grow (P:=P) w t ty e inf ez hu.out i1 i4 ad1 rows.length rows.length (flatV f1 rows.length inf.size) (flatV_length _ _ _) (hcell1 ad1 rfl) ad rows2.length cap2 (flatV f2 rows2.length inf.size) (flatV_length _ _ _) (hcell2 ad rfl) (by omega) (by simp only [maxLen] at hm; omega)
   (growslice_fits (by omega) (by rw [i3]; exact hb))
  have hge:=grownCap_ge w (rows.length + rows2.length) rows.length e
  have hgm:=grownCap_le_maxLen w (rows.length + rows2.length) rows.length e hm
  obtain ⟨hed,hsd⟩:=hs.draw
  generalize hcp:grownCap w (rows.length + rows2.length) rows.length e=cp at hr hge hgm
  generalize harr:(flatV f1 rows.length inf.size).toArray++(flatV f2 rows2.length inf.size).toArray++Builtin.zeroCells ez.cells (cp - (rows.length + rows2.length))=arr' at hr
  have hsize':arr'.size=cp * inf.size:=by
   rw [← harr]
   simp only [Array.size_append,List.size_toArray,flatV_length,size_zeroCells,z1,← Nat.add_mul]
   congr 1
   omega
  have hlrow:∀ row ∈ rows++rows2,row.length=inf.size:=fun row hr=>by
   rcases List.mem_append.1 hr with h|h
   ·exact hl1 row h
   ·exact hl2 row h
  have h1row:∀ row ∈ rows++rows2,∀ c ∈ row,c.one=true:=fun row hr=>by
   rcases List.mem_append.1 hr with h|h
   ·exact h11 row h
   ·exact h12 row h
  obtain ⟨g',he,hs',hob',hnone⟩:=hsd.newObj (.cells arr' e) (.cells e inf.size (rows++rows2)) (cp * inf.size) (fun g' he=>by
   refine ⟨arr',heap_alloc_new _ _,hsize',?_,hlrow,h1row,fun i j row c hr hcj=>?_⟩
   ·rw [List.length_append]; exact Nat.mul_le_mul_right _ hge
   ·obtain ⟨v,hv,hR⟩:=appended_get (g:=g) (w:=w) (rows:=rows) (rows2:=rows2) (f:=f1) (f2:=f2) (sz:=inf.size) hl1 hl2 hR1 hR2 (Builtin.zeroCells ez.cells (cp - (rows.length + rows2.length))).toList i j row c hr hcj
    refine ⟨v,?_,(hR.ext hed).ext he⟩
    rw [← harr,← Array.getElem?_toList]
    simpa using hv)
  refine ⟨_,_,g',g.next,hr,hed.trans he,hs',?_,hnone⟩
  have:=R.msl (g:=g') (w:=w.drew.alloc (.cells arr' e)) g.next inf.size 0 (rows.length + rows2.length) cp w.drew.heap.size (cp * inf.size) hob' hge hgm (by simp)
  simpa using this
 cases h1 with
 | vnil _ _ _=>exact nilc rfl rfl
 | vemp _ _ ad hn ht=>exact some1 ad 0 rfl rfl
 | view _ _ _ b off cap f hc hmx hsz h1' ht himm hh =>
  rcases htk with rfl|rfl
  ·cases ht
  ·exact some1 _ cap rfl (by have:rows.length=cap:=ht; exact this.symm)
end
end Go.AX
