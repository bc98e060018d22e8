/- Rules that shorten the walks: variables that are written once, tests, contracts that leave the state as it was. No conditions: lemmas only. -/
import Derived.Laws.Cover3
import Derived.Laws.Small
import Derived.ProofKit
import Derived.DataReads
import Derived.Carry
import Derived.OpenShut
import Derived.Laws.IdiomStrings
import Derived.Laws.BytesArg
import Derived.Laws.RangeAny
import Derived.Lib.OthersKept
import Derived.Laws.StructEq
import Derived.ChangeKeysEq
import Derived.Lib.LaidTab
import Derived.Sort.Grow
import Derived.RowKit
import Derived.LaidLaws
import Derived.LaidHandle
import Derived.ChangeVars
import Derived.Recover
import Derived.Laws.Panics
import Derived.Test.YtlnijnpmfnlegaaGreatB1
namespace Go.AM
open Go.RowKit (Below)

section
variable {P:Program} {n:Nat} {K:Post} {E:EPost} {T:Tmps} {st:St} {ops:Array Oper} {rest:List Oper}
variable {ty:TypeId} {pos:String} {es:Array Edge} {gd:Option (Nat × Bool)} {d:Tmp} {x y:Operand} {dd:Option Tmp}

theorem R.frozenC {g:G} {w:World} (hs:Sim g w st) {o sz i off:Nat} {oty:TypeId} {rows:List (List AV)} (ho:st.obj o=some (.cells oty sz rows)) {rv:Value} (h:R g w (.cptr o sz i off) rv) :
  ∃ g',Ext g w g' w∧Sim g' w (st.drop o)∧R g' w (.eptr sz rows i off) rv:=by
 cases h with
 | cptr _ _ _ _ b m hb =>
  obtain ⟨g',he,hsim,himm⟩:=hs.freeze ho hb
  obtain ⟨_,⟨arr,ha,hsz,hml,hlr,h1,hcell⟩,_⟩:=hs.objOf ho hb
  refine ⟨g',he,hsim,?_⟩
  have key:=R.eptr (g:=g') (w:=w) sz rows i off b 0 (fun i j=>arr.getD (i * sz + j) undef) hlr h1
   (fun i j hi hj=>by
    refine ⟨himm _,?_⟩
    have h2:i * sz + j < rows.length * sz:=mul_add_lt hi hj
    rw [cell_of_row w b _ arr oty (0,0) ha,Array.getD_eq_getD_getElem?,Nat.zero_add,Array.getElem?_eq_getElem (by omega)]
    rfl)
   (fun i j row c hr hcj=>by
    obtain ⟨v,hv1,hv2⟩:=hcell i j row c hr hcj
    rw [Array.getD_eq_getD_getElem?,hv1]
    exact hv2.ext he)
  rw [Nat.zero_add] at key
  exact key

theorem StLe.ofNew {st:St} {o:Nat} {c:AObj} (h:st.obj o=none):StLe ((st.set o c).drop o) st :=
 ⟨fun p x hp=>by
  have:p≠o:=St.ne_of_new h hp
  rw [St.obj_drop_ne this,St.obj_set_ne this]; exact hp,fun _ h=>h,rfl⟩

theorem AOps.fz (t:Nat) {o s i off:Nat} {oty:TypeId} {rows:List (List AV)} (ht:T.get t=some (.cptr o s i off)) (ho:st.obj o=none)
  (h:AOps P n ops rest K E ((t,.eptr s rows i off)::T) st):AOps P n ops rest K E T (st.set o (.cells oty s rows)) :=
 AOps.ghost fun g w a hs hk=>by
  obtain ⟨rv,h1,h2⟩:=hk t _ ht
  obtain ⟨g',he,hs',hR⟩:=h2.frozenC hs (St.obj_set _ _ _)
  exact ⟨g',_,_,he,hs'.le (StLe.ofNew ho),(hk.ext he).cons h1 hR,h⟩

theorem bxe {t:TypeId} {v:AV} {sz:Nat} (hg:goes ops n T ⟨dd,.box t x,ty,pos,es,gd⟩=some d) (hx:ev st T x=some v) (hv:storable v=true) (hsz:v.cells.length=sz)
  (k:AOps P n ops rest K E ((d,.eptr sz [v.cells] 0 0)::T) st):AOps P n ops (⟨dd,.box t x,ty,pos,es,gd⟩::rest) K E T st:=by
 refine bx hg hx hv hsz fun o ho=>?_
 refine AOps.fz d (by rw [Tmps.get_cons,if_pos rfl]) ho ?_
 refine AOps.weaken (T':=(d,.eptr sz [v.cells] 0 0)::T) ?_ (.refl _) k
 intro i v' hi
 rw [Tmps.get_cons] at hi
 rw [Tmps.get_cons,Tmps.get_cons]
 by_cases h:d=i
 ·rw [if_pos h] at hi ⊢
  exact ⟨_,rfl,by cases hi; exact .refl _⟩
 ·rw [if_neg h] at hi ⊢
  rw [if_neg h]
  exact ⟨_,hi,.refl _⟩

theorem bsh {t e:TypeId} {len:Nat} {esz eby:Nat} {ez:Value} {parts:Array (Nat × Operand)} {vs:List (Nat × AV)} {cs:List AV} [hu:Und P t (.slice e)] [hie:Inf P e (esz + 1) eby ez] (hg:goes ops n T ⟨dd,.buildSlice t len parts,ty,pos,es,gd⟩=some d)
  (hz:zok (esz + 1) ez=true) (hsm:Nat.ble (len * (esz + 1)) 16777216=true) (he:evParts st T parts.toList=some vs) (hf:afill (fun i=>some (i * (esz + 1),esz + 1)) ((List.replicate len (zrow ez)).flatten) vs=some cs)
  (k:AOps P n ops rest K E ((d,.view (esz + 1) (chunk (esz + 1) len cs) .shared)::T) st):AOps P n ops (⟨dd,.buildSlice t len parts,ty,pos,es,gd⟩::rest) K E T st:=by
 refine bs hg hz hsm he hf fun tk htk=>?_
 refine AOps.weaken (T':=(d,.view (esz + 1) (chunk (esz + 1) len cs) .shared)::T) ?_ (StLe.addTok _ (.refl _)) k
 intro i v' hi
 rw [Tmps.get_cons] at hi ⊢
 by_cases h:d=i
 ·rw [if_pos h] at hi ⊢
  cases hi
  exact ⟨_,rfl,.shared _ _ _⟩
 ·rw [if_neg h] at hi ⊢
  exact ⟨_,hi,.refl _⟩

theorem rowSet_all {row cs:List AV} (h:cs.length=row.length):rowSet row 0 cs=cs:=by
 simp [rowSet,h]

theorem bs1 {t e:TypeId} {esz eby:Nat} {ez:Value} {v:AV} [hu:Und P t (.slice e)] [hie:Inf P e (esz + 1) eby ez] (hg:goes ops n T ⟨dd,.buildSlice t 1 #[(0,x)],ty,pos,es,gd⟩=some d)
  (hz:zok (esz + 1) ez=true) (hsm:Nat.ble (1 * (esz + 1)) 16777216=true) (hx:ev st T x=some v) (hl:Nat.beq v.cells.length (esz + 1)=true) (hv:storable v=true)
  (k:AOps P n ops rest K E ((d,.view (esz + 1) [v.cells] .shared)::T) st):AOps P n ops (⟨dd,.buildSlice t 1 #[(0,x)],ty,pos,es,gd⟩::rest) K E T st:=by
 have hl':=Nat.eq_of_beq_eq_true hl
 obtain ⟨z1,z2,z3,z4⟩:=zok_spec hz
 have hr:rowSet (zrow ez) 0 v.cells=v.cells:=rowSet_all (by rw [hl',z3])
 refine bsh (vs:=[(0,v)]) (cs:=v.cells) hg hz hsm (by simp [evParts,hx]) ?_ ?_
 ·simp only [List.replicate_one,List.flatten_cons,List.flatten_nil,List.append_nil,afill,Nat.zero_mul,hl',nbeq_self,hv,z3,Nat.zero_add,Nat.ble_self_eq_true,Bool.and_self,cond_true,hr]
 ·have:chunk (esz + 1) 1 v.cells=[v.cells]:=by simp [chunk,← hl']
  rw [this]
  exact k

theorem sel_all {row:List AV} {sz:Nat} (h:Nat.beq sz row.length=true):sel true sz row 0=some (.agg row):=by
 have:=Nat.eq_of_beq_eq_true h
 subst this
 simp [sel,Nat.ble_self_eq_true]

theorem leW {t:TypeId} {td:TypeDesc} [hu:Und P t td] {sz by_:Nat} {zz:Value} [hi:Inf P t sz by_ zz] {s:Nat} {rows:List (List AV)} {i:Nat} {row:List AV}
  (hg:goes ops n T ⟨dd,.load t x,ty,pos,es,gd⟩=some d) (ha:aggD td=true) (hx:ev st T x=some (.eptr s rows i 0)) (hr:rows[i]?=some row) (hl:Nat.beq sz row.length=true)
  (k:AOps P n ops rest K E ((d,.agg row)::T) st):AOps P n ops (⟨dd,.load t x,ty,pos,es,gd⟩::rest) K E T st :=
 le hg hx hr (by rw [ha]; exact sel_all hl) k

theorem lcW {t:TypeId} {td:TypeDesc} [hu:Und P t td] {sz by_:Nat} {zz:Value} [hi:Inf P t sz by_ zz] {o s:Nat} {rows:List (List AV)} {i:Nat} {row:List AV}
  (hg:goes ops n T ⟨dd,.load t x,ty,pos,es,gd⟩=some d) (ha:aggD td=true) (hx:ev st T x=some (.cptr o s i 0)) {oty:TypeId} (ho:st.obj o=some (.cells oty s rows)) (hr:rows[i]?=some row) (hl:Nat.beq sz row.length=true)
  (k:AOps P n ops rest K E ((d,.agg row)::T) st):AOps P n ops (⟨dd,.load t x,ty,pos,es,gd⟩::rest) K E T st :=
 lc hg hx ho hr (by rw [ha]; exact sel_all hl) k

theorem sos {t:TypeId} {sz by_:Nat} {zz:Value} [hi:Inf P t sz by_ zz] {o s:Nat} {rows:List (List AV)} {i off:Nat} {row:List AV} {v:AV} {oty:TypeId} {rows':List (List AV)}
  (hw:wantedA ops T ⟨none,.store t x y,ty,pos,es,gd⟩=some true) (hx:ev (st.set o (.cells oty s rows)) T x=some (.cptr o s i off)) (hy:ev (st.set o (.cells oty s rows)) T y=some v) (hr:rows[i]?=some row)
  (hv:storable v=true) (hsz:Nat.beq v.cells.length sz=true) (hle:Nat.ble (off + v.cells.length) row.length=true) (he:rows.set i (rowSet row off v.cells)=rows')
  (k:AOps P n ops rest K E T (st.set o (.cells oty s rows'))):AOps P n ops (⟨none,.store t x y,ty,pos,es,gd⟩::rest) K E T (st.set o (.cells oty s rows)) :=
 so hw hx hy (St.obj_set _ _ _) hr hv hsz hle he (by rw [St.set_set]; exact k)

theorem soV {t:TypeId} {sz by_:Nat} {zz:Value} [hi:Inf P t sz by_ zz] {o s:Nat} {row:List AV} {v:AV} {oty:TypeId}
  (hw:wantedA ops T ⟨none,.store t x y,ty,pos,es,gd⟩=some true) (hx:ev (st.set o (.cells oty s [row])) T x=some (.cptr o s 0 0)) (hy:ev (st.set o (.cells oty s [row])) T y=some v)
  (hv:storable v=true) (hsz:Nat.beq v.cells.length sz=true) (hle:Nat.beq v.cells.length row.length=true)
  (k:AOps P n ops rest K E T (st.set o (.cells oty s [v.cells]))):AOps P n ops (⟨none,.store t x y,ty,pos,es,gd⟩::rest) K E T (st.set o (.cells oty s [row])):=by
 have h:=Nat.eq_of_beq_eq_true hle
 refine sos (row:=row) hw hx hy rfl hv hsz (by rw [Nat.zero_add,h]; exact Nat.ble_self_eq_true _) ?_ k
 rw [rowSet_all h]
 rfl

theorem soN (t':Nat) {t:TypeId} {sz by_:Nat} {zz:Value} [hi:Inf P t sz by_ zz] {o s:Nat} {row:List AV} {v:AV} {oty:TypeId}
  (hw:wantedA ops T ⟨none,.store t (.tmp t') y,ty,pos,es,gd⟩=some true) (hx:T.get t'=some (.cptr o s 0 0)) (hy:ev (st.set o (.cells oty s [row])) T y=some v)
  (hv:storable v=true) (hsz:Nat.beq v.cells.length sz=true) (hle:Nat.beq v.cells.length row.length=true) (ho:st.obj o=none)
  (k:AOps P n ops rest K E ((t',.eptr s [v.cells] 0 0)::T) st):AOps P n ops (⟨none,.store t (.tmp t') y,ty,pos,es,gd⟩::rest) K E T (st.set o (.cells oty s [row])) :=
 soV hw hx hy hv hsz hle (AOps.fz t' hx ho k)

theorem TLe.consE {T T':Tmps} {i:Nat} {v v':AV} (h:T.get i=some v) (e:v=v') (ht:TLe T T'):TLe T ((i,v')::T'):=e ▸ TLe.cons' h ht

theorem ACalls.ofBody {f:FuncId} {fn:Func} {c:Code} {args:List AV} {Rt RP:AV→St→Prop} (hf:P.funcs[f]?=some fn) (hb:fn.body=some c) (hn:fn.ntmps=n) (hl:Nat.ble args.length n=true)
  (h:AWP P n c (fun T' st'=>∃ vs v st1,resA P st' T' fn.results.toList=some vs∧Le (packA vs) v∧StLe st' st1∧Rt v st1)
   (fun e T' st'=>match e with
    | .ret=>∃ vs v st1,resA P st' T' fn.results.toList=some vs∧Le (packA vs) v∧StLe st' st1∧Rt v st1
    | .panic pv=>∃ st1,StLe st' st1∧RP pv st1
    | .exit _=>False) (zipFrom 0 args) st):ACalls P f args st Rt RP:=by
 have key:=ACalls.of_body (P:=P) (Rt:=fun v st'=>∃ st1,StLe st' st1∧Rt v st1) (RP:=fun v st'=>∃ st1,StLe st' st1∧RP v st1) hf hb hn (Nat.ble_le hl) (AWP.mono h
  (fun T' st' ⟨vs,v,st1,h1,h2,h3,h4⟩=>⟨vs,v,h1,h2,st1,h3,h4⟩)
  (fun e T' st' he=>by
   cases e with
   | ret=>obtain ⟨vs,v,st1,h1,h2,h3,h4⟩:=he; exact ⟨vs,v,h1,h2,st1,h3,h4⟩
   | panic pv=>exact he
   | exit id=>exact he))
 intro g w rargs hs hlen ha
 refine (key g w rargs hs hlen ha).mono fun e w' ⟨g',st',he,hs',hq⟩=>?_
 cases e with
 | returned rv=>obtain ⟨v,x1,st1,x2,x3⟩:=hq; exact ⟨g',st1,he,hs'.le x2,v,x1,x3⟩
 | panicked ch=>obtain ⟨pv,v,x1,x2,st1,x3,x4⟩:=hq; exact ⟨g',st1,he,hs'.le x3,pv,v,x1,x2,x4⟩
 | outgrown=>exact hq.elim

theorem inc {t u:TypeId} {a:Nat} (hg:goes ops n T ⟨dd,.binOp .add t x y u,ty,pos,es,gd⟩=some d)
  (hx:ev st T x=some (.int .i64 (a:Int))) (hy:ev st T y=some (.int .i64 1)) (hc:a < 9223372036854775807)
  (k:AOps P n ops rest K E ((d,.int .i64 ((a + 1:Nat):Int))::T) st):AOps P n ops (⟨dd,.binOp .add t x y u,ty,pos,es,gd⟩::rest) K E T st :=
 adn (b:=1) hg hx hy (by omega) k

theorem cl {f:FuncId} [hf:GoFun P f] {args:Array Operand} {tys:Array TypeId} {avs:List AV} {Rt:AV→St→Prop}
  (hg:goes ops n T ⟨dd,.call ⟨.value (.func f),args,tys⟩,ty,pos,es,gd⟩=some d) (ha:evs st T args.toList=some avs)
  (hc:ACalls P f avs st Rt (fun _ _=>False)) (h:∀ v st',Rt v st'→AOps P n ops rest K E ((d,v)::T) st') :
  AOps P n ops (⟨dd,.call ⟨.value (.func f),args,tys⟩,ty,pos,es,gd⟩::rest) K E T st:=by
 obtain ⟨hw,hd,hok⟩:=goes_some hg
 simp only at hd
 subst hd
 exact AOps.callFn hw hok ha hc h (fun _ _ h=>h.elim)

theorem cle {f:FuncId} [hf:GoFun P f] {args:Array Operand} {tys:Array TypeId} {avs:List AV} {X:AV}
  (hg:goes ops n T ⟨dd,.call ⟨.value (.func f),args,tys⟩,ty,pos,es,gd⟩=some d) (ha:evs st T args.toList=some avs)
  (hc:ACalls P f avs st (fun v st'=>v=X∧st'=st) (fun _ _=>False)) (h:AOps P n ops rest K E ((d,X)::T) st) :
  AOps P n ops (⟨dd,.call ⟨.value (.func f),args,tys⟩,ty,pos,es,gd⟩::rest) K E T st :=
 cl hg ha hc (by rintro _ _ ⟨rfl,rfl⟩; exact h)

theorem tl3 {T:Tmps} {i0 i1 i2:Nat} {v0 v1 v2:AV} (h0:T.get i0=some v0) (h1:T.get i1=some v1) (h2:T.get i2=some v2):TLe T [(i0,v0),(i1,v1),(i2,v2)]:=TLe.cons' h0 (TLe.cons' h1 (TLe.cons' h2 (TLe.nil T)))
theorem tl4 {T:Tmps} {i0 i1 i2 i3:Nat} {v0 v1 v2 v3:AV} (h0:T.get i0=some v0) (h1:T.get i1=some v1) (h2:T.get i2=some v2) (h3:T.get i3=some v3):TLe T [(i0,v0),(i1,v1),(i2,v2),(i3,v3)]:=TLe.cons' h0 (TLe.cons' h1 (TLe.cons' h2 (TLe.cons' h3 (TLe.nil T))))
theorem tl5 {T:Tmps} {i0 i1 i2 i3 i4:Nat} {v0 v1 v2 v3 v4:AV} (h0:T.get i0=some v0) (h1:T.get i1=some v1) (h2:T.get i2=some v2) (h3:T.get i3=some v3) (h4:T.get i4=some v4):TLe T [(i0,v0),(i1,v1),(i2,v2),(i3,v3),(i4,v4)]:=TLe.cons' h0 (TLe.cons' h1 (TLe.cons' h2 (TLe.cons' h3 (TLe.cons' h4 (TLe.nil T)))))
theorem tl6 {T:Tmps} {i0 i1 i2 i3 i4 i5:Nat} {v0 v1 v2 v3 v4 v5:AV} (h0:T.get i0=some v0) (h1:T.get i1=some v1) (h2:T.get i2=some v2) (h3:T.get i3=some v3) (h4:T.get i4=some v4) (h5:T.get i5=some v5):TLe T [(i0,v0),(i1,v1),(i2,v2),(i3,v3),(i4,v4),(i5,v5)]:=TLe.cons' h0 (TLe.cons' h1 (TLe.cons' h2 (TLe.cons' h3 (TLe.cons' h4 (TLe.cons' h5 (TLe.nil T))))))
theorem tl7 {T:Tmps} {i0 i1 i2 i3 i4 i5 i6:Nat} {v0 v1 v2 v3 v4 v5 v6:AV} (h0:T.get i0=some v0) (h1:T.get i1=some v1) (h2:T.get i2=some v2) (h3:T.get i3=some v3) (h4:T.get i4=some v4) (h5:T.get i5=some v5) (h6:T.get i6=some v6):TLe T [(i0,v0),(i1,v1),(i2,v2),(i3,v3),(i4,v4),(i5,v5),(i6,v6)]:=TLe.cons' h0 (TLe.cons' h1 (TLe.cons' h2 (TLe.cons' h3 (TLe.cons' h4 (TLe.cons' h5 (TLe.cons' h6 (TLe.nil T)))))))
theorem tl8 {T:Tmps} {i0 i1 i2 i3 i4 i5 i6 i7:Nat} {v0 v1 v2 v3 v4 v5 v6 v7:AV} (h0:T.get i0=some v0) (h1:T.get i1=some v1) (h2:T.get i2=some v2) (h3:T.get i3=some v3) (h4:T.get i4=some v4) (h5:T.get i5=some v5) (h6:T.get i6=some v6) (h7:T.get i7=some v7):TLe T [(i0,v0),(i1,v1),(i2,v2),(i3,v3),(i4,v4),(i5,v5),(i6,v6),(i7,v7)]:=TLe.cons' h0 (TLe.cons' h1 (TLe.cons' h2 (TLe.cons' h3 (TLe.cons' h4 (TLe.cons' h5 (TLe.cons' h6 (TLe.cons' h7 (TLe.nil T))))))))
theorem rets {Rt:AV→St→Prop} {fn:Func} {T':Tmps} {st':St} {vs:List AV} {v:AV} {st1:St} (h:resA P st' T' fn.results.toList=some vs) (hl:Le (packA vs) v) (hs:StLe st' st1) (hR:Rt v st1) :
  ∃ vs v st1,resA P st' T' fn.results.toList=some vs∧Le (packA vs) v∧StLe st' st1∧Rt v st1:=⟨vs,v,st1,h,hl,hs,hR⟩

end
end Go.AM
namespace Go.AM
open Go.RowKit (Below)

section
variable {P:Program} {n:Nat} {K:Post} {E:EPost} {T:Tmps} {st:St} {ops:Array Oper} {rest:List Oper}
variable {ty:TypeId} {pos:String} {es:Array Edge} {gd:Option (Nat × Bool)} {d:Tmp} {x y:Operand} {dd:Option Tmp}

theorem St.drop_set_self (st:St) (o:Nat) (c:AObj):(st.drop o).set o c=st.set o c:=by
 simp only [St.drop,St.set]
 congr 1
 funext p
 by_cases h:p=o <;> simp [h]

theorem St.set_drop {st:St} {o p:Nat} (h:o≠p) (c:AObj):(st.drop p).set o c=(st.set o c).drop p:=by
 simp only [St.drop,St.set]
 congr 1
 funext q
 by_cases h1:q=o
 ·subst h1; simp [h]
 ·simp [h1]

theorem append_msl {g:G} {w:World} (hs:Sim g w st) {t e:TypeId} {sz by_:Nat} {ez:Value} [hu:Und P t (.slice e)] [hie:Inf P e sz by_ ez] (hsz:0 < sz) (hz:zok sz ez=true) {ty:TypeId} {o len:Nat} {rows rows2:List (List AV)} {ux uy:Value}
  (h1:R g w (.msl o sz 0 len) ux) (ho:st.obj o=some (.cells e sz rows)) (hlr:len≤rows.length) (h2:Src g w sz rows2 uy) (h0:rows2≠[]) (hb:(len + rows2.length) * by_≤140737488355328) (hm:len + rows2.length≤maxLen) :
  ∃ v w' g' o',(Builtin.append_ #[t,t] ty #[ux,uy]).run P w=.ok v w'∧Ext g w g' w'∧Sim g' w' ((st.drop o).set o' (.cells e sz (rows.take len++rows2)))∧R g' w' (.msl o' sz 0 (len + rows2.length)) v∧(o'=o∨st.obj o'=none):=by
 obtain ⟨z1,z2,z3,z4⟩:=zok_spec hz
 obtain ⟨inf,i1,i2,i3,i4⟩:=hie.out
 obtain ⟨base2,cap2,f2,rfl,hnil2,hR2,hl2,h12,hcell2,hone2⟩:=h2
 have hm64:len + rows2.length≤9223372036854775807:=by simp only [maxLen] at hm; omega
 have hpos:0 < rows2.length:=List.length_pos_iff.2 h0
 obtain ⟨ad,rfl⟩:∃ ad,base2=some ad:=by
  cases base2 with
  | none=>exact absurd (hnil2 rfl).1 h0
  | some ad=>exact ⟨ad,rfl⟩
 subst i2
 cases h1 with
 | msl _ _ _ _ cap b m hob hc hmx hfit0 =>
  obtain ⟨hbase,⟨arr,ha,hasz,hml,hl,h1',hcell⟩,hnimm⟩:=hs.objOf ho hob
  simp only [Nat.zero_mul,Nat.zero_add] at hfit0 ⊢
  have hlt:(rows.take len).length=len:=by simp; omega
  have hlrow:∀ row ∈ rows.take len++rows2,row.length=inf.size:=fun row hr=>by
   rcases List.mem_append.1 hr with h|h
   ·exact hl row (List.mem_of_mem_take h)
   ·exact hl2 row h
  have h1row:∀ row ∈ rows.take len++rows2,∀ c ∈ row,c.one=true:=fun row hr=>by
   rcases List.mem_append.1 hr with h|h
   ·exact h1' row (List.mem_of_mem_take h)
   ·exact h12 row h
  have hll:(rows.take len++rows2).length=len + rows2.length:=by rw [List.length_append,hlt]
  let f:Nat→Nat→Value:=fun i j=>arr.getD (i * inf.size + j) undef
  have hfR:∀ (i j:Nat) row c,(rows.take len)[i]?=some row→row[j]?=some c→R g w c (f i j):=by
   intro i j row c hr hcj
   have hi:i < len:=by have:=(List.getElem?_eq_some_iff.1 hr).1; rwa [hlt] at this
   rw [List.getElem?_take_of_lt hi] at hr
   obtain ⟨v,hv1,hv2⟩:=hcell i j row c hr hcj
   show R g w c (arr.getD _ _)
   rw [Array.getD_eq_getD_getElem?,hv1]
   exact hv2
  by_cases hroom:len + rows2.length≤cap
  ·
   have hfit:len * inf.size + (flatV f2 rows2.length inf.size).length≤arr.size:=by
    rw [flatV_length,hasz,← Nat.add_mul]
    exact Nat.le_trans (Nat.mul_le_mul_right _ hroom) hfit0
   have hr:=run_append_room (P:=P) w t ty e inf hu.out i1 b len cap arr ha ad rows2.length cap2 (flatV f2 rows2.length inf.size) (flatV_length _ _ _) (hcell2 ad rfl) hone2 hroom hfit
   rw [flatV_length] at hfit hr
   generalize harr:(arr.toList.take (len * inf.size)++flatV f2 rows2.length inf.size++arr.toList.drop (len * inf.size + rows2.length * inf.size)).toArray=arr' at hr
   have hmin:min (len * inf.size) arr.size=len * inf.size:=by omega
   have hlow:∀ i,i < len * inf.size→arr'[i]?=arr[i]?:=by
    intro i hi
    rw [← harr,List.getElem?_toArray,List.append_assoc,List.getElem?_append_left (by simp; omega),List.getElem?_take_of_lt hi,Array.getElem?_toList]
   have hmid:∀ q,q < rows2.length * inf.size→arr'[len * inf.size + q]?=(flatV f2 rows2.length inf.size)[q]?:=by
    intro q hq
    rw [← harr,List.getElem?_toArray,List.append_assoc,List.getElem?_append_right (by simp; omega)]
    simp only [List.length_take,Array.length_toList,hmin]
    rw [Nat.add_sub_cancel_left,List.getElem?_append_left (by rw [flatV_length]; exact hq)]
   have hsize':arr'.size=m:=by
    rw [← harr,← hasz]
    simp only [List.size_toArray,List.length_append,List.length_take,List.length_drop,Array.length_toList,flatV_length]
    omega
   obtain ⟨he,hs'⟩:=hs.write (c':=.cells e inf.size (rows.take len++rows2)) ho hob (w.setRow b arr') (by simp) rfl rfl rfl (fun k hk=>setRow_other w b k arr' hk) (fun he=>by
    refine ⟨arr',setRow_heap w b arr arr' e (0,0) ha,hsize',?_,hlrow,h1row,fun i j row c hr hcj=>?_⟩
    ·rw [hll]; exact Nat.le_trans (Nat.mul_le_mul_right _ hroom) hfit0
    ·have hj:j < inf.size:=by rw [← hlrow row (List.mem_of_getElem? hr)]; exact (List.getElem?_eq_some_iff.1 hcj).1
     by_cases hi:i < len
     ·rw [List.getElem?_append_left (by rw [hlt]; exact hi),List.getElem?_take_of_lt hi] at hr
      obtain ⟨v,hv1,hv2⟩:=hcell i j row c hr hcj
      exact ⟨v,by rw [hlow _ (mul_add_lt hi hj)]; exact hv1,hv2.ext he⟩
     ·rw [List.getElem?_append_right (by rw [hlt]; omega),hlt] at hr
      have hi2:i - len < rows2.length:=(List.getElem?_eq_some_iff.1 hr).1
      have e9:i * inf.size + j=len * inf.size + ((i - len) * inf.size + j):=by
       rw [← Nat.add_assoc,← Nat.add_mul]
       congr 2
       omega
      refine ⟨f2 (i - len) j,?_,(hR2 _ j row c hr hcj).ext he⟩
      rw [e9,hmid _ (mul_add_lt hi2 hj),flatV_at f2 hi2 hj])
   refine ⟨_,_,g,o,hr,he,by rw [St.drop_set_self]; exact hs',?_,.inl rfl⟩
   have:=R.msl (g:=g) (w:=w.setRow b arr') o inf.size 0 (len + rows2.length) cap b m hob hroom hmx (by simpa using hfit0)
   simpa using this
  ·
   have holds:∀ (q:Nat) v,(flatV f len inf.size)[q]?=some v→w.cell? ((⟨b,0,none⟩:Addr).add q)=some v:=by
    intro q v hq
    obtain ⟨h2',rfl⟩:=flatV_get hq
    have hq':q < arr.size:=by
     rw [hasz]
     exact Nat.lt_of_lt_of_le h2' (Nat.le_trans (Nat.mul_le_mul_right _ hc) hfit0)
    rw [addr_add,Nat.zero_add,cell_of_row w b _ arr e (0,0) ha]
    show arr[q]?=some (arr.getD _ _)
    rw [Nat.mul_comm (q / inf.size) inf.size,Nat.div_add_mod,Array.getD_eq_getD_getElem?,Array.getElem?_eq_getElem hq']
    rfl
   have hr:=run_append_grow (P:=P) w t ty e inf ez hu.out i1 i4 ⟨b,0,none⟩ len cap (flatV f len inf.size) (flatV_length _ _ _) holds ad rows2.length cap2 (flatV f2 rows2.length inf.size) (flatV_length _ _ _) (hcell2 ad rfl) (by omega) (by omega)
    (growslice_fits (by omega) (by rw [i3]; exact hb))
   have hge:=grownCap_ge w (len + rows2.length) cap e
   have hgm:=grownCap_le_maxLen w (len + rows2.length) cap e hm
   obtain ⟨hed,hsd⟩:=hs.draw
   generalize hcp:grownCap w (len + rows2.length) cap e=cp at hr hge hgm
   generalize harr:(flatV f len inf.size).toArray++(flatV f2 rows2.length inf.size).toArray++Builtin.zeroCells ez.cells (cp - (len + rows2.length))=arr' at hr
   have hsize':arr'.size=cp * inf.size:=by
    rw [← harr]
    simp only [Array.size_append,List.size_toArray,flatV_length,size_zeroCells,z1,← Nat.add_mul]
    congr 1
    omega
   obtain ⟨g',he,hs',hob',hnone⟩:=hsd.newObj (.cells arr' e) (.cells e inf.size (rows.take len++rows2)) (cp * inf.size) (fun g' he=>by
    refine ⟨arr',heap_alloc_new _ _,hsize',?_,hlrow,h1row,fun i j row c hr hcj=>?_⟩
    ·rw [hll]; exact Nat.mul_le_mul_right _ hge
    ·have hap:=appended_get (g:=g) (w:=w) (rows:=rows.take len) (rows2:=rows2) (f:=f) (f2:=f2) (sz:=inf.size) (fun row hr=>hl row (List.mem_of_mem_take hr)) hl2 hfR hR2 (Builtin.zeroCells ez.cells (cp - (len + rows2.length))).toList i j row c hr hcj
     rw [hlt] at hap
     obtain ⟨v,hv,hR⟩:=hap
     refine ⟨v,?_,(hR.ext hed).ext he⟩
     rw [← harr,← Array.getElem?_toList]
     simpa using hv)
   have hne:g.next≠o:=fun e=>by rw [← e] at ho; rw [ho] at hnone; cases hnone
   refine ⟨_,_,g',g.next,hr,hed.trans he,?_,?_,.inr hnone⟩
   ·rw [St.set_drop hne]
    exact hs'.le (StLe.drop o)
   ·have:=R.msl (g:=g') (w:=w.drew.alloc (.cells arr' e)) g.next inf.size 0 (len + rows2.length) cp w.drew.heap.size (cp * inf.size) hob' hge hgm (by simp)
    simpa using this

theorem slm {t e:TypeId} [hu:Und P t (.slice e)] {sz by_:Nat} {ez:Value} [hie:Inf P e sz by_ ez] {o lo len b:Nat} {k:IntKind}
  (hg:goes ops n T ⟨dd,.slice t x none (some y) none,ty,pos,es,gd⟩=some d) (hx:ev st T x=some (.msl o sz lo len)) (hy:ev st T y=some (.int k (b:Int))) (hb:b≤len)
  (kk:AOps P n ops rest K E ((d,.msl o sz lo b)::T) st):AOps P n ops (⟨dd,.slice t x none (some y) none,ty,pos,es,gd⟩::rest) K E T st:=by
 obtain ⟨hw,hd,hok⟩:=goes_some hg
 simp only at hd
 subst hd
 refine AOps.pure hw hok _ (fun g w a hs hk=>?_) kk
 have h1:=ev_R hs hk hx
 have h2:=ev_R hs hk hy
 generalize hux:a.eval x=ux at h1
 generalize huy:a.eval y=uy at h2
 cases h2
 cases h1 with
 | msl _ _ _ _ cap bk m hob hc hmx hfit =>
  obtain ⟨inf,i1,i2,i3,i4⟩:=hie.out
  have he:P.elem t=e:=by simp [Program.elem,hu.out]
  have hr:=run_slice_h (P:=P) w t (some ⟨bk,lo * sz,none⟩) len cap (by rw [he]; exact hu.out) k b (by omega) (by omega)
  refine ⟨.slice (some ⟨bk,lo * sz,none⟩) b cap,?_,.msl o sz lo b cap bk m hob (by omega) hmx hfit⟩
  simp [execOp,hux,huy,run_sliceAt_slice (P:=P) w t _ _ _ _ (by rw [he]; exact hu.out),hr,he,run_size (P:=P) (t:=e) w,sliced,addr_add]

end
end Go.AM
namespace Go.AM
open Go.RowKit (Below)

def St.toks (st:St) (L:List (Option Nat)):St:={ st with tok:=fun t=>decide (some t ∈ L) || st.tok t }

structure TokL (st:St) (L:List (Option Nat)):Prop where
 one:∀ (i j t:Nat),L[i]?=some (some t)→L[j]?=some (some t)→i=j
 fresh:∀ (i t:Nat),L[i]?=some (some t)→st.tok t=false

theorem TokL.none (st:St) (m:Nat):TokL st (List.replicate m none) where
 one:=fun i j t h=>by simp [List.getElem?_replicate] at h
 fresh:=fun i t h=>by simp [List.getElem?_replicate] at h

theorem TokL.set {st:St} {L:List (Option Nat)} (h:TokL st L) {k':Nat} (hf:(st.toks L).tok k'=false) (i:Nat):TokL st (L.set i (some k')):=by
 simp only [St.toks,Bool.or_eq_false_iff,decide_eq_false_iff_not] at hf
 have key:∀ (j t:Nat),(L.set i (some k'))[j]?=some (some t)→(j=i∧t=k')∨(j≠i∧L[j]?=some (some t)):=by
  intro j t hj
  rw [List.getElem?_set] at hj
  split at hj
  ·rename_i e
   split at hj
   ·simp only [Option.some.injEq] at hj; exact .inl ⟨e.symm,hj.symm⟩
   ·cases hj
  ·rename_i e; exact .inr ⟨fun h=>e h.symm,hj⟩
 refine ⟨fun j1 j2 t h1 h2=>?_,fun j t hj=>?_⟩
 ·rcases key j1 t h1 with ⟨e1,e2⟩|⟨e1,e2⟩ <;> rcases key j2 t h2 with ⟨e3,e4⟩|⟨e3,e4⟩
  ·omega
  ·subst e2; exact absurd (List.mem_of_getElem? e4) hf.1
  ·subst e4; exact absurd (List.mem_of_getElem? e2) hf.1
  ·exact h.one j1 j2 t e2 e4
 ·rcases key j t hj with ⟨_,rfl⟩|⟨_,e2⟩
  ·exact hf.2
  ·exact h.fresh j t e2

section
variable {P:Program} {n:Nat} {K:Post} {E:EPost} {T:Tmps} {st:St} {ops:Array Oper} {rest:List Oper}
variable {ty:TypeId} {pos:String} {es:Array Edge} {gd:Option (Nat × Bool)} {d:Tmp} {x y:Operand} {dd:Option Tmp}

end
end Go.AM
namespace Go.AM
open Go.RowKit (Below)

section
variable {P:Program} {n:Nat} {K:Post} {E:EPost} {T:Tmps} {st:St} {ops:Array Oper} {rest:List Oper}
variable {ty:TypeId} {pos:String} {es:Array Edge} {gd:Option (Nat × Bool)} {d:Tmp} {x y:Operand} {dd:Option Tmp}

end
end Go.AM
namespace Go.AM
open Go.RowKit (Below)

def HasTy (P:Program):Nat→TypeId→List AV→Prop
 | 0,_,_=>False
 | n + 1,t,cs=>match P.underlying t with
  | some .bool=>∃ b,cs=[.bool b]
  | some (.int k)=>∃ x,cs=[.int k x]∧(Lit.int k x).wf=true
  | some .string=>∃ l:List UInt8,cs=[.str l]∧l.length≤maxLen
  | some (.slice e)=>∃ rows:List (List AV),cs=[.view (P.cellsOf e) rows .shared]∧rows.length≤maxLen∧∀ row ∈ rows,HasTy P n e row
  | some (.struct fs)=>cs.length=P.cellsOf t∧∀ f ∈ fs.toList,HasTy P n f.type ((cs.drop f.offset).take (P.cellsOf f.type))
  | some (.array m e)=>cs.length=P.cellsOf t∧∀ i,i < m→HasTy P n e ((cs.drop (i * P.cellsOf e)).take (P.cellsOf e))
  | _=>False

structure RL (g:G) (w:World) (avs:List AV) (vs:List Value):Prop where
 len:avs.length=vs.length
 one:∀ c ∈ avs,c.one=true
 rel:∀ (i:Nat) c v,avs[i]?=some c→vs[i]?=some v→R g w c v

theorem RL.nil (g:G) (w:World):RL g w [] []:=⟨rfl,(fun c h=>by cases h),(fun i c v h=>by simp at h)⟩
theorem RL.append {g:G} {w:World} {avs bs:List AV} {vs us:List Value} (h:RL g w avs vs) (k:RL g w bs us):RL g w (avs++bs) (vs++us):=by
 refine ⟨by rw [List.length_append,List.length_append,h.len,k.len],fun c hc=>(List.mem_append.1 hc).elim (h.one c) (k.one c),fun i c v hc hv=>?_⟩
 by_cases hi:i < avs.length
 ·rw [List.getElem?_append_left hi] at hc
  rw [List.getElem?_append_left (by rw [← h.len]; exact hi)] at hv
  exact h.rel i c v hc hv
 ·rw [List.getElem?_append_right (by omega)] at hc
  rw [List.getElem?_append_right (by have:=h.len; omega),← h.len] at hv
  exact k.rel _ c v hc hv
theorem RL.single {g:G} {w:World} {a:AV} {v:Value} (h1:a.one=true) (h:R g w a v):RL g w [a] [v] :=
 ⟨rfl,fun c hc=>by simp at hc; subst hc; exact h1,fun i c u hc hu=>by
  cases i with
  | zero=>simp at hc hu; subst hc; subst hu; exact h
  | succ i=>simp at hc⟩

def contig:Nat→List (Nat × Nat)→Nat→Bool
 | o,[],e=>Nat.beq o e
 | o,(off,sz)::r,e=>Nat.beq o off && contig (o + sz) r e

def kindOk (P:Program) (S:List TypeId) (t:TypeId):Bool :=
 match P.underlying t with
 | some .bool|some (.int _)|some .string=>Nat.beq (P.cellsOf t) 1
 | some (.slice e)=>Nat.beq (P.cellsOf t) 1 && S.contains e && Nat.ble 1 (P.cellsOf e)
 | some (.struct fs)=>contig 0 (fs.toList.map fun f=>(f.offset,P.cellsOf f.type)) (P.cellsOf t) && fs.toList.all fun f=>S.contains f.type
 | some (.array m e)=>Nat.beq (m * P.cellsOf e) (P.cellsOf t) && S.contains e
 | _=>false

def G0 (w:World):G:={ base:=w.heap.size,next:=0,imm:=fun b _=>b < w.heap.size,obj:=fun _=>none,tok:=fun _=>none }

theorem Sim0 (w:World) (globs:List (Nat × List AV)) (h:∀ gi row,(gi,row) ∈ globs→GlobAt (G0 w) w gi row) :
  Sim (G0 w) w { obj:=fun _=>none,tok:=fun _=>false,glob:=globs } where
 base:=Nat.le_refl _
 objs:=fun o c hc=>by cases hc
 inj:=fun o o' c c' b m m' hc=>by cases hc
 toks:=fun t ht=>by cases ht
 tobj:=fun t o c b r m ht=>by cases ht
 tinj:=fun t t' b r r' ht=>by cases ht
 immlt:=fun b i h=>h
 objlt:=fun o b m h=>by cases h
 toklt:=fun t b r h=>by cases h
 fresh:=fun n _=>⟨rfl,rfl⟩
 globs:=h

section
variable {H:Type} {enc:TypeId × Value→H} {P:Program}

theorem cells?_get {w:World} {base:Nat} {a:Addr} {n:Nat} {cs:List Value} (h:w.cells? base a n=some cs):cs.length=n∧∀ i,i < n→w.cell? (a.add i)=cs[i]?:=by
 unfold World.cells? at h
 split at h
 ·have hl:=mapM_some_length h
  simp at hl
  refine ⟨hl,fun i hi=>?_⟩
  have:=mapM_some_get h i i (by simp [hi])
  exact this
 ·cases h

theorem choose_rows {p:Nat→List AV→Prop}:∀ (n:Nat),(∀ i,i < n→∃ row,p i row)→∃ rows:List (List AV),rows.length=n∧∀ i row,rows[i]?=some row→p i row
 | 0,_=>⟨[],rfl,fun i row h=>by simp at h⟩
 | n + 1,h=>by
  obtain ⟨rows,h1,h2⟩:=choose_rows n fun i hi=>h i (by omega)
  obtain ⟨row,hr⟩:=h n (by omega)
  refine ⟨rows++[row],by simp [h1],fun i r hi=>?_⟩
  by_cases hin:i < n
  ·rw [List.getElem?_append_left (by omega)] at hi; exact h2 i r hi
  ·rw [List.getElem?_append_right (by omega)] at hi
   have:i=n:=by
    have:=(List.getElem?_eq_some_iff.1 hi).1
    simp at this; omega
   subst this
   simp [h1] at hi
   subst hi
   exact hr

theorem segs_R {g:G} {w:World} {p:Nat × Nat × TypeId→List AV→Prop} {cs:List Value}:∀ (l:List (Nat × Nat × TypeId)) (o:Nat),contig o (l.map fun x=>(x.1,x.2.1)) cs.length=true →
  (∀ x ∈ l,∃ avs,p x avs∧RL g w avs ((cs.drop x.1).take x.2.1))→(∀ x ∈ l,((cs.drop x.1).take x.2.1).length=x.2.1) →
  ∃ avs,RL g w avs (cs.drop o)∧∀ x ∈ l,o≤x.1∧p x ((avs.drop (x.1 - o)).take x.2.1)
 | [],o,h,_,_=>by
  have:=Nat.eq_of_beq_eq_true h
  subst this
  exact ⟨[],by simp; exact .nil g w,fun x hx=>by cases hx⟩
 | (off,sz,t)::r,o,h,hp,hl=>by
  simp only [List.map_cons,contig,Bool.and_eq_true] at h
  have ho:=Nat.eq_of_beq_eq_true h.1
  subst ho
  obtain ⟨as1,h1,h2⟩:=hp (o,sz,t) (by simp)
  have hlen:=hl (o,sz,t) (by simp)
  obtain ⟨as2,h3,h4⟩:=segs_R r (o + sz) h.2 (fun x hx=>hp x (List.mem_cons_of_mem _ hx)) (fun x hx=>hl x (List.mem_cons_of_mem _ hx))
  have hsplit:cs.drop o=(cs.drop o).take sz++cs.drop (o + sz):=by
   rw [← List.drop_drop,List.take_append_drop]
  have hl1:as1.length=sz:=h2.len.trans hlen
  refine ⟨as1++as2,by rw [hsplit]; exact h2.append h3,fun x hx=>?_⟩
  rcases List.mem_cons.1 hx with rfl|hx
  ·refine ⟨Nat.le_refl _,?_⟩
   simp only [Nat.sub_self,List.drop_zero]
   rw [List.take_append_of_le_length (by omega),List.take_of_length_le (by omega)]
   exact h1
  ·obtain ⟨h5,h6⟩:=h4 x hx
   refine ⟨by omega,?_⟩
   have e:x.1 - o=as1.length + (x.1 - (o + sz)):=by omega
   rw [e,← List.drop_drop,List.drop_left]
   exact h6

theorem contig_le:∀ (l:List (Nat × Nat)) (o e:Nat),contig o l e=true→o≤e∧∀ x ∈ l,x.1 + x.2≤e
 | [],o,e,h=>⟨by have:=Nat.eq_of_beq_eq_true h; omega,fun x hx=>by cases hx⟩
 | (off,sz)::r,o,e,h=>by
  simp only [contig,Bool.and_eq_true] at h
  have ho:=Nat.eq_of_beq_eq_true h.1
  obtain ⟨h1,h2⟩:=contig_le r (o + sz) e h.2
  refine ⟨by omega,fun x hx=>?_⟩
  rcases List.mem_cons.1 hx with rfl|hx
  ·simp only; omega
  ·exact h2 x hx

theorem contig_range (s:Nat):∀ (n k:Nat),contig (k * s) ((List.range' k n).map fun i=>(i * s,s)) ((k + n) * s)=true
 | 0,k=>by simp [contig]
 | n + 1,k=>by
  rw [List.range'_succ,List.map_cons,contig]
  have:=contig_range s n (k + 1)
  rw [Nat.add_mul,Nat.one_mul] at this
  rw [show k + (n + 1)=k + 1 + n by omega,this]
  simp

theorem trod_R {S:List TypeId} (hS:∀ t ∈ S,kindOk P S t=true) {w:World} {sp:Nat→Bool} (hsp:∀ b,sp b=true):∀ (fuel:Nat) (t:TypeId) (cs:List Value) (d:DataW H) (ps:List MemPlace),t ∈ S →
  DataW.trod enc P w 0 sp true fuel t cs=some (d,ps)→∃ avs,HasTy P fuel t avs∧RL (G0 w) w avs cs
 | 0,t,cs,d,ps,_,h=>by cases h
 | fuel + 1,t,cs,d,ps,ht,h=>by
  have hk:=hS t ht
  have ih:=fun t cs d ps=>trod_R hS (w:=w) hsp fuel t cs d ps
  have h0:=h
  unfold DataW.trod at h
  unfold HasTy
  unfold kindOk at hk
  cases hu:P.underlying t with
  | none=>rw [hu] at hk; cases hk
  | some td =>
   rw [hu] at h hk
   cases td <;> simp only [Bool.false_eq_true] at hk
   case bool =>
    split at h <;> first|(cases h; done)|skip
    all_goals (try (rename_i heq _; cases heq; done))
    all_goals (try (rename_i heq; cases heq; done))
    rename_i b heq
    exact ⟨[.bool b],⟨b,rfl⟩,.single rfl (.bool b)⟩
   case int k =>
    split at h <;> first|(cases h; done)|skip
    all_goals (try (rename_i heq _; cases heq; done))
    all_goals (try (rename_i heq; cases heq; done))
    rename_i k1 k' x heq
    cases heq
    split at h
    ·rename_i hc
     obtain ⟨rfl,hwf⟩:=hc
     exact ⟨[.int k' x],⟨x,rfl,hwf⟩,.single rfl (.int k' x)⟩
    ·cases h
   case string =>
    split at h <;> first|(cases h; done)|skip
    all_goals (try (rename_i heq _; cases heq; done))
    all_goals (try (rename_i heq; cases heq; done))
    rename_i s heq
    split at h
    ·rename_i hc
     obtain ⟨⟨l⟩⟩:=s
     exact ⟨[.str l],⟨l,rfl,hc⟩,.single rfl (.str l)⟩
    ·cases h
   case slice e =>
    simp only [Bool.and_eq_true] at hk
    obtain ⟨⟨_,heS⟩,hes⟩:=hk
    have heS':e ∈ S:=by simpa using heS
    have hs1:=Nat.ble_le hes
    split at h <;> first|(cases h; done)|skip
    all_goals (try (rename_i heq _; cases heq; done))
    all_goals (try (rename_i heq; cases heq; done))
    ·exact ⟨[.view (P.cellsOf e) [] .shared],⟨[],rfl,Nat.zero_le _,fun row hr=>by cases hr⟩,.single rfl (.vnil _ _ trivial)⟩
    ·rename_i e' a len cap heq
     cases heq
     simp only at h
     split at h
     ·rename_i hc
      obtain ⟨_,hlc,hcm⟩:=hc
      obtain ⟨elems,h1,h2⟩:=Option.bind_eq_some_iff.1 h
      rw [hsp,if_pos rfl] at h2
      obtain ⟨rest,h3,_⟩:=Option.map_eq_some_iff.1 h2
      have hl1:=mapM_some_length h1
      have hl3:=mapM_some_length h3
      simp only [List.length_range] at hl1 hl3
      have elem:∀ q,q < cap→∃ cells x,w.cells? 0 (a.add (q * P.cellsOf e)) (P.cellsOf e)=some cells∧DataW.trod enc P w 0 sp true fuel e cells=some x:=by
       intro q hq
       have hx:∃ x,(w.cells? 0 (a.add (q * P.cellsOf e)) (P.cellsOf e)).bind (DataW.trod enc P w 0 sp true fuel e)=some x:=by
        by_cases hql:q < len
        ·have:=mapM_some_get h1 q q (List.getElem?_range hql)
         rw [List.getElem?_eq_getElem (by omega)] at this
         exact ⟨_,this⟩
        ·have:=mapM_some_get h3 (q - len) (q - len) (List.getElem?_range (by omega))
         rw [List.getElem?_eq_getElem (by omega)] at this
         rw [show len + (q - len)=q by omega] at this
         exact ⟨_,this⟩
       obtain ⟨x,hx⟩:=hx
       obtain ⟨cells,h4,h5⟩:=Option.bind_eq_some_iff.1 hx
       exact ⟨cells,x,h4,h5⟩
      by_cases hcap:cap=0
      ·subst hcap
       have:len=0:=by omega
       subst this
       exact ⟨[.view (P.cellsOf e) [] .shared],⟨[],rfl,Nat.zero_le _,fun row hr=>by cases hr⟩,.single rfl (.vemp _ _ _ (fun h=>by cases h) trivial)⟩
      ·have hspot:a.spot=none∧a.block < w.heap.size:=by
        obtain ⟨cells,x,h4,_⟩:=elem 0 (by omega)
        obtain ⟨h6,h7⟩:=cells?_get h4
        have h8:=h7 0 hs1
        rw [List.getElem?_eq_getElem (by omega)] at h8
        simp only [Nat.zero_mul,Addr.add_zero'] at h8
        exact ⟨World.cell?_spot h8,block_lt_of_cell h8⟩
       obtain ⟨b,off,spot⟩:=a
       obtain ⟨rfl,hb⟩:=hspot
       simp only at hb
       obtain ⟨rows,hrl,hrows⟩:=choose_rows (p:=fun i row=>∃ cells,w.cells? 0 ((⟨b,off,none⟩:Addr).add (i * P.cellsOf e)) (P.cellsOf e)=some cells∧HasTy P fuel e row∧RL (G0 w) w row cells) len (fun i hi=>by
        obtain ⟨cells,⟨dx,px⟩,h4,h5⟩:=elem i (by omega)
        obtain ⟨avs,h6,h7⟩:=ih e cells dx px heS' h5
        exact ⟨avs,cells,h4,h6,h7⟩)
       have hcellat:∀ i row,rows[i]?=some row→row.length=P.cellsOf e∧∀ j,j < P.cellsOf e→∃ v,w.cell? ⟨b,off + (i * P.cellsOf e + j),none⟩=some v∧∀ c,row[j]?=some c→R (G0 w) w c v:=by
        intro i row hr
        obtain ⟨cells,h4,_,h7⟩:=hrows i row hr
        obtain ⟨h8,h9⟩:=cells?_get h4
        refine ⟨h7.len.trans h8,fun j hj=>?_⟩
        have:=h9 j hj
        rw [addr_add,addr_add,Nat.add_assoc,List.getElem?_eq_getElem (by omega)] at this
        exact ⟨_,this,fun c hc=>h7.rel j c _ hc (List.getElem?_eq_getElem (by omega))⟩
       refine ⟨[.view (P.cellsOf e) rows .shared],⟨rows,rfl,by omega,fun row hr=>?_⟩,.single rfl ?_⟩
       ·obtain ⟨i,hi,rfl⟩:=List.getElem_of_mem hr
        obtain ⟨_,_,h6,_⟩:=hrows i _ (List.getElem?_eq_getElem hi)
        exact h6
       ·rw [← hrl]
        refine R.view _ rows .shared b off cap (fun i j=>(w.cell? ⟨b,off + (i * P.cellsOf e + j),none⟩).getD undef) (by omega) hcm (fun row hr=>?_) (fun row hr=>?_) trivial (fun i j hi hj=>⟨hb,?_⟩) (fun i j row c hr hc=>?_)
        ·obtain ⟨i,hi,rfl⟩:=List.getElem_of_mem hr
         exact (hcellat i _ (List.getElem?_eq_getElem hi)).1
        ·obtain ⟨i,hi,rfl⟩:=List.getElem_of_mem hr
         obtain ⟨_,_,_,h7⟩:=hrows i _ (List.getElem?_eq_getElem hi)
         exact h7.one
        ·obtain ⟨v,h1,_⟩:=(hcellat i _ (List.getElem?_eq_getElem hi)).2 j hj
         rw [h1]; rfl
        ·obtain ⟨hl,hh⟩:=hcellat i row hr
         have hj:j < P.cellsOf e:=by rw [← hl]; exact (List.getElem?_eq_some_iff.1 hc).1
         obtain ⟨v,h1,h2⟩:=hh j hj
         rw [h1]
         exact h2 c hc
     ·cases h
   case array m e =>
    simp only [Bool.and_eq_true] at hk
    obtain ⟨hsz,heS⟩:=hk
    have heS':e ∈ S:=by simpa using heS
    have hsz':=Nat.eq_of_beq_eq_true hsz
    clear h
    obtain ⟨xs,m0,hm0,_,hlen,hxl,h1⟩:=DataW.trod_array hu h0
    obtain rfl:fuel=m0:=by omega
    ·skip
     have hcont:contig 0 (((List.range m).map fun i=>(i * P.cellsOf e,P.cellsOf e,e)).map fun x=>(x.1,x.2.1)) cs.length=true:=by
      rw [List.map_map,hlen,← hsz']
      have:=contig_range (P.cellsOf e) m 0
      rw [Nat.zero_mul,Nat.zero_add] at this
      rw [List.range_eq_range']
      exact this
     obtain ⟨_,hle⟩:=contig_le _ _ _ hcont
     obtain ⟨avs,h2,h3⟩:=segs_R (g:=G0 w) (w:=w) (p:=fun x avs=>HasTy P fuel x.2.2 avs) (cs:=cs) _ 0 hcont (fun x hx=>by
      simp only [List.mem_map,List.mem_range] at hx
      obtain ⟨i,hi,rfl⟩:=hx
      have:=h1 i hi
      rw [List.getElem?_eq_getElem (by omega)] at this
      exact ih e _ _ _ heS' this) (fun x hx=>by
      have:=hle (x.1,x.2.1) (List.mem_map.2 ⟨x,hx,rfl⟩)
      simp only at this
      simp; omega)
     rw [List.drop_zero] at h2
     refine ⟨avs,⟨h2.len.trans hlen,fun i hi=>?_⟩,h2⟩
     have:=(h3 (i * P.cellsOf e,P.cellsOf e,e) (List.mem_map.2 ⟨i,by simp [hi],rfl⟩)).2
     simpa using this
   case struct fs =>
    simp only [Bool.and_eq_true] at hk
    obtain ⟨hcont0,hall⟩:=hk
    clear h
    obtain ⟨xs,m0,hm0,_,hlen,hxl,h1⟩:=DataW.trod_struct hu h0
    obtain rfl:fuel=m0:=by omega
    ·skip
     have hcont:contig 0 ((fs.toList.map fun f=>(f.offset,P.cellsOf f.type,f.type)).map fun x=>(x.1,x.2.1)) cs.length=true:=by
      rw [List.map_map,hlen]
      exact hcont0
     obtain ⟨_,hle⟩:=contig_le _ _ _ hcont
     obtain ⟨avs,h2,h3⟩:=segs_R (g:=G0 w) (w:=w) (p:=fun x avs=>HasTy P fuel x.2.2 avs) (cs:=cs) _ 0 hcont (fun x hx=>by
      simp only [List.mem_map] at hx
      obtain ⟨f,hf,rfl⟩:=hx
      obtain ⟨i,hi,rfl⟩:=List.getElem_of_mem hf
      have:=h1 i _ (by rw [← Array.getElem?_toList]; exact List.getElem?_eq_getElem hi)
      rw [List.getElem?_eq_getElem (by simp at hi; omega)] at this
      have hfS:(fs.toList[i]).type ∈ S:=by
       have:=List.all_eq_true.1 hall _ (List.getElem_mem hi)
       simpa using this
      exact ih _ _ _ _ hfS this) (fun x hx=>by
      have:=hle (x.1,x.2.1) (List.mem_map.2 ⟨x,hx,rfl⟩)
      simp only at this
      simp; omega)
     rw [List.drop_zero] at h2
     refine ⟨avs,⟨h2.len.trans hlen,fun f hf=>?_⟩,h2⟩
     have:=(h3 (f.offset,P.cellsOf f.type,f.type) (List.mem_map.2 ⟨f,hf,rfl⟩)).2
     simpa using this

end
end Go.AM
namespace Go.AM
open Go.RowKit (Below)

section
variable {P:Program} {n:Nat} {K:Post} {E:EPost} {T:Tmps} {st:St} {ops:Array Oper} {rest:List Oper}

inductive Still:AV→Prop
 | int (k:IntKind) (n:Int):Still (.int k n)
 | bool (b:Bool):Still (.bool b)
 | str (l:List UInt8):Still (.str l)
 | lit (v:Value):Still (.lit v)
 | agg (cs:List AV) (h:∀ c ∈ cs,Still c):Still (.agg cs)
 | view (sz:Nat) (rows:List (List AV)) (h:∀ row ∈ rows,∀ c ∈ row,Still c):Still (.view sz rows .shared)
 | nil (sz:Nat):Still (.view sz [] .nil)

theorem cell_lt {w:World} {b i:Nat} {v:Value} (h:w.cell? ⟨b,i,none⟩=some v):b < w.heap.size:=by
 rcases Nat.lt_or_ge b w.heap.size with h'|h'
 ·exact h'
 ·simp [World.cell?,Array.getElem?_eq_none h'] at h

theorem R.toG0 {g:G} {w:World} {a:AV} {v:Value} (h:R g w a v):Still a→R (G0 w) w a v:=by
 induction h with
 | int=>exact fun _=>.int _ _
 | bool=>exact fun _=>.bool _
 | str=>exact fun _=>.str _
 | lit=>exact fun _=>.lit _
 | agg cs vs hl h1 _ ih =>
  intro hs
  cases hs with
  | agg _ hs=>exact .agg _ _ hl h1 fun i c v hc hv=>ih i c v hc hv (hs c (List.mem_of_getElem? hc))
 | tuple=>intro hs; cases hs
 | vnil sz t ht =>
  intro hs
  cases hs with
  | view=>exact .vnil _ _ trivial
  | nil=>exact .vnil _ _ rfl
 | vemp sz t a hn ht =>
  intro hs
  cases hs with
  | view=>exact .vemp _ _ _ hn trivial
  | nil=>exact absurd rfl hn
 | view sz rows t b off cap f hc hm hsz h1 ht himm _ ih =>
  intro hs
  have key:∀ t',TokAt (G0 w) t' (some b) off rows.length cap sz→(∀ row ∈ rows,∀ c ∈ row,Still c)→R (G0 w) w (.view sz rows t') (.slice (some ⟨b,off,none⟩) rows.length cap):=fun t' ht' hst =>
   .view sz rows t' b off cap f hc hm hsz h1 ht' (fun i j hi hj=>⟨cell_lt (himm i j hi hj).2,(himm i j hi hj).2⟩) fun i j row c hr hcj=>ih i j row c hr hcj (hst row (List.mem_of_getElem? hr) c (List.mem_of_getElem? hcj))
  cases hs with
  | view _ _ hst=>exact key _ trivial hst
  | nil=>cases ht
 | eptr=>intro hs; cases hs
 | cptr=>intro hs; cases hs
 | msl=>intro hs; cases hs
 | iter=>intro hs; cases hs
 | amap=>intro hs; cases hs
 | iface=>intro hs; cases hs
 | func=>intro hs; cases hs

inductive Solid:AV→Prop
 | int (k:IntKind) (n:Int):Solid (.int k n)
 | bool (b:Bool):Solid (.bool b)
 | str (l:List UInt8):Solid (.str l)
 | lit (v:Value):Solid (.lit v)
 | nil (sz:Nat):Solid (.view sz [] .nil)

theorem Solid.R {a:AV} (hs:Solid a) {g g':G} {w w':World} {v:Value} (h:R g w a v):R g' w' a v:=by
 cases hs with
 | int=>cases h; exact .int _ _
 | bool=>cases h; exact .bool _
 | str=>cases h; exact .str _
 | lit=>cases h; exact .lit _
 | nil sz =>
  cases h with
  | vnil=>exact .vnil _ _ rfl
  | vemp _ _ _ hn _=>exact absurd rfl hn
  | view _ _ _ b off cap f hc hm hsz h1 ht himm hh=>cases ht

inductive Fresh (st:St):AV→AV→Prop
 | solid (v:AV) (h:Solid v):Fresh st v v
 | own (sz:Nat) (rows:List (List AV)) (tk:Nat) (e:TypeId) (ht:st.tok tk=true) (h:∀ row ∈ rows,∀ c ∈ row,Solid c):Fresh st (.view sz rows (.own tk e)) (.view sz rows .shared)
 | tuple (cs cs':List AV) (hl:cs.length=cs'.length) (h:∀ (i:Nat) c c',cs[i]?=some c→cs'[i]?=some c'→Fresh st c c'):Fresh st (.tuple cs) (.tuple cs')

def G.over (g:G) (w w':World) (g':G):G:={ g with imm:=fun b i=>g.imm b i∨(w.heap.size≤b∧b < w'.heap.size∧g'.imm b i) }

theorem Fresh.R {g g':G} {w w':World} {st':St} (hs':Sim g' w' st') (hb:g'.base=w.heap.size) {v v2:AV} (hf:Fresh st' v v2):∀ {rv:Value},R g' w' v rv→R (g.over w w' g') w' v2 rv:=by
 induction hf with
 | solid v h=>exact fun hr=>h.R hr
 | own sz rows tk e ht h =>
  intro rv hr
  obtain ⟨r,hr1,hr2⟩:=hs'.toks tk ht
  cases hr with
  | vnil=>exact .vnil _ _ trivial
  | vemp _ _ ad=>exact .vemp _ _ ad (fun h=>by cases h) trivial
  | view _ _ _ b off cap f hc hm hsz h1 htk himm hh =>
   obtain ⟨_,sz',_,htok⟩:=htk
   rw [hr1] at htok
   cases htok
   obtain ⟨hbase,_,_,_,⟨cur,hcur,_⟩,_⟩:=hr2
   have hlt:b < w'.heap.size:=hs'.toklt tk b _ hr1
   refine .view sz rows .shared b off cap f hc hm hsz h1 trivial (fun i j hi hj=>⟨.inr ⟨hb ▸ hbase,hlt,(himm i j hi hj).1⟩,(himm i j hi hj).2⟩) ?_
   intro i j row c hrow hcj
   exact (h row (List.mem_of_getElem? hrow) c (List.mem_of_getElem? hcj)).R (hh i j row c hrow hcj)
 | tuple cs cs' hl _ ih =>
  intro rv hr
  cases hr with
  | tuple _ vs hl' hh =>
   refine .tuple _ vs (hl ▸ hl') fun i c' v hc' hv=>?_
   have:i < cs.length:=by rw [hl]; exact (List.getElem?_eq_some_iff.1 hc').1
   exact ih i _ _ (List.getElem?_eq_getElem this) hc' (hh i _ v (List.getElem?_eq_getElem this) hv)

theorem Sim.over {g g':G} {w w':World} (hs:Sim g w st) {st':St} (_hs':Sim g' w' st') (hb:Below w.heap.size w w'):Ext g w (g.over w w' g') w'∧Sim (g.over w w' g') w' st:=by
 have hsz:w.heap.size≤w'.heap.size:=hb.size
 have he:Ext g w (g.over w w' g') w':={
  base:=rfl
  next:=Nat.le_refl _
  imm:=fun b i h=>.inl h
  cell:=fun b i h=>hb.cell (p:=⟨b,i,none⟩) (hs.immlt b i h)
  obj:=fun o b h=>h
  tok:=fun t r h=>h
  below:=hb.mono hs.base
  old:=fun b i hb' hi=>hi.elim id fun h=>absurd hb' (by have:=hs.base; omega) }
 have hblk:∀ b,b < w.heap.size→w'.heap[b]?=w.heap[b]?:=fun b h=>hb.block b h
 have himm:∀ b i,b < w.heap.size→¬ g.imm b i→¬ (g.over w w' g').imm b i:=fun b i h h1 h2=>by
  rcases h2 with h2|⟨h2,_⟩
  ·exact h1 h2
  ·omega
 refine ⟨he,?_⟩
 exact {
  base:=Nat.le_trans hs.base hsz
  objs:=fun o c hc=>by
   obtain ⟨b,m,h1,h2,h3,h4⟩:=hs.objs o c hc
   have hlt:=hs.objlt o b m h1
   exact ⟨b,m,h1,h2,h3.mono he (hblk b hlt),fun i=>himm b i hlt (h4 i)⟩
  inj:=hs.inj
  toks:=fun t ht=>by
   obtain ⟨r,h1,h2⟩:=hs.toks t ht
   refine ⟨r,h1,?_⟩
   obtain ⟨b,len,cap,e,size⟩:=r
   cases b with
   | none=>exact h2
   | some b =>
    have hlt:=hs.toklt t b _ h1
    obtain ⟨a1,a2,a3,a4,⟨cur,a5,a6⟩,a7⟩:=h2
    exact ⟨a1,a2,a3,a4,⟨cur,(hblk b hlt).trans a5,a6⟩,fun i hi=>himm b i hlt (a7 i hi)⟩
  tobj:=hs.tobj
  tinj:=hs.tinj
  immlt:=fun b i h=>by
   rcases h with h|⟨_,h,_⟩
   ·exact Nat.lt_of_lt_of_le (hs.immlt b i h) hsz
   ·exact h
  objlt:=fun o b m h=>Nat.lt_of_lt_of_le (hs.objlt o b m h) hsz
  toklt:=fun t b r h=>Nat.lt_of_lt_of_le (hs.toklt t b r h) hsz
  fresh:=hs.fresh
  globs:=fun gi row h=>(hs.globs gi row h).ext he }

def St.bare:St:={ obj:=fun _=>none,tok:=fun _=>false,glob:=[] }

theorem ACalls.fz {f:FuncId} {avs avs':List AV} {Rt:AV→St→Prop} {Rt2:AV→Prop} (hc:ACalls P f avs' St.bare Rt (fun _ _=>False))
  (hz:∀ g w (rargs:Array Value),Sim g w st→avs.length=rargs.size→(∀ (i:Nat) c v,avs[i]?=some c→rargs[i]?=some v→R g w c v) →
   ∃ g',avs'.length=rargs.size∧∀ (i:Nat) c v,avs'[i]?=some c→rargs[i]?=some v→R g' w c v∧Still c)
  (hf:∀ v st',Rt v st'→∃ v2,Fresh st' v v2∧Rt2 v2):ACalls P f avs st (fun v st'=>Rt2 v∧st'=st) (fun _ _=>False):=by
 intro g w rargs hs hl ha
 obtain ⟨g1,hl1,h1⟩:=hz g w rargs hs hl ha
 refine (hc (G0 w) w rargs (Sim0 w [] (fun gi row h=>by cases h)) hl1 fun i c v hc hv=>(h1 i c v hc hv).1.toG0 (h1 i c v hc hv).2).mono fun e w' ⟨g',st',he,hs',hq⟩=>?_
 have hb:Below w.heap.size w w':=he.below
 obtain ⟨he2,hs2⟩:=hs.over hs' hb
 refine ⟨_,st,he2,hs2,?_⟩
 cases e with
 | returned rv =>
  obtain ⟨v,hR,hRt⟩:=hq
  obtain ⟨v2,hfr,hv2⟩:=hf v st' hRt
  exact ⟨v2,hfr.R hs' he.base hR,hv2,rfl⟩
 | panicked ch=>obtain ⟨_,_,_,_,h⟩:=hq; exact h.elim
 | outgrown=>exact hq.elim

theorem resC {t:Tmp} {ty oty:TypeId} {td:TypeDesc} {sz by_:Nat} {z:Value} {o s i off:Nat} {rows:List (List AV)} {row:List AV} {v:AV} {r:List ResultVar} {vs:List AV} [hu:Und P ty td] [hi:Inf P ty sz by_ z]
  (ht:T.get t=some (.cptr o s i off)) (ho:st.obj o=some (.cells oty s rows)) (hr:rows[i]?=some row) (hv:sel (aggD td) sz row off=some v) (h:resA P st T r=some vs):resA P st T (.cell t ty::r)=some (v::vs):=by
 obtain ⟨inf,h1,h2,_⟩:=hi.out
 unfold resA
 simp only [ht,hu.out,h1,h,ho,nbeq_self,cond_true,hr,h2,hv]

theorem resCW {t:Tmp} {ty oty:TypeId} {td:TypeDesc} {sz by_:Nat} {z:Value} {o s i:Nat} {rows:List (List AV)} {row:List AV} {r:List ResultVar} {vs:List AV} [hu:Und P ty td] [hi:Inf P ty sz by_ z]
  (ht:T.get t=some (.cptr o s i 0)) (ho:st.obj o=some (.cells oty s rows)) (hr:rows[i]?=some row) (ha:aggD td=true) (hl:Nat.beq sz row.length=true) (h:resA P st T r=some vs):resA P st T (.cell t ty::r)=some (.agg row::vs) :=
 resC ht ho hr (by rw [ha]; exact sel_all hl) h

theorem ACalls.le {f:FuncId} {args:List AV} {Rt Rt':AV→St→Prop} (h:ACalls P f args st Rt (fun _ _=>False)) (h1:∀ v st',Rt v st'→∃ v2 st2,Le v v2∧StLe st' st2∧Rt' v2 st2):ACalls P f args st Rt' (fun _ _=>False) :=
 fun g w rargs hs hl ha=>(h g w rargs hs hl ha).mono fun e w' ⟨g',st',he,hs',hq⟩=>by
  cases e with
  | returned rv =>
   obtain ⟨v,x1,x2⟩:=hq
   obtain ⟨v2,st2,y1,y2,y3⟩:=h1 v st' x2
   exact ⟨g',st2,he,hs'.le y2,v2,x1.le y1,y3⟩
  | panicked ch=>obtain ⟨_,_,_,_,x⟩:=hq; exact x.elim
  | outgrown=>exact hq.elim

end
end Go.AM
namespace Go.AM
section
variable {P:Program} {n:Nat} {K:Post} {E:EPost} {T:Tmps} {st:St} {ops:Array Oper} {rest:List Oper}
variable {d:Tmp} {dd:Option Tmp} {x y:Operand} {ty:TypeId} {pos:String} {es:Array Edge} {gd:Option (Nat × Bool)}

theorem sel_one {row:List AV} {sz off:Nat} {v:AV} (h:row[off]?=some v):sel false sz row off=some v:=h

theorem lcS {t:TypeId} {td:TypeDesc} [hu:Und P t td] {sz by_:Nat} {zz:Value} [hi:Inf P t sz by_ zz] {o s:Nat} {rows:List (List AV)} {i off:Nat} {row:List AV} {v:AV}
  (hg:goes ops n T ⟨dd,.load t x,ty,pos,es,gd⟩=some d) (ha:aggD td=false) (hx:ev st T x=some (.cptr o s i off)) {oty:TypeId} (ho:st.obj o=some (.cells oty s rows)) (hr:rows[i]?=some row) (hv:row[off]?=some v)
  (k:AOps P n ops rest K E ((d,v)::T) st):AOps P n ops (⟨dd,.load t x,ty,pos,es,gd⟩::rest) K E T st :=
 lc hg hx ho hr (by rw [ha]; exact sel_one hv) k

theorem R.sliced {g:G} {w:World} {sz:Nat} {rows:List (List AV)} {tk:Tok} {rv:Value} (h:R g w (.view sz rows tk) rv) {lo hi:Nat} (h1:lo≤hi) (h2:hi≤rows.length) :
  ∃ base cap,rv=.slice base rows.length cap∧rows.length≤cap∧R g w (.view sz ((rows.drop lo).take (hi - lo)) .shared) (_root_.Go.sliced base lo hi cap sz):=by
 cases h with
 | vnil =>
  have:lo=0:=by simp at h2; omega
  subst this
  have:hi=0:=by simpa using h2
  subst this
  exact ⟨none,0,rfl,Nat.le_refl _,.vnil _ _ trivial⟩
 | vemp _ _ a =>
  have:lo=0:=by simp at h2; omega
  subst this
  have:hi=0:=by simpa using h2
  subst this
  refine ⟨some a,0,rfl,Nat.le_refl _,?_⟩
  simp only [_root_.Go.sliced,if_true,Nat.sub_zero]
  exact .vemp _ _ _ (fun h=>by cases h) trivial
 | view _ _ _ b off cap f hc hm hsz h1' ht himm hh =>
  refine ⟨some ⟨b,off,none⟩,cap,rfl,hc,?_⟩
  by_cases hcl:cap=lo
  ·have e1:hi - lo=0:=by omega
   simp only [_root_.Go.sliced,hcl,if_true,e1,List.take_zero,Nat.sub_self]
   exact .vemp _ _ _ (fun h=>by cases h) trivial
  ·have hlen:((rows.drop lo).take (hi - lo)).length=hi - lo:=by simp; omega
   have key:=R.view (g:=g) (w:=w) sz ((rows.drop lo).take (hi - lo)) .shared b (off + lo * sz) (cap - lo) (fun i j=>f (lo + i) j) (by rw [hlen]; omega) (by omega)
    (fun row hr=>hsz row (List.mem_of_mem_drop (List.mem_of_mem_take hr))) (fun row hr=>h1' row (List.mem_of_mem_drop (List.mem_of_mem_take hr))) trivial
    (fun i j hi' hj=>by
     rw [hlen] at hi'
     have:=himm (lo + i) j (by omega) hj
     rw [Nat.add_mul] at this
     rw [show off + lo * sz + (i * sz + j)=off + (lo * sz + i * sz + j) by omega]
     exact this)
    (fun i j row c hr hcj=>by
     have hi':i < hi - lo:=by
      have:=(List.getElem?_eq_some_iff.1 hr).1
      rw [hlen] at this
      exact this
     rw [List.getElem?_take_of_lt hi',List.getElem?_drop] at hr
     exact hh (lo + i) j row c hr hcj)
   rw [hlen] at key
   simp only [_root_.Go.sliced,hcl,if_false,Option.map_some,addr_add]
   exact key

theorem sv2 {t e:TypeId} [hu:Und P t (.slice e)] {sz by_:Nat} {ez:Value} [hie:Inf P e sz by_ ez] {z:Operand} {rows:List (List AV)} {tk:Tok} {a b:Nat} {k k':IntKind}
  (hg:goes ops n T ⟨dd,.slice t x (some y) (some z) none,ty,pos,es,gd⟩=some d) (hx:ev st T x=some (.view sz rows tk)) (hy:ev st T y=some (.int k (a:Int))) (hz:ev st T z=some (.int k' (b:Int))) (hab:a≤b) (hb:b≤rows.length)
  (kk:AOps P n ops rest K E ((d,.view sz ((rows.drop a).take (b - a)) .shared)::T) st):AOps P n ops (⟨dd,.slice t x (some y) (some z) none,ty,pos,es,gd⟩::rest) K E T st:=by
 obtain ⟨hw,hd,hok⟩:=goes_some hg
 simp only at hd
 subst hd
 refine AOps.pure hw hok _ (fun g w a' hs hk=>?_) kk
 have h1:=ev_R hs hk hx
 have h2:=ev_R hs hk hy
 have h3:=ev_R hs hk hz
 generalize hux:a'.eval x=ux at h1
 generalize huy:a'.eval y=uy at h2
 generalize huz:a'.eval z=uz at h3
 cases h2
 cases h3
 obtain ⟨base,cap,rfl,hc,hR⟩:=h1.sliced hab hb
 have he:P.elem t=e:=by simp [Program.elem,hu.out]
 have hr:=run_slice_lh (P:=P) w t base rows.length cap (by rw [he]; exact hu.out) k k' a b (by omega) (by omega) (by omega)
 refine ⟨_,?_,hR⟩
 simp [execOp,hux,huy,huz,run_sliceAt_slice (P:=P) w t _ _ _ _ (by rw [he]; exact hu.out),hr,he,run_size (P:=P) (t:=e) w]

theorem svh {t e:TypeId} [hu:Und P t (.slice e)] {sz by_:Nat} {ez:Value} [hie:Inf P e sz by_ ez] {rows:List (List AV)} {tk:Tok} {b:Nat} {k:IntKind}
  (hg:goes ops n T ⟨dd,.slice t x none (some y) none,ty,pos,es,gd⟩=some d) (hx:ev st T x=some (.view sz rows tk)) (hy:ev st T y=some (.int k (b:Int))) (hb:b≤rows.length)
  (kk:AOps P n ops rest K E ((d,.view sz (rows.take b) .shared)::T) st):AOps P n ops (⟨dd,.slice t x none (some y) none,ty,pos,es,gd⟩::rest) K E T st:=by
 obtain ⟨hw,hd,hok⟩:=goes_some hg
 simp only at hd
 subst hd
 refine AOps.pure hw hok _ (fun g w a' hs hk=>?_) kk
 have h1:=ev_R hs hk hx
 have h2:=ev_R hs hk hy
 generalize hux:a'.eval x=ux at h1
 generalize huy:a'.eval y=uy at h2
 cases h2
 obtain ⟨base,cap,rfl,hc,hR⟩:=h1.sliced (Nat.zero_le b) hb
 rw [List.drop_zero,Nat.sub_zero] at hR
 have he:P.elem t=e:=by simp [Program.elem,hu.out]
 have hr:=run_slice_h (P:=P) w t base rows.length cap (by rw [he]; exact hu.out) k b (by omega) (by omega)
 refine ⟨_,?_,hR⟩
 simp [execOp,hux,huy,run_sliceAt_slice (P:=P) w t _ _ _ _ (by rw [he]; exact hu.out),hr,he,run_size (P:=P) (t:=e) w]

theorem svl {t e:TypeId} [hu:Und P t (.slice e)] {sz by_:Nat} {ez:Value} [hie:Inf P e sz by_ ez] {rows:List (List AV)} {tk:Tok} {a:Nat} {k:IntKind}
  (hg:goes ops n T ⟨dd,.slice t x (some y) none none,ty,pos,es,gd⟩=some d) (hx:ev st T x=some (.view sz rows tk)) (hy:ev st T y=some (.int k (a:Int))) (ha:a≤rows.length)
  (kk:AOps P n ops rest K E ((d,.view sz (rows.drop a) .shared)::T) st):AOps P n ops (⟨dd,.slice t x (some y) none none,ty,pos,es,gd⟩::rest) K E T st:=by
 obtain ⟨hw,hd,hok⟩:=goes_some hg
 simp only at hd
 subst hd
 refine AOps.pure hw hok _ (fun g w a' hs hk=>?_) kk
 have h1:=ev_R hs hk hx
 have h2:=ev_R hs hk hy
 generalize hux:a'.eval x=ux at h1
 generalize huy:a'.eval y=uy at h2
 cases h2
 obtain ⟨base,cap,rfl,hc,hR⟩:=h1.sliced ha (Nat.le_refl _)
 rw [List.take_of_length_le (by simp)] at hR
 have he:P.elem t=e:=by simp [Program.elem,hu.out]
 have hr:=run_slice_l (P:=P) w t base rows.length cap (by rw [he]; exact hu.out) k a (by omega) (by omega)
 refine ⟨_,?_,hR⟩
 simp [execOp,hux,huy,run_sliceAt_slice (P:=P) w t _ _ _ _ (by rw [he]; exact hu.out),hr,he,run_size (P:=P) (t:=e) w]

end
end Go.AM
namespace Go.AM
open Go.RowKit (Below)

section
variable {P:Program} {n:Nat} {K:Post} {E:EPost} {T:Tmps} {st:St} {ops:Array Oper} {rest:List Oper}
variable {d:Tmp} {dd:Option Tmp} {x y z:Operand} {ty:TypeId} {pos:String} {es:Array Edge} {gd:Option (Nat × Bool)}

theorem sx {t:TypeId} [hu:Und P t .string] {l:List UInt8} {k:IntKind} {i:Int} {m:Nat} {c:UInt8} (hg:goes ops n T ⟨dd,.index t x y,ty,pos,es,gd⟩=some d)
  (hx:ev st T x=some (.str l)) (hy:ev st T y=some (.int k i)) (hi:i=m) (hc:l[m]?=some c)
  (h:AOps P n ops rest K E ((d,.int .u8 c.toNat)::T) st):AOps P n ops (⟨dd,.index t x y,ty,pos,es,gd⟩::rest) K E T st:=by
 obtain ⟨hw,hd,hok⟩:=goes_some hg
 simp only at hd
 subst hd
 exact AOps.strIndex hw hok hx hy hi hc h

theorem ssl {t:TypeId} [hu:Und P t .string] {l:List UInt8} {k:IntKind} {a:Nat} (hg:goes ops n T ⟨dd,.slice t x (some y) none none,ty,pos,es,gd⟩=some d)
  (hx:ev st T x=some (.str l)) (hy:ev st T y=some (.int k (a:Int))) (ha:a≤l.length)
  (h:AOps P n ops rest K E ((d,.str (l.drop a))::T) st):AOps P n ops (⟨dd,.slice t x (some y) none none,ty,pos,es,gd⟩::rest) K E T st:=by
 obtain ⟨hw,hd,hok⟩:=goes_some hg
 simp only at hd
 subst hd
 refine AOps.sliceStr (a:=a) (b:=l.length) hw hok hx (.inr ⟨y,k,rfl,hy⟩) (.inl ⟨rfl,rfl⟩) ha (Nat.le_refl _) ?_
 rw [List.take_of_length_le (by simp)]
 exact h
theorem ssh {t:TypeId} [hu:Und P t .string] {l:List UInt8} {k:IntKind} {b:Nat} (hg:goes ops n T ⟨dd,.slice t x none (some y) none,ty,pos,es,gd⟩=some d)
  (hx:ev st T x=some (.str l)) (hy:ev st T y=some (.int k (b:Int))) (hb:b≤l.length)
  (h:AOps P n ops rest K E ((d,.str (l.take b))::T) st):AOps P n ops (⟨dd,.slice t x none (some y) none,ty,pos,es,gd⟩::rest) K E T st:=by
 obtain ⟨hw,hd,hok⟩:=goes_some hg
 simp only at hd
 subst hd
 refine AOps.sliceStr (a:=0) (b:=b) hw hok hx (.inl ⟨rfl,rfl⟩) (.inr ⟨y,k,rfl,hy⟩) (Nat.zero_le _) hb ?_
 rw [List.drop_zero,Nat.sub_zero]
 exact h
theorem ss2 {t:TypeId} [hu:Und P t .string] {l:List UInt8} {k k':IntKind} {a b:Nat} (hg:goes ops n T ⟨dd,.slice t x (some y) (some z) none,ty,pos,es,gd⟩=some d)
  (hx:ev st T x=some (.str l)) (hy:ev st T y=some (.int k (a:Int))) (hz:ev st T z=some (.int k' (b:Int))) (hab:a≤b) (hb:b≤l.length)
  (h:AOps P n ops rest K E ((d,.str ((l.drop a).take (b - a)))::T) st):AOps P n ops (⟨dd,.slice t x (some y) (some z) none,ty,pos,es,gd⟩::rest) K E T st:=by
 obtain ⟨hw,hd,hok⟩:=goes_some hg
 simp only at hd
 subst hd
 exact AOps.sliceStr hw hok hx (.inr ⟨y,k,rfl,hy⟩) (.inr ⟨z,k',rfl,hz⟩) hab hb h

theorem sad {t u:TypeId} {a b:List UInt8} (hg:goes ops n T ⟨dd,.binOp .add t x y u,ty,pos,es,gd⟩=some d)
  (hx:ev st T x=some (.str a)) (hy:ev st T y=some (.str b)) (hl:a.length + b.length≤9223372036854775807)
  (h:AOps P n ops rest K E ((d,.str (a++b))::T) st):AOps P n ops (⟨dd,.binOp .add t x y u,ty,pos,es,gd⟩::rest) K E T st:=by
 obtain ⟨hw,hd,hok⟩:=goes_some hg
 simp only at hd
 subst hd
 exact AOps.strAdd hw hok hx hy hl h

theorem adk {t u:TypeId} {k:IntKind} {a b c:Int} (hg:goes ops n T ⟨dd,.binOp .add t x y u,ty,pos,es,gd⟩=some d)
  (hx:ev st T x=some (.int k a)) (hy:ev st T y=some (.int k b)) (hc:k.wrap (a + b)=c)
  (h:AOps P n ops rest K E ((d,.int k c)::T) st):AOps P n ops (⟨dd,.binOp .add t x y u,ty,pos,es,gd⟩::rest) K E T st:=by
 obtain ⟨hw,hd,hok⟩:=goes_some hg
 simp only at hd
 subst hd
 exact AOps.add hw hok hx hy hc h
theorem sbk {t u:TypeId} {k:IntKind} {a b c:Int} (hg:goes ops n T ⟨dd,.binOp .sub t x y u,ty,pos,es,gd⟩=some d)
  (hx:ev st T x=some (.int k a)) (hy:ev st T y=some (.int k b)) (hc:k.wrap (a - b)=c)
  (h:AOps P n ops rest K E ((d,.int k c)::T) st):AOps P n ops (⟨dd,.binOp .sub t x y u,ty,pos,es,gd⟩::rest) K E T st:=by
 obtain ⟨hw,hd,hok⟩:=goes_some hg
 simp only at hd
 subst hd
 exact AOps.sub hw hok hx hy hc h
theorem mlk {t u:TypeId} {k:IntKind} {a b c:Int} (hg:goes ops n T ⟨dd,.binOp .mul t x y u,ty,pos,es,gd⟩=some d)
  (hx:ev st T x=some (.int k a)) (hy:ev st T y=some (.int k b)) (hc:k.wrap (a * b)=c)
  (h:AOps P n ops rest K E ((d,.int k c)::T) st):AOps P n ops (⟨dd,.binOp .mul t x y u,ty,pos,es,gd⟩::rest) K E T st:=by
 obtain ⟨hw,hd,hok⟩:=goes_some hg
 simp only at hd
 subst hd
 exact AOps.mul hw hok hx hy hc h
theorem quk {t u:TypeId} {k:IntKind} {a b c:Int} (hg:goes ops n T ⟨dd,.binOp .quo t x y u,ty,pos,es,gd⟩=some d)
  (hx:ev st T x=some (.int k a)) (hy:ev st T y=some (.int k b)) (h0:b≠0) (hc:k.wrap (a.tdiv b)=c)
  (h:AOps P n ops rest K E ((d,.int k c)::T) st):AOps P n ops (⟨dd,.binOp .quo t x y u,ty,pos,es,gd⟩::rest) K E T st:=by
 obtain ⟨hw,hd,hok⟩:=goes_some hg
 simp only at hd
 subst hd
 exact AOps.quo hw hok hx hy h0 hc h
theorem ngk {t:TypeId} {k:IntKind} {a c:Int} (hg:goes ops n T ⟨dd,.unOp .neg t x,ty,pos,es,gd⟩=some d)
  (hx:ev st T x=some (.int k a)) (hc:k.wrap (0 - a)=c)
  (h:AOps P n ops rest K E ((d,.int k c)::T) st):AOps P n ops (⟨dd,.unOp .neg t x,ty,pos,es,gd⟩::rest) K E T st:=by
 obtain ⟨hw,hd,hok⟩:=goes_some hg
 simp only at hd
 subst hd
 exact AOps.neg hw hok hx hc h
theorem cv {t u:TypeId} {ds:TypeDesc} {k k':IntKind} [Und P t ds] [hu:Und P u (.int k')] {a c:Int} (hg:goes ops n T ⟨dd,.convert t u x,ty,pos,es,gd⟩=some d)
  (hx:ev st T x=some (.int k a)) (hc:k'.wrap a=c) (h:AOps P n ops rest K E ((d,.int k' c)::T) st):AOps P n ops (⟨dd,.convert t u x,ty,pos,es,gd⟩::rest) K E T st:=by
 obtain ⟨hw,hd,hok⟩:=goes_some hg
 simp only at hd
 subst hd
 exact AOps.convInt hw hok hx hc h

def brow8 (b:UInt8):List AV:=[.int .u8 b.toNat]

theorem cbs {t u e:TypeId} [hut:Und P t (.slice e)] [hue:Und P e (.int .u8)] [huu:Und P u .string] {l:List UInt8} {tk:Tok} (hg:goes ops n T ⟨dd,.convert t u x,ty,pos,es,gd⟩=some d)
  (hx:ev st T x=some (.view 1 (l.map brow8) tk)) (h:AOps P n ops rest K E ((d,.str l)::T) st):AOps P n ops (⟨dd,.convert t u x,ty,pos,es,gd⟩::rest) K E T st:=by
 obtain ⟨hw,hd,hok⟩:=goes_some hg
 simp only at hd
 subst hd
 refine AOps.pure hw hok _ (fun g w a hs hk=>?_) h
 have h1:=ev_R hs hk hx
 generalize hux:a.eval x=ux at h1
 have hex:∀ v,(convert t u ux).run P w=.ok v w→(execOp a.eval ⟨some d,.convert t u x,ty,pos,es,gd⟩).run P w=.ok (.value v) w:=by
  intro v hv
  simp only [execOp,hux,Sem.run_bind,hv,Result.andThen_ok,Sem.run_pure]
 generalize hr:l.map brow8=rows at h1
 have hlen:rows.length=l.length:=by rw [← hr]; simp
 cases h1 with
 | vnil =>
  have:l=[]:=List.eq_nil_of_length_eq_zero (by simpa using hlen.symm)
  subst this
  exact ⟨_,hex _ (run_convert_bytes_nil w t e hut.out hue.out 0 0 u huu.out),.str []⟩
 | vemp _ _ ad =>
  have:l=[]:=List.eq_nil_of_length_eq_zero (by simpa using hlen.symm)
  subst this
  exact ⟨_,hex _ (run_convert_bytes_back w t u e ad 0 [] hut.out hue.out huu.out (fun j hj=>by simp at hj)),.str []⟩
 | view _ _ _ b off cap f hc hm hsz h1' ht himm hh =>
  have:=run_convert_bytes_back (P:=P) w t u e ⟨b,off,none⟩ cap l hut.out hue.out huu.out (fun j hj=>by
   have h2:=(himm j 0 (by omega) (by omega)).2
   rw [Nat.mul_one,Nat.add_zero] at h2
   rw [addr_add,h2]
   have hrow:rows[j]?=some (brow8 l[j]):=by rw [← hr]; simp [hj]
   have h3:=hh j 0 _ _ hrow rfl
   generalize f j 0=q at h3
   cases h3
   rfl)
  rw [← hlen] at this
  exact ⟨_,hex _ this,.str l⟩

theorem ixg {t e:TypeId} {td:TypeDesc} {len sz by_:Nat} {zz:Value} {cs:List AV} {k:IntKind} {i:Int} {m:Nat} {v:AV} [hu:Und P t (.array len e)] [hq:Und P e td] [hi:Inf P e sz by_ zz]
  (hg:goes ops n T ⟨dd,.index t x y,ty,pos,es,gd⟩=some d) (ha:aggD td=false) (hx:ev st T x=some (.agg cs)) (hy:ev st T y=some (.int k i)) (hm:i=m) (hlt:m < len) (hv:cs[m * sz]?=some v)
  (h:AOps P n ops rest K E ((d,v)::T) st):AOps P n ops (⟨dd,.index t x y,ty,pos,es,gd⟩::rest) K E T st:=by
 obtain ⟨hw,hd,hok⟩:=goes_some hg
 simp only at hd
 subst hd
 refine AOps.pure hw hok v (fun g w a hs hk=>?_) h
 have h1:=ev_R hs hk hx
 have h2:=ev_R hs hk hy
 generalize hux:a.eval x=ux at h1
 generalize huy:a.eval y=uy at h2
 subst hm
 cases h2
 cases h1 with
 | agg _ us hl h1' hh =>
  have hlt':m * sz < us.size:=hl ▸ (List.getElem?_eq_some_iff.1 hv).1
  refine ⟨us[m * sz],?_,hh _ v _ hv (by simp [hlt'])⟩
  simp [execOp,hux,huy,Instr.index,asIntOf,run_und (P:=P) (t:=t) w,hlt,run_size (P:=P) (t:=e) w,part,run_isAgg (P:=P) (t:=e) w,ha,hlt']

end
end Go.AM
namespace Go.AM
open Go.RowKit (Below)

section
variable {P:Program} {n:Nat} {K:Post} {E:EPost} {T:Tmps} {st:St} {ops:Array Oper} {rest:List Oper}
variable {d:Tmp} {dd:Option Tmp} {x y z:Operand} {ty:TypeId} {pos:String} {es:Array Edge} {gd:Option (Nat × Bool)}

/-! maps -/

end
end Go.AM
namespace Go.AM
open Go.RowKit (Below)

inductive Sh where
 | kI (k:IntKind)
 | kB
 | kS

def flatFields (P:Program) (F:TypeId→Option (List Sh)):Nat→List Field→Option (List Sh)
 | _,[]=>some []
 | off,f::fs=>match F f.type,(P.info? f.type).map (·.size) with
  | some sh, some sz => bif Nat.beq f.offset off && Nat.beq sz sh.length && f.name != "_" then (flatFields P F (off + sh.length) fs).map (sh ++ ·) else none
  | _,_=>none

def flatTy (P:Program):Nat→TypeId→Option (List Sh)
 | 0,_=>none
 | d + 1,t=>match P.underlying t with
  | some (.int k)=>some [.kI k]
  | some .bool=>some [.kB]
  | some .string=>some [.kS]
  | some (.struct fs)=>bif P.stoodInHeld t then none else flatFields P (flatTy P d) 0 fs.toList
  | some (.array n e)=>match flatTy P d e,(P.info? e).map (·.size) with
   | some sh,some sz=>bif Nat.beq sz sh.length then some (List.replicate n sh).flatten else none
   | _,_=>none
  | _=>none

def fit1:Sh→AV→Bool
 | .kI k,.int k' _=>kindEq k k'
 | .kB,.bool _=>true
 | .kS,.str _=>true
 | _,_=>false
def fits:List Sh→List AV→Bool
 | [],[]=>true
 | s::ss,c::cs=>fit1 s c && fits ss cs
 | _,_=>false

def avEq:AV→AV→Bool
 | .int _ a,.int _ b=>decide (a=b)
 | .bool a,.bool b=>a == b
 | .str a,.str b=>decide (a=b)
 | _,_=>false
def cellsEq:List AV→List AV→Bool
 | [],[]=>true
 | a::avs,b::bs=>avEq a b && cellsEq avs bs
 | _,_=>false

theorem fits_length:∀ {ss:List Sh} {cs:List AV},fits ss cs=true→cs.length=ss.length
 | [],[],_=>rfl
 | [],_::_,h=>by cases h
 | _::_,[],h=>by cases h
 | s::ss,c::cs,h=>by
  simp only [fits,Bool.and_eq_true] at h
  simp [fits_length h.2]

theorem fits_append:∀ {s1 s2:List Sh} {cs:List AV},fits (s1++s2) cs=true→fits s1 (cs.take s1.length)=true∧fits s2 (cs.drop s1.length)=true
 | [],s2,cs,h=>⟨by simp [fits],h⟩
 | s::s1,s2,[],h=>by cases h
 | s::s1,s2,c::cs,h=>by
  simp only [List.cons_append,fits,Bool.and_eq_true] at h
  obtain ⟨h1,h2⟩:=fits_append h.2
  exact ⟨by simp [fits,h.1,h1],by simpa using h2⟩

theorem cellsEq_split:∀ (n:Nat) (cs ds:List AV),cs.length=ds.length→cellsEq cs ds=(cellsEq (cs.take n) (ds.take n) && cellsEq (cs.drop n) (ds.drop n))
 | 0,cs,ds,_=>by simp [cellsEq]
 | n + 1,[],[],_=>rfl
 | n + 1,[],d::ds,h=>by simp at h
 | n + 1,c::cs,[],h=>by simp at h
 | n + 1,c::cs,d::ds,h=>by
  simp only [List.take_succ_cons,List.drop_succ_cons,cellsEq,Bool.and_assoc]
  rw [cellsEq_split n cs ds (by simpa using h)]

section
variable {P:Program}

def mkV (P:Program) (t:TypeId) (vs:List Value):Value :=
 match P.underlying t with
 | some (.struct _)|some (.array _ _)=>.agg vs.toArray
 | _=>vs.headD undef

def Rl (g:G) (w:World) (cs:List AV) (vs:List Value):Prop:=cs.length=vs.length∧∀ (i:Nat) c v,cs[i]?=some c→vs[i]?=some v→R g w c v

theorem Rl.take {g:G} {w:World} {cs:List AV} {vs:List Value} (h:Rl g w cs vs) (n:Nat):Rl g w (cs.take n) (vs.take n) :=
 ⟨by simp [h.1],fun i c v hc hv=>by
  rw [List.getElem?_take] at hc hv
  split at hc
  ·rename_i hi
   rw [if_pos hi] at hv
   exact h.2 i c v hc hv
  ·cases hc⟩
theorem Rl.drop {g:G} {w:World} {cs:List AV} {vs:List Value} (h:Rl g w cs vs) (n:Nat):Rl g w (cs.drop n) (vs.drop n) :=
 ⟨by simp [h.1],fun i c v hc hv=>by
  rw [List.getElem?_drop] at hc hv
  exact h.2 _ c v hc hv⟩

theorem run_part (w:World) {t:TypeId} {d:Nat} {sh:List Sh} (hf:flatTy P d t=some sh) (hsz:(P.info? t).map (·.size)=some sh.length) (vs:List Value) (off:Nat) (hl:off + sh.length≤vs.length) :
  (part t vs.toArray off).run P w=.ok (mkV P t ((vs.drop off).take sh.length)) w:=by
 obtain ⟨inf,hi,hs⟩:=Option.map_eq_some_iff.1 hsz
 have hsize:(sizeOf t).run P w=.ok sh.length w:=by simp [sizeOf,typeInfo,hi,hs]
 have hagg:∀ fs,(P.underlying t=some (.struct fs)∨∃ n e,P.underlying t=some (.array n e))→(isAgg t).run P w=.ok true w:=by
  intro fs h
  rcases h with h|⟨n,e,h⟩ <;> simp [isAgg,run_underlying h]
 cases d with
 | zero=>cases hf
 | succ d =>
  unfold flatTy at hf
  unfold mkV
  have one:∀ td,P.underlying t=some td→aggD td=false→sh.length=1→(part t vs.toArray off).run P w=.ok (((vs.drop off).take sh.length).headD undef) w:=by
   intro td hu ha h1
   have hag:(isAgg t).run P w=.ok false w:=by
    haveI:Und P t td:=⟨hu⟩
    rw [run_isAgg w,ha]
   have hlt:off < vs.length:=by omega
   have hget:vs.toArray[off]?=some vs[off]:=by simp [hlt]
   have hd:((vs.drop off).take sh.length).headD undef=vs[off]:=by
    rw [h1,List.drop_eq_getElem_cons hlt]
    rfl
   rw [hd]
   simp [part,hag,hget]
  have many:(isAgg t).run P w=.ok true w→(part t vs.toArray off).run P w=.ok (.agg ((vs.drop off).take sh.length).toArray) w:=by
   intro ha
   simp [part,ha,hsize]
  split at hf
  ·rename_i k hu; cases hf; rw [hu]; exact one _ hu rfl rfl
  ·rename_i hu; cases hf; rw [hu]; exact one _ hu rfl rfl
  ·rename_i hu; cases hf; rw [hu]; exact one _ hu rfl rfl
  ·rename_i fs hu; rw [hu]; exact many (hagg fs (.inl hu))
  ·rename_i n e hu; rw [hu]; exact many (hagg #[] (.inr ⟨n,e,hu⟩))
  ·cases hf

theorem avEq_run (w:World) {d:Nat} {t:TypeId} {s:Sh} (hf:flatTy P (d + 1) t=some [s]) (hu:∀ fs,P.underlying t≠some (.struct fs)) (hu':∀ n e,P.underlying t≠some (.array n e)) {g:G} {a b:AV} {x y:Value} (hx:R g w a x) (hy:R g w b y) (ha:fit1 s a=true) (hb:fit1 s b=true) :
  (Op.equalIn (d + 1) t x y).run P w=.ok (avEq a b) w:=by
 unfold flatTy at hf
 split at hf
 ·rename_i k h
  cases hf
  cases a <;> simp only [fit1,Bool.false_eq_true] at ha
  cases b <;> simp only [fit1,Bool.false_eq_true] at hb
  have e1:=kindEq_eq ha
  have e2:=kindEq_eq hb
  subst e1 e2
  cases hx
  cases hy
  rw [run_equalIn_int w d t _ _ _ _ h]
  simp only [avEq]
  congr 1
 ·rename_i h
  cases hf
  cases a <;> simp only [fit1,Bool.false_eq_true] at ha
  cases b <;> simp only [fit1,Bool.false_eq_true] at hb
  cases hx
  cases hy
  rw [run_equalIn_bool' w d t _ _ h]
  rfl
 ·rename_i h
  cases hf
  cases a <;> simp only [fit1,Bool.false_eq_true] at ha
  cases b <;> simp only [fit1,Bool.false_eq_true] at hb
  cases hx
  cases hy
  rw [run_equalIn_string w d t _ _ h]
  simp only [avEq,ByteArray.toList_mk]
  congr 1
  rw [Bool.eq_iff_iff]
  simp
 ·rename_i fs h; exact absurd h (hu fs)
 ·rename_i n e h; exact absurd h (hu' n e)
 ·cases hf

theorem eqFields_run (w:World) {d:Nat} {g:G} (ih:∀ t sh,flatTy P d t=some sh→∀ (cs ds:List AV) (xs ys:List Value),Rl g w cs xs→Rl g w ds ys→fits sh cs=true→fits sh ds=true→(Op.equalIn d t (mkV P t xs) (mkV P t ys)).run P w=.ok (cellsEq cs ds) w)
  {cs ds:List AV} {xs ys:List Value} (hx:Rl g w cs xs) (hy:Rl g w ds ys) (hcd:cs.length=ds.length):∀ (fs:List Field) (off:Nat) (sh:List Sh),flatFields P (flatTy P d) off fs=some sh→off≤cs.length→fits sh (cs.drop off)=true→fits sh (ds.drop off)=true →
  (Op.eqFields d xs.toArray ys.toArray fs).run P w=.ok (cellsEq (cs.drop off) (ds.drop off)) w
 | [],off,sh,h,_,h1,h2=>by
  cases h
  have e1:=List.eq_nil_of_length_eq_zero (fits_length h1)
  have e2:=List.eq_nil_of_length_eq_zero (fits_length h2)
  rw [e1,e2]
  rfl
 | f::fs,off,sh,h,hoff,h1,h2=>by
  unfold flatFields at h
  cases hF:flatTy P d f.type with
  | none=>rw [hF] at h; cases h
  | some s1 =>
   cases hS:(P.info? f.type).map (·.size) with
   | none=>rw [hF,hS] at h; cases h
   | some sz =>
    simp only [hF,hS] at h
    cases hc : (Nat.beq f.offset off && Nat.beq sz s1.length && f.name != "_") with
    | false=>rw [hc] at h; cases h
    | true =>
     rw [hc,cond_true] at h
     simp only [Bool.and_eq_true] at hc
     obtain ⟨⟨c1,c2⟩,c3⟩:=hc
     have c1:=Nat.eq_of_beq_eq_true c1
     have c2:=Nat.eq_of_beq_eq_true c2
     have c3 : f.name ≠ "_" := by simpa using c3
     obtain ⟨s2,hs2,rfl⟩:=Option.map_eq_some_iff.1 h
     obtain ⟨p1,p2⟩:=fits_append h1
     obtain ⟨q1,q2⟩:=fits_append h2
     rw [List.drop_drop] at p2 q2
     have hl1:=fits_length p1
     have hl:=fits_length h1
     simp only [List.length_take,List.length_drop,List.length_append] at hl hl1
     have hp1:=run_part (P:=P) w hF (c2 ▸ hS) xs off (by rw [← hx.1]; omega)
     have hp2:=run_part (P:=P) w hF (c2 ▸ hS) ys off (by rw [← hy.1]; omega)
     have he:=ih _ _ hF _ _ _ _ ((hx.drop off).take s1.length) ((hy.drop off).take s1.length) p1 q1
     have hr:=eqFields_run w ih hx hy hcd fs (off + s1.length) s2 hs2 (by omega) p2 q2
     rw [cellsEq_split s1.length (cs.drop off) (ds.drop off) (by simp [hcd])]
     rw [List.drop_drop,List.drop_drop]
     simp only [Op.eqFields,c3,ne_eq,not_false_eq_true,if_true,c1,Sem.run_bind,hp1,hp2,he,Result.andThen_ok]
     cases hb:cellsEq ((cs.drop off).take s1.length) ((ds.drop off).take s1.length) with
     | false=>simp
     | true=>simpa using hr

theorem eqItems_run (w:World) {d:Nat} {g:G} {e:TypeId} {s1:List Sh} (hF:flatTy P d e=some s1) (hS:(P.info? e).map (·.size)=some s1.length) (ih:∀ (cs ds:List AV) (xs ys:List Value),Rl g w cs xs→Rl g w ds ys→fits s1 cs=true→fits s1 ds=true→(Op.equalIn d e (mkV P e xs) (mkV P e ys)).run P w=.ok (cellsEq cs ds) w)
  {cs ds:List AV} {xs ys:List Value} (hx:Rl g w cs xs) (hy:Rl g w ds ys) (hcd:cs.length=ds.length):∀ (j k:Nat),k * s1.length≤cs.length→fits (List.replicate j s1).flatten (cs.drop (k * s1.length))=true→fits (List.replicate j s1).flatten (ds.drop (k * s1.length))=true →
  (Op.eqItems d e s1.length xs.toArray ys.toArray (List.range' k j)).run P w=.ok (cellsEq (cs.drop (k * s1.length)) (ds.drop (k * s1.length))) w
 | 0,k,_,h1,h2=>by
  have e1:=List.eq_nil_of_length_eq_zero (fits_length h1)
  have e2:=List.eq_nil_of_length_eq_zero (fits_length h2)
  rw [e1,e2]
  rfl
 | j + 1,k,hk,h1,h2=>by
  rw [List.replicate_succ,List.flatten_cons] at h1 h2
  obtain ⟨p1,p2⟩:=fits_append h1
  obtain ⟨q1,q2⟩:=fits_append h2
  rw [List.drop_drop] at p2 q2
  have e:k * s1.length + s1.length=(k + 1) * s1.length:=by rw [Nat.add_mul,Nat.one_mul]
  rw [e] at p2 q2
  have hl1:=fits_length p1
  have hl:=fits_length h1
  simp only [List.length_take,List.length_drop,List.length_append] at hl hl1
  have hp1:=run_part (P:=P) w hF hS xs (k * s1.length) (by rw [← hx.1]; omega)
  have hp2:=run_part (P:=P) w hF hS ys (k * s1.length) (by rw [← hy.1]; omega)
  have he:=ih _ _ _ _ ((hx.drop (k * s1.length)).take s1.length) ((hy.drop (k * s1.length)).take s1.length) p1 q1
  have hr:=eqItems_run w hF hS ih hx hy hcd j (k + 1) (by omega) p2 q2
  rw [cellsEq_split s1.length (cs.drop (k * s1.length)) (ds.drop (k * s1.length)) (by simp [hcd])]
  rw [List.drop_drop,List.drop_drop,e]
  simp only [List.range'_succ,Op.eqItems,Sem.run_bind,hp1,hp2,he,Result.andThen_ok]
  cases hb:cellsEq ((cs.drop (k * s1.length)).take s1.length) ((ds.drop (k * s1.length)).take s1.length) with
  | false=>simp
  | true=>simpa using hr

theorem flat_eq:∀ (d:Nat) (t:TypeId) (sh:List Sh),flatTy P d t=some sh→∀ (g:G) (w:World) (cs ds:List AV) (xs ys:List Value),Rl g w cs xs→Rl g w ds ys→fits sh cs=true→fits sh ds=true →
  (Op.equalIn d t (mkV P t xs) (mkV P t ys)).run P w=.ok (cellsEq cs ds) w
 | 0,t,sh,h=>by cases h
 | d + 1,t,sh,h=>by
  intro g w cs ds xs ys hx hy h1 h2
  have h0:=h
  unfold flatTy at h
  have one:∀ s,sh=[s]→(∀ fs,P.underlying t≠some (.struct fs))→(∀ n e,P.underlying t≠some (.array n e))→(Op.equalIn (d + 1) t (mkV P t xs) (mkV P t ys)).run P w=.ok (cellsEq cs ds) w:=by
   intro s hs hu hu'
   subst hs
   match cs,fits_length h1,h1 with
   | [a],_,h1 =>
    match ds,fits_length h2,h2 with
    | [b],_,h2 =>
     have hxl:xs.length=1:=hx.1.symm
     have hyl:ys.length=1:=hy.1.symm
     match xs,hxl with
     | [x],_ =>
      match ys,hyl with
      | [y],_ =>
       have e:∀ v,mkV P t [v]=v:=by
        intro v
        unfold mkV
        split
        ·rename_i fs h; exact absurd h (hu fs)
        ·rename_i n e h; exact absurd h (hu' n e)
        ·rfl
       rw [e,e]
       simp only [fits,Bool.and_true] at h1 h2
       rw [avEq_run w h0 hu hu' (hx.2 0 a x rfl rfl) (hy.2 0 b y rfl rfl) h1 h2]
       simp [cellsEq]
  split at h
  ·rename_i k hu; cases h; exact one _ rfl (by simp [hu]) (by simp [hu])
  ·rename_i hu; cases h; exact one _ rfl (by simp [hu]) (by simp [hu])
  ·rename_i hu; cases h; exact one _ rfl (by simp [hu]) (by simp [hu])
  ·rename_i fs hu
   cases hst:P.stoodInHeld t with
   | true=>rw [hst] at h; cases h
   | false =>
    rw [hst,cond_false] at h
    have hfs:P.fieldsOf t=fs:=by simp [Program.fieldsOf,hu]
    have hmk:∀ vs,mkV P t vs=.agg vs.toArray:=fun vs=>by unfold mkV; rw [hu]
    rw [hmk,hmk,run_equalIn_struct w d t _ _ (by rw [hfs]; exact hu) hst,hfs]
    exact eqFields_run w (fun t sh hf cs ds xs ys=>flat_eq d t sh hf g w cs ds xs ys) hx hy (by rw [fits_length h1,fits_length h2]) fs.toList 0 sh h (Nat.zero_le _) h1 h2
  ·rename_i n e hu
   cases hF:flatTy P d e with
   | none=>rw [hF] at h; cases h
   | some s1 =>
    cases hS:(P.info? e).map (·.size) with
    | none=>rw [hF,hS] at h; cases h
    | some sz =>
     simp only [hF,hS] at h
     cases hc:Nat.beq sz s1.length with
     | false=>rw [hc] at h; cases h
     | true =>
      rw [hc,cond_true] at h
      cases h
      have hc:=Nat.eq_of_beq_eq_true hc
      subst hc
      have hmk:∀ vs,mkV P t vs=.agg vs.toArray:=fun vs=>by unfold mkV; rw [hu]
      obtain ⟨inf,hi,hs⟩:=Option.map_eq_some_iff.1 hS
      have hco:P.cellsOf e=s1.length:=by simp [Program.cellsOf,hi,hs]
      rw [hmk,hmk,run_equalIn_array w d _ _ hu hi,hco,List.range_eq_range']
      have:=eqItems_run w hF hS (fun cs ds xs ys=>flat_eq d e s1 hF g w cs ds xs ys) hx hy (by rw [fits_length h1,fits_length h2]) n 0 (by simp) (by simpa using h1) (by simpa using h2)
      simpa using this
  ·cases h

class FlatT (P:Program) (t:TypeId) (sh:outParam (List Sh)):Prop where
 out:flatTy P 10000 t=some sh
 guard:P.eqGuardType P.depth t=false
 agg:(match P.underlying t with|some (.struct _)|some (.array _ _)=>true|_=>false)=true

variable {n:Nat} {K:Post} {E:EPost} {T:Tmps} {st:St} {ops:Array Oper} {rest:List Oper}
variable {d:Tmp} {dd:Option Tmp} {x y z:Operand} {ty:TypeId} {pos:String} {es:Array Edge} {gd:Option (Nat × Bool)}

theorem flat_run {t:TypeId} {sh:List Sh} [h:FlatT P t sh] {g:G} {w:World} {cs ds:List AV} {xs ys:Array Value} (hx:R g w (.agg cs) (.agg xs)) (hy:R g w (.agg ds) (.agg ys)) (h1:fits sh cs=true) (h2:fits sh ds=true) :
  (Op.equalIn 10000 t (.agg xs) (.agg ys)).run P w=.ok (cellsEq cs ds) w:=by
 have hmk:∀ vs:Array Value,mkV P t vs.toList=.agg vs:=fun vs=>by
  have:=h.agg
  unfold mkV
  split at this
  ·simp
  ·simp
  ·cases this
 have:=flat_eq 10000 t sh h.out g w cs ds xs.toList ys.toList (by
  cases hx with
  | agg _ _ hl _ hh=>exact ⟨by simpa using hl,fun i c v hc hv=>hh i c v hc (by simpa using hv)⟩) (by
  cases hy with
  | agg _ _ hl _ hh=>exact ⟨by simpa using hl,fun i c v hc hv=>hh i c v hc (by simpa using hv)⟩) h1 h2
 rwa [hmk,hmk] at this

theorem eqA {t u:TypeId} {sh:List Sh} [h:FlatT P t sh] {cs ds:List AV} (hg:goes ops n T ⟨dd,.binOp .eql t x y u,ty,pos,es,gd⟩=some d) (hx:ev st T x=some (.agg cs)) (hy:ev st T y=some (.agg ds))
  (h1:fits sh cs=true) (h2:fits sh ds=true) (k:AOps P n ops rest K E ((d,.bool (cellsEq cs ds))::T) st):AOps P n ops (⟨dd,.binOp .eql t x y u,ty,pos,es,gd⟩::rest) K E T st:=by
 obtain ⟨hw,hd,hok⟩:=goes_some hg
 simp only at hd
 subst hd
 refine AOps.pure hw hok _ (fun g w a hs hk=>?_) k
 have q1:=ev_R hs hk hx
 have q2:=ev_R hs hk hy
 generalize hux:a.eval x=ux at q1
 generalize huy:a.eval y=uy at q2
 cases q1 with
 | agg _ xs hl1 ho1 hh1 =>
  cases q2 with
  | agg _ ys hl2 ho2 hh2 =>
   have:=flat_run (P:=P) (t:=t) (.agg _ _ hl1 ho1 hh1) (.agg _ _ hl2 ho2 hh2) h1 h2
   refine ⟨.bool (cellsEq cs ds),?_,.bool _⟩
   simp only [execOp,hux,huy,Sem.run_bind,run_eqGuard_agg w .eql t x y xs ys h.guard,run_eql_struct,this,Result.andThen_ok,Sem.run_pure]
theorem neA {t u:TypeId} {sh:List Sh} [h:FlatT P t sh] {cs ds:List AV} (hg:goes ops n T ⟨dd,.binOp .neq t x y u,ty,pos,es,gd⟩=some d) (hx:ev st T x=some (.agg cs)) (hy:ev st T y=some (.agg ds))
  (h1:fits sh cs=true) (h2:fits sh ds=true) (k:AOps P n ops rest K E ((d,.bool (!cellsEq cs ds))::T) st):AOps P n ops (⟨dd,.binOp .neq t x y u,ty,pos,es,gd⟩::rest) K E T st:=by
 obtain ⟨hw,hd,hok⟩:=goes_some hg
 simp only at hd
 subst hd
 refine AOps.pure hw hok _ (fun g w a hs hk=>?_) k
 have q1:=ev_R hs hk hx
 have q2:=ev_R hs hk hy
 generalize hux:a.eval x=ux at q1
 generalize huy:a.eval y=uy at q2
 cases q1 with
 | agg _ xs hl1 ho1 hh1 =>
  cases q2 with
  | agg _ ys hl2 ho2 hh2 =>
   have:=flat_run (P:=P) (t:=t) (.agg _ _ hl1 ho1 hh1) (.agg _ _ hl2 ho2 hh2) h1 h2
   refine ⟨.bool (!cellsEq cs ds),?_,.bool _⟩
   simp only [execOp,hux,huy,Sem.run_bind,run_eqGuard_agg w .neq t x y xs ys h.guard,run_neq_struct,this,Result.andThen_ok,Sem.run_pure]

end
end Go.AM
namespace Go.AM
abbrev fOf {P:Program} {t:TypeId} {fs:Array Field} (_:P.underlying t=some (.struct fs)):Array Field:=fs

section
variable {P:Program} {n:Nat} {K:Post} {E:EPost} {T:Tmps} {st:St} {ops:Array Oper} {rest:List Oper}
variable {d:Tmp} {dd:Option Tmp} {x y z:Operand} {ty:TypeId} {pos:String} {es:Array Edge} {gd:Option (Nat × Bool)}

structure CharAt (l:List UInt8) (ps:Nat) (c:UInt8) (r w:Nat):Prop where
 pos:1≤w
 le:ps + w≤l.length
 low:c.toNat < 128→r=c.toNat∧w=1
 high:128≤c.toNat→128≤r∧∀ j,ps≤j→j < ps + w→∃ b,l[j]?=some b∧128≤b.toNat

end
end Go.AM
namespace Go.AM
theorem St.set_inner {st:St} {o2 o3:Nat} (h:o3≠o2) (a a' b:AObj):((st.set o2 a).set o3 b).set o2 a'=(st.set o2 a').set o3 b:=by
 rw [St.set_comm (st.set o2 a) h,St.set_set]

theorem St.obj_under {st:St} {o o':Nat} (h:o'≠o) (c d:AObj):((st.set o c).set o' d).obj o=some c:=(St.obj_set_ne (fun e=>h e.symm)).trans (St.obj_set _ _ _)
theorem St.new_ne {st:St} {o o':Nat} {c:AObj} (h:(st.set o c).obj o'=none):o'≠o:=by rintro rfl; rw [St.obj_set] at h; cases h
theorem St.new_old {st:St} {o o':Nat} {c:AObj} (h:(st.set o c).obj o'=none):st.obj o'=none:=by rwa [St.obj_set_ne (St.new_ne h)] at h

end Go.AM
namespace Go.AM
open Go.RowKit (Below)
variable {P:Program} {n:Nat} {K:Post} {E:EPost} {T:Tmps} {st:St} {ops:Array Oper} {rest:List Oper}
variable {d:Tmp} {dd:Option Tmp} {x y z:Operand} {ty:TypeId} {pos:String} {es:Array Edge} {gd:Option (Nat × Bool)}

theorem freeze_other (w:World) (b off n k:Nat) (h:k≠b):(w.freeze ⟨b,off,none⟩ n).heap[k]?=w.heap[k]?:=by
 unfold World.freeze
 split
 ·rfl
 ·simp only [Array.getElem?_modify]
  rw [if_neg (fun e=>h e.symm)]

theorem freeze_same {w:World} {b off n:Nat} {cur:Array Value} {e:TypeId} {fr:Nat × Nat} (hb:w.heap[b]?=some (.cells cur e fr)):∃ fr',(w.freeze ⟨b,off,none⟩ n).heap[b]?=some (.cells cur e fr'):=by
 unfold World.freeze
 split
 ·exact ⟨fr,hb⟩
 ·obtain ⟨lo,hi⟩:=fr
  simp only [Array.getElem?_modify,if_true,hb,Option.map_some]
  exact ⟨_,rfl⟩

theorem freeze_size (w:World) (b off n:Nat):(w.freeze ⟨b,off,none⟩ n).heap.size=w.heap.size:=by
 unfold World.freeze
 split
 ·rfl
 ·simp

theorem freeze_rest (w:World) (b off n:Nat):(w.freeze ⟨b,off,none⟩ n).os=w.os∧(w.freeze ⟨b,off,none⟩ n).tape=w.tape∧(w.freeze ⟨b,off,none⟩ n).output=w.output:=by
 unfold World.freeze
 split <;> exact ⟨rfl,rfl,rfl⟩

theorem StLe.untok_add {tk:Nat} (h:st.tok tk=false):StLe ((st.addTok tk).untok tk) st :=
 ⟨fun _ _ h=>h,fun t ht=>by
  simp only [St.addTok,St.untok]
  by_cases h2:t=tk
  ·subst h2; rw [h] at ht; cases ht
  ·simp [h2,ht],rfl⟩

theorem Sim.mark {g:G} {w:World} (hs:Sim g w st) (b off n:Nat) (cur:Array Value) (e:TypeId) (fr:Nat × Nat) (hb:w.heap[b]?=some (.cells cur e fr)) (hbase:g.base≤b)
  (htoks:∀ t b' r,st.tok t=true→g.tok t=some (some b',r)→b'≠b) (hobjs:∀ o c b' m,st.obj o=some c→g.obj o=some (b',m)→b'≠b):Ext g w g (w.freeze ⟨b,off,none⟩ n)∧Sim g (w.freeze ⟨b,off,none⟩ n) st:=by
 have hoth:∀ k,k≠b→(w.freeze ⟨b,off,none⟩ n).heap[k]?=w.heap[k]?:=fun k hk=>freeze_other w b off n k hk
 obtain ⟨fr',hb'⟩:=freeze_same (off:=off) (n:=n) hb
 have hsz:=freeze_size w b off n
 obtain ⟨f1,f2,f3⟩:=freeze_rest w b off n
 have he:Ext g w g (w.freeze ⟨b,off,none⟩ n):=by
  refine ⟨rfl,Nat.le_refl _,fun _ _ h=>h,fun b' i h=>?_,fun _ _ h=>h,fun _ _ h=>h,⟨f1,f2,f3,by omega,fun j hj=>hoth j (by omega)⟩,fun _ _ _ h=>h⟩
  by_cases hbb:b'=b
  ·subst hbb
   rw [cell_of_row _ b' i cur e fr' hb',cell_of_row w b' i cur e fr hb]
  ·exact World.cell?_of_block (w:=w) (hoth b' hbb)
 refine ⟨he,by rw [hsz]; exact hs.base,fun o c hc=>?_,hs.inj,fun t ht=>?_,hs.tobj,hs.tinj,fun b i h=>by rw [hsz]; exact hs.immlt b i h,fun o b m h=>by rw [hsz]; exact hs.objlt o b m h,fun t b r h=>by rw [hsz]; exact hs.toklt t b r h,hs.fresh,fun gi row h=>(hs.globs gi row h).ext he⟩
 ·obtain ⟨b',m,h1,h2,h3,h4⟩:=hs.objs o c hc
  exact ⟨b',m,h1,h2,h3.mono he (hoth b' (hobjs o c b' m hc h1)),h4⟩
 ·obtain ⟨⟨b',len,cap,e',size⟩,h1,h2⟩:=hs.toks t ht
  refine ⟨_,h1,?_⟩
  cases b' with
  | none=>exact h2
  | some b' =>
   obtain ⟨a1,a2,a3,a4,⟨cur',a5,a6⟩,a7⟩:=h2
   exact ⟨a1,a2,a3,a4,⟨cur',(hoth b' (htoks t b' _ ht h1)).trans a5,a6⟩,a7⟩

theorem cvm {t e:TypeId} [hut:Und P t (.slice e)] [hue:Und P e (.int .u8)] {sz:Nat} {rows:List (List AV)} {tk:Nat} (hg:goes ops n T ⟨dd,.convert t t x,ty,pos,es,gd⟩=some d)
  (hx:ev st T x=some (.view sz rows (.own tk e))) (htk:st.tok tk=true) (hne:rows≠[])
  (h:AOps P n ops rest K E ((d,.view sz rows .shared)::T) (st.untok tk)):AOps P n ops (⟨dd,.convert t t x,ty,pos,es,gd⟩::rest) K E T st:=by
 refine AOps.stepAny hg fun g w a hs hk=>?_
 have h1:=ev_R hs hk hx
 generalize hux:a.eval x=ux at h1
 have hsu:Sim g w (st.untok tk):=hs.le (StLe.untok tk)
 cases h1 with
 | vnil=>exact absurd rfl hne
 | vemp=>exact absurd rfl hne
 | view _ _ _ b off cap f hc hm hsz h1' ht himm hh =>
  obtain ⟨h0,sz',hs1,htok⟩:=ht
  subst h0
  have hth:=hs.tokOf htk htok
  obtain ⟨a1,a2,a3,a4,⟨cur,a5,a6⟩,a7⟩:=hth
  have hm1:=Sim.mark hsu b cur.size 1 cur e (0,0) a5 a1 (fun t' b' r h1 h2 e'=>by
   subst e'
   simp only [St.untok] at h1
   split at h1
   ·cases h1
   ·rename_i hne'
    exact hne' (hs.tinj t' tk b' r _ h1 htk h2 htok)) (fun o c b' m h1 h2 e'=>by
   subst e'
   exact hs.tobj tk o c b' _ m htk h1 htok h2)
  obtain ⟨he,hs'⟩:=hm1
  have hrun:(execOp a.eval ⟨dd,.convert t t x,ty,pos,es,gd⟩).run P w=.ok (.value (.slice (some ⟨b,0,none⟩) rows.length cap)) (w.freeze ⟨b,cur.size,none⟩ 1):=by
   have hshape:w.shape? b=some (e,cur.size):=by
    unfold World.shape?
    rw [a5]
   simp [execOp,convert,hux,run_und (P:=P) (t:=t) w,run_und (P:=P) (t:=e) w,markStringish,hshape]
  refine ⟨_,g,_,.view sz rows .shared,st.untok tk,hrun,he,hs',?_,h⟩
  exact R.view sz rows .shared b 0 cap f hc hm hsz h1' trivial (fun i j hi hj=>⟨(himm i j hi hj).1,by rw [he.cell _ _ (himm i j hi hj).1]; exact (himm i j hi hj).2⟩) (fun i j row c hr hcc=>(hh i j row c hr hcc).ext he)
end Go.AM
namespace Go.AM
open Go.RowKit (Below)

section
variable {P:Program} {n:Nat} {K:Post} {E:EPost} {T:Tmps} {st:St}

def EffI (P:Program) (n:Nat) (I:St→Prop) (T:Tmps) (o:Oper) (Q:AV→Prop):Prop :=
 ∀ st g w a (K':Act→World→Prop) (Q':Exit→Act→World→Prop),I st→Sim g w st→Known g w T a→a.tmps.size=n →
  (∀ rv g' w' v st1,Ext g w g' w'→Sim g' w' st1→R g' w' v rv→Q v→I st1→K' (a.put o.dst rv) w')→o.wp P a w K' Q'

def StepI (P:Program) (n:Nat) (I:St→Prop) (ops:Array Oper) (T:Tmps) (o:Oper) (Q:AV→Prop):Prop :=
 (wantedA ops T o=some true∧EffI P n I T o Q)∨(wantedA ops T o=some false∧Q (.lit undef))

def DRunI (P:Program) (n:Nat) (I:St→Prop) (ops:Array Oper):List Oper→List (AV→Prop)→Tmps→(Tmps→St→Prop)→Prop
 | [],[],T,k=>∀ st,I st→k T st
 | o::r,Q::Qs,T,k=>∃ d,o.dst=some d∧Nat.blt d n=true∧(∃ u,Q u)∧StepI P n I ops (see ops o T) o Q∧∀ u,Q u→DRunI P n I ops r Qs ((d,u)::T) k
 | _,_,_,_=>False

def ents (l:List Oper) (us:Nat→AV):Nat→Tmps
 | 0=>[]
 | i + 1=>match (l[i]?).bind (·.dst) with
  | some d=>(d,us i)::ents l us i
  | none=>ents l us i

theorem DRunI.out {I:St→Prop} {ops:Array Oper} {k:Tmps→St→Prop} (us:Nat→AV) (l:List Oper):∀ (r:List Oper) (Qs:List (AV→Prop)) (i0:Nat),(∀ (i:Nat) (o:Oper),r[i]?=some o→l[i0 + i]?=some o)→(∀ (i:Nat) (Q:AV→Prop),Qs[i]?=some Q→Q (us (i0 + i))) →
  DRunI P n I ops r Qs (ents l us i0++T) k→Qs.length=r.length∧(∀ st,I st→k (ents l us (i0 + r.length)++T) st) ∧
   ∀ i o,r[i]?=some o→∃ d Q,o.dst=some d∧d < n∧Qs[i]?=some Q∧StepI P n I ops (see ops o (ents l us (i0 + i)++T)) o Q
 | [],[],i0,_,_,h=>⟨rfl,h,fun i o ho=>by simp at ho⟩
 | [],_::_,_,_,_,h=>h.elim
 | _::_,[],_,_,_,h=>h.elim
 | o::r,Q::Qs,i0,hl,hq,h=>by
  obtain ⟨d,h1,h2,_,h4,h5⟩:=h
  have h6:=h5 (us i0) (hq 0 Q rfl)
  have hl0:l[i0]?=some o:=by simpa using hl 0 o rfl
  have he:(d,us i0)::(ents l us i0++T)=ents l us (i0 + 1)++T:=by
   rw [ents,hl0]
   simp only [Option.bind_some,h1,List.cons_append]
  rw [he] at h6
  obtain ⟨a1,a2,a3⟩:=DRunI.out us l r Qs (i0 + 1) (fun i o' ho'=>by have:=hl (i + 1) o' (by simpa using ho'); rwa [show i0 + (i + 1)=i0 + 1 + i by omega] at this) (fun i Q' hQ'=>by have:=hq (i + 1) Q' (by simpa using hQ'); rwa [show i0 + (i + 1)=i0 + 1 + i by omega] at this) h6
  refine ⟨by simp [a1],by rw [List.length_cons,show i0 + (r.length + 1)=i0 + 1 + r.length by omega]; exact a2,fun i o' ho'=>?_⟩
  cases i with
  | zero =>
   simp only [List.getElem?_cons_zero,Option.some.injEq] at ho'
   subst ho'
   exact ⟨d,Q,h1,by simpa using h2,rfl,h4⟩
  | succ i =>
   obtain ⟨d',Q',b1,b2,b3,b4⟩:=a3 i o' (by simpa using ho')
   exact ⟨d',Q',b1,b2,by simpa using b3,by rwa [show i0 + 1 + i=i0 + (i + 1) by omega] at b4⟩

theorem DRunI.fits {I:St→Prop} {ops:Array Oper} {k:Tmps→St→Prop}:∀ (r:List Oper) (Qs:List (AV→Prop)) (T:Tmps),DRunI P n I ops r Qs T k→∀ (i:Nat) (Q:AV→Prop),Qs[i]?=some Q→∃ u,Q u
 | [],[],_,_,i,Q,h=>by simp at h
 | [],_::_,_,h,_,_,_=>h.elim
 | _::_,[],_,h,_,_,_=>h.elim
 | o::r,Q0::Qs,T,h,i,Q,hq=>by
  obtain ⟨d,h1,h2,⟨u,hu⟩,h4,h5⟩:=h
  cases i with
  | zero=>simp at hq; subst hq; exact ⟨u,hu⟩
  | succ i=>exact DRunI.fits r Qs _ (h5 u hu) i Q (by simpa using hq)

theorem ents_get {l:List Oper} {us:Nat→AV}:∀ (i:Nat) (t:Nat) (v:AV),Tmps.get (ents l us i) t=some v→∃ j,j < i∧(l[j]?).bind (·.dst)=some t∧v=us j
 | 0,t,v,h=>by cases h
 | i + 1,t,v,h=>by
  unfold ents at h
  cases hd:(l[i]?).bind (·.dst) with
  | none =>
   rw [hd] at h
   obtain ⟨j,h1,h2,h3⟩:=ents_get i t v h
   exact ⟨j,by omega,h2,h3⟩
  | some d =>
   rw [hd] at h
   simp only at h
   rw [Tmps.get_cons] at h
   by_cases hdt:d=t
   ·rw [if_pos hdt] at h
    cases h
    exact ⟨i,by omega,by rw [hd,hdt],rfl⟩
   ·rw [if_neg hdt] at h
    obtain ⟨j,h1,h2,h3⟩:=ents_get i t v h
    exact ⟨j,by omega,h2,h3⟩

theorem ents_none {l:List Oper} {us:Nat→AV}:∀ (i:Nat) (t:Nat),Tmps.get (ents l us i) t=none→∀ j,j < i→(l[j]?).bind (·.dst)≠some t
 | 0,t,_,j,h=>by omega
 | i + 1,t,h,j,hj=>by
  unfold ents at h
  cases hd:(l[i]?).bind (·.dst) with
  | none =>
   rw [hd] at h
   rcases Nat.lt_or_ge j i with h1|h1
   ·exact ents_none i t h j h1
   ·have:j=i:=by omega
    subst this
    rw [hd]
    simp
  | some d =>
   rw [hd] at h
   simp only at h
   rw [Tmps.get_cons] at h
   by_cases hdt:d=t
   ·rw [if_pos hdt] at h; cases h
   ·rw [if_neg hdt] at h
    rcases Nat.lt_or_ge j i with h1|h1
    ·exact ents_none i t h j h1
    ·have:j=i:=by omega
     subst this
     rw [hd]
     simpa using hdt

end
end Go.AM
namespace Go.AM
open Go.RowKit (Below)
section
variable {P:Program} {n:Nat} {K:Post} {E:EPost} {T:Tmps} {st:St} {ops:Array Oper} {rest:List Oper}
variable {ty:TypeId} {pos:String} {es:Array Edge} {gd:Option (Nat × Bool)} {d:Tmp} {x y:Operand} {dd:Option Tmp}
theorem shl_ {t u:TypeId} {k k':IntKind} {a c:Int} {b:Nat} (hg:goes ops n T ⟨dd,.binOp .shl t x y u,ty,pos,es,gd⟩=some d)
  (hx:ev st T x=some (.int k a)) (hy:ev st T y=some (.int k' (b:Int))) (hc:k.wrap (a * 2 ^ (min b k.bits))=c)
  (h:AOps P n ops rest K E ((d,.int k c)::T) st):AOps P n ops (⟨dd,.binOp .shl t x y u,ty,pos,es,gd⟩::rest) K E T st:=by
 obtain ⟨hw,hd,hok⟩:=goes_some hg
 simp only at hd
 subst hd
 refine AOps.pure hw hok _ (fun g w a' hs hk=>?_) h
 have h1:=ev_R hs hk hx
 have h2:=ev_R hs hk hy
 generalize hu:a'.eval x=u1 at h1
 generalize hv:a'.eval y=u2 at h2
 cases h1
 cases h2
 subst hc
 refine ⟨_,?_,.int k _⟩
 have hb:¬ (b:Int) < 0:=by omega
 simp [execOp,hu,hv,eqGuard_at_int,binOp,Op.shift,hb]
theorem shr_ {t u:TypeId} {k k':IntKind} {a c:Int} {b:Nat} (hg:goes ops n T ⟨dd,.binOp .shr t x y u,ty,pos,es,gd⟩=some d)
  (hx:ev st T x=some (.int k a)) (hy:ev st T y=some (.int k' (b:Int))) (hc:a.fdiv (2 ^ (min b k.bits))=c)
  (h:AOps P n ops rest K E ((d,.int k c)::T) st):AOps P n ops (⟨dd,.binOp .shr t x y u,ty,pos,es,gd⟩::rest) K E T st:=by
 obtain ⟨hw,hd,hok⟩:=goes_some hg
 simp only at hd
 subst hd
 refine AOps.pure hw hok _ (fun g w a' hs hk=>?_) h
 have h1:=ev_R hs hk hx
 have h2:=ev_R hs hk hy
 generalize hu:a'.eval x=u1 at h1
 generalize hv:a'.eval y=u2 at h2
 cases h1
 cases h2
 subst hc
 refine ⟨_,?_,.int k _⟩
 have hb:¬ (b:Int) < 0:=by omega
 simp [execOp,hu,hv,eqGuard_at_int,binOp,Op.shift,hb]
theorem btk {bo:BinOp} {t u:TypeId} {k:IntKind} {a b c:Int} (hbo:bo=.and∨bo=.or∨bo=.xor) (hg:goes ops n T ⟨dd,.binOp bo t x y u,ty,pos,es,gd⟩=some d)
  (hx:ev st T x=some (.int k a)) (hy:ev st T y=some (.int k b)) (hc:bits bo k a b=c)
  (h:AOps P n ops rest K E ((d,.int k c)::T) st):AOps P n ops (⟨dd,.binOp bo t x y u,ty,pos,es,gd⟩::rest) K E T st:=by
 obtain ⟨hw,hd,hok⟩:=goes_some hg
 simp only at hd
 subst hd
 exact AOps.bits hbo hw hok hx hy hc h
theorem mkf {fn:Fn} {fi ca:Array Operand} {cs ds:List AV} (hg:goes ops n T ⟨dd,.makeFunc fn fi ca,ty,pos,es,gd⟩=some d)
  (h1:evs st T fi.toList=some cs) (h2:evs st T ca.toList=some ds)
  (h:AOps P n ops rest K E ((d,.func fn cs ds)::T) st):AOps P n ops (⟨dd,.makeFunc fn fi ca,ty,pos,es,gd⟩::rest) K E T st:=by
 obtain ⟨hw,hd,hok⟩:=goes_some hg
 simp only at hd
 subst hd
 refine AOps.pure hw hok _ (fun g w a' hs hk=>?_) h
 obtain ⟨l1,r1⟩:=evs_R hs hk _ _ h1
 obtain ⟨l2,r2⟩:=evs_R hs hk _ _ h2
 refine ⟨.func fn (fi.map a'.eval) (ca.map a'.eval),by simp [execOp,Instr.makeFunc],.func fn cs ds _ _ (by simpa using l1) (by simpa using l2) (fun i c v hc hv=>r1 i c v hc (by simpa using hv)) (fun i c v hc hv=>r2 i c v hc (by simpa using hv))⟩
theorem AOps.callC {d:Option Tmp} {f:FuncId} [hf:GoFun P f] {args:Array Operand} {tys:Array TypeId} {avs ds:List AV} {Rt RP:AV→St→Prop} (hx:ev st T x=some (.func (.func f) [] ds))
  (hw:wantedA ops T ⟨d,.call ⟨.value x,args,tys⟩,ty,pos,es,gd⟩=some true) (hd:dstOk d n=true) (ha:evs st T args.toList=some avs)
  (hc:ACalls P f (avs++ds) st Rt RP) (h:∀ v st',Rt v st'→AOps P n ops rest K E (T.put d v) st') (hp:∀ v st',RP v st'→E (.panic v) T st') :
  AOps P n ops (⟨d,.call ⟨.value x,args,tys⟩,ty,pos,es,gd⟩::rest) K E T st:=by
 intro g w a hs hk hn
 obtain ⟨hl,hr⟩:=evs_R hs hk _ _ ha
 obtain ⟨fn,h1,h2,h3⟩:=hf.out
 have hxR:=ev_R hs hk hx
 generalize hux:a.eval x=ux at hxR
 obtain ⟨us,hux',hlu,hru⟩:∃ us:Array Value,ux=.func (.func f) #[] us∧ds.length=us.size∧∀ (i:Nat) c v,ds[i]?=some c→us[i]?=some v→R g w c v:=by
  cases hxR with
  | func _ _ _ vs us hl1 hl2 _ h' =>
   have e1:vs=#[]:=Array.eq_empty_of_size_eq_zero (by simpa using hl1.symm)
   exact ⟨us,by rw [e1],hl2,h'⟩
 subst hux'
 have hcall:=hc g w (args.map a.eval++us) hs (by simp [hlu]; simpa using hl) (fun i c v hc hv=>by
  rw [List.getElem?_append] at hc
  rw [Array.getElem?_append] at hv
  simp only [Array.size_map] at hv
  simp only [Array.length_toList] at hl
  split at hc
  ·rw [if_pos (by omega)] at hv
   exact hr i c v hc (by simpa using hv)
  ·rw [if_neg (by omega)] at hv
   exact hru _ c v hc (by rw [hl]; exact hv))
 unfold wpList
 rw [wanted_of hk hw,if_pos rfl]
 left
 have hrun:(execOp a.eval ⟨d,.call ⟨.value x,args,tys⟩,ty,pos,es,gd⟩).run P w=.ok (.enter f (args.map a.eval++us)) w:=by
  have h2':¬ fn.body=none:=by intro e; simp [e] at h2
  have h3' : ¬ fn.name = "runtime.NumGoroutine" := by simpa using h3
  simp [execOp,resolve,hux,Deferred.ofValue,invoke,callFunc,h1,h2',h3']
 unfold Oper.wp
 rw [hrun]
 simp only [Oper.upon]
 refine hcall.mono fun e w' ⟨g',st',he,hs',hq⟩=>?_
 cases e with
 | returned rv =>
  obtain ⟨v,hR,hRt⟩:=hq
  have h4:=h v st' hRt g' w' (a.put d rv) hs' ((hk.ext he).put (fun t ht=>hn ▸ dstOk_lt hd t ht) hR) (by rw [Act.size_put]; exact hn)
  rw [Act.defers_put] at h4
  exact wpList_mono (fun _ _ _ q=>QOf.ext he q) rest _ _ h4
 | panicked ch =>
  obtain ⟨pv,v,x1,x2,x3⟩:=hq
  exact ⟨hn,rfl,g',T,st',he,hs',hk.ext he,pv,v,x1,x2,hp pv st' x3⟩
 | outgrown=>exact hq.elim
theorem clc {f:FuncId} [hf:GoFun P f] {args:Array Operand} {tys:Array TypeId} {avs ds:List AV} {X:AV}
  (hg:goes ops n T ⟨dd,.call ⟨.value x,args,tys⟩,ty,pos,es,gd⟩=some d) (hx:ev st T x=some (.func (.func f) [] ds)) (ha:evs st T args.toList=some avs)
  (hc:ACalls P f (avs++ds) st (fun v st'=>v=X∧st'=st) (fun _ _=>False)) (h:AOps P n ops rest K E ((d,X)::T) st) :
  AOps P n ops (⟨dd,.call ⟨.value x,args,tys⟩,ty,pos,es,gd⟩::rest) K E T st:=by
 obtain ⟨hw,hd,hok⟩:=goes_some hg
 simp only at hd
 subst hd
 exact AOps.callC hx hw hok ha hc (fun v st' ⟨h1,h2⟩=>by subst h1 h2; exact h) fun _ _ h=>h.elim
theorem Sim.poke {g:G} {w:World} (hs:Sim g w st) {o s b m:Nat} {oty:TypeId} {rows:List (List AV)} (ho:st.obj o=some (.cells oty s rows)) (hb:g.obj o=some (b,m)) (p:Nat) (cs:List AV) (vs:List Value)
  (hlen:cs.length=vs.length) (hv:∀ u ∈ vs,u.oneCell'=true) (hR:∀ (i:Nat) c u,cs[i]?=some c→vs[i]?=some u→R g w c u)
  (hp:p + vs.length≤rows.length * s) (rows':List (List AV)) (hl':rows'.length=rows.length) (hr':∀ row ∈ rows',row.length=s) (h1:∀ row ∈ rows',∀ c ∈ row,c.one=true)
  (hspec:∀ (i j:Nat) row c,rows'[i]?=some row→row[j]?=some c→(p≤i * s + j∧i * s + j < p + cs.length∧cs[i * s + j - p]?=some c)∨((i * s + j < p∨p + cs.length≤i * s + j)∧∃ row0,rows[i]?=some row0∧row0[j]?=some c)) :
  ∃ w',(storeCells ⟨b,p,none⟩ vs).run P w=.ok () w'∧Ext g w g w'∧Sim g w' (st.set o (.cells oty s rows')):=by
 obtain ⟨_,⟨arr,ha,hasz,hml,hl,h1',hc⟩,_⟩:=hs.objOf ho hb
 have hst:=run_storeCells_at P b p oty vs 0 arr w ha (by rw [hasz]; omega) hv
 simp only [Nat.add_zero] at hst
 generalize harr':(arr.toList.take p++vs++arr.toList.drop (p + vs.length)).toArray=arr' at hst
 have hsize':arr'.size=m:=by
  rw [← harr',← hasz]
  simp
  omega
 have flat:∀ q:Nat,arr'[q]?=if q < p then arr[q]? else if q < p + vs.length then vs[q - p]? else arr[q]?:=by
  intro q
  rw [← harr']
  simp only [List.getElem?_toArray,List.append_assoc]
  rw [List.getElem?_append]
  simp only [List.length_take,Array.length_toList]
  have hmin:min p arr.size=p:=by omega
  rw [hmin]
  by_cases hq:q < p
  ·rw [if_pos hq,if_pos hq,List.getElem?_take_of_lt hq,Array.getElem?_toList]
  ·rw [if_neg hq,if_neg hq,List.getElem?_append]
   by_cases hq2:q < p + vs.length
   ·rw [if_pos (by omega),if_pos hq2]
   ·rw [if_neg (by omega),if_neg hq2,List.getElem?_drop,Array.getElem?_toList]
    congr 1
    omega
 obtain ⟨he',hs'⟩:=hs.write (c':=.cells oty s rows') ho hb (w.setRow b arr') (by simp) rfl rfl rfl (fun k hk=>setRow_other w b k arr' hk) (fun he'=>by
  refine ⟨arr',setRow_heap w b arr arr' oty (0,0) ha,hsize',by rw [hl']; exact hml,hr',h1,?_⟩
  intro i j row c hrow hcj
  rcases hspec i j row c hrow hcj with ⟨q1,q2,q3⟩|⟨q1,row0,q2,q3⟩
  ·have hlt:i * s + j - p < vs.length:=by omega
   refine ⟨vs[i * s + j - p],?_,(hR _ c _ q3 (List.getElem?_eq_getElem hlt)).ext he'⟩
   rw [flat,if_neg (by omega),if_pos (by omega),List.getElem?_eq_getElem hlt]
  ·obtain ⟨u,hu1,hu2⟩:=hc i j row0 c q2 q3
   refine ⟨u,?_,hu2.ext he'⟩
   rw [flat]
   rcases q1 with q|q
   ·rw [if_pos q]; exact hu1
   ·rw [if_neg (by omega),if_neg (by omega)]; exact hu1)
 exact ⟨_,hst,he',hs'⟩
theorem one_rows {rows:List (List AV)} (h:∀ row ∈ rows,row.length=1) (q:Nat):rows.flatten[q]?=(rows[q]?).bind (·[0]?):=by
 induction rows generalizing q with
 | nil=>simp
 | cons r rs ih =>
  have hr:=h r (List.mem_cons_self ..)
  obtain ⟨c,rfl⟩:=List.length_eq_one_iff.1 hr
  cases q with
  | zero=>simp
  | succ q=>simpa using ih (fun row hm=>h row (List.mem_cons_of_mem _ hm)) q
theorem one_rows_len {rows:List (List AV)} (h:∀ row ∈ rows,row.length=1):rows.flatten.length=rows.length:=by
 induction rows with
 | nil=>rfl
 | cons r rs ih=>simp [h r (List.mem_cons_self ..),ih (fun row hm=>h row (List.mem_cons_of_mem _ hm))]; omega
theorem copy_run {g:G} {w:World} (hs:Sim g w st) {t e:TypeId} {by_:Nat} {ez:Value} [hu:Und P t (.slice e)] [hie:Inf P e 1 by_ ez] {ty:TypeId} {ta:Array TypeId} (hta:ta[0]?=some t) {o s lo len:Nat} {oty:TypeId} {rows rows2 rows':List (List AV)} {tk2:Tok} {ux uy:Value}
  (h1:R g w (.msl o 1 lo len) ux) (ho:st.obj o=some (.cells oty s rows)) (hlo:lo + len≤rows.length * s) (h2:R g w (.view 1 rows2 tk2) uy)
  (hl':rows'.length=rows.length) (hr':∀ row ∈ rows',row.length=s) (h1':∀ row ∈ rows',∀ c ∈ row,c.one=true)
  (hspec:∀ (i j:Nat) row c,rows'[i]?=some row→row[j]?=some c→(lo≤i * s + j∧i * s + j < lo + min rows2.length len∧(rows2.flatten.take (min rows2.length len))[i * s + j - lo]?=some c)∨((i * s + j < lo∨lo + min rows2.length len≤i * s + j)∧∃ row0,rows[i]?=some row0∧row0[j]?=some c)) :
  ∃ w',(Builtin.copy_ ta ty #[ux,uy]).run P w=.ok (.int .i64 (min rows2.length len:Nat)) w'∧Ext g w g w'∧Sim g w' (st.set o (.cells oty s rows')):=by
 obtain ⟨base,cap,f,rfl,hbn,hR2,hsz2,hone2,hcell,hone⟩:=src_of h2
 cases h1 with
 | msl _ _ _ _ cap1 b m hob hc1 hmx hfit =>
  have hfl:rows2.flatten.length=rows2.length:=one_rows_len hsz2
  have hcs:(rows2.flatten.take (min rows2.length len)).length=min rows2.length len:=by rw [List.length_take,hfl]; omega
  have hfv:(flatV f rows2.length 1).length=rows2.length:=by rw [flatV_length,Nat.mul_one]
  have hvs:((flatV f rows2.length 1).take (min rows2.length len)).length=min rows2.length len:=by rw [List.length_take,hfv]; omega
  obtain ⟨w',hst,he,hs'⟩:=hs.poke (P:=P) ho hob lo (rows2.flatten.take (min rows2.length len)) ((flatV f rows2.length 1).take (min rows2.length len)) (by rw [hcs,hvs])
   (fun u hu=>hone u (List.mem_of_mem_take hu)) (fun i c u hc hu=>by
    have hi:i < min rows2.length len:=by have:=(List.getElem?_eq_some_iff.1 hc).1; omega
    rw [List.getElem?_take_of_lt hi,one_rows hsz2] at hc
    rw [List.getElem?_take_of_lt hi] at hu
    obtain ⟨q1,rfl⟩:=flatV_get hu
    cases hr:rows2[i]? with
    | none=>rw [hr] at hc; cases hc
    | some row =>
     rw [hr] at hc
     have:=hR2 i 0 row c hr hc
     simpa [Nat.div_one,Nat.mod_one] using this) (by rw [hvs]; omega) rows' hl' hr' h1' (by rw [hcs]; exact hspec)
  refine ⟨w',?_,he,hs'⟩
  have hload:∀ a0,base=some a0→(loadCells a0 (min rows2.length len)).run P w=.ok ((flatV f rows2.length 1).take (min rows2.length len)).toArray w:=by
   intro a0 hb0
   have h:=run_loadCells_list (P:=P) (w:=w) a0 ((flatV f rows2.length 1).take (min rows2.length len)) (fun j v hj=>by
    have hj':j < min rows2.length len:=by have:=(List.getElem?_eq_some_iff.1 hj).1; omega
    rw [List.getElem?_take_of_lt hj'] at hj
    exact hcell a0 hb0 j v hj)
   rw [hvs] at h
   exact h
  have hsz:=run_size (P:=P) (t:=e) w
  cases base with
  | none =>
   obtain ⟨h0,_⟩:=hbn rfl
   subst h0
   simp only [List.take_nil,List.length_nil,Nat.zero_min,flatV,Nat.zero_mul,List.range_zero,List.map_nil] at hst
   simp [Builtin.copy_,hta,run_und (P:=P) (t:=t) w,Builtin.lenOf,hsz,Builtin.firstCells,goInt] at hst ⊢
   simp [storeCells] at hst ⊢
   exact hst
  | some a0 =>
   have:=hload a0 rfl
   simp only [Nat.mul_one] at *
   simp [Builtin.copy_,hta,run_und (P:=P) (t:=t) w,Builtin.lenOf,hsz,Builtin.firstCells,goInt,this,hst]
theorem cpm {t t2 e:TypeId} {by_:Nat} {ez:Value} [hu:Und P t (.slice e)] [hie:Inf P e 1 by_ ez] {o lo len:Nat} {oty:TypeId} {rows rows2:List (List AV)} {tk2:Tok} {k1:Nat}
  (hg:goes ops n T ⟨dd,.call ⟨.builtin .copy,#[x,y],#[t,t2]⟩,ty,pos,es,gd⟩=some d) (hx:ev st T x=some (.msl o 1 lo len)) (hy:ev st T y=some (.view 1 rows2 tk2)) (ho:st.obj o=some (.cells oty 1 rows)) (hlo:lo + len≤rows.length)
  (hk1:min rows2.length len=k1)
  (k:AOps P n ops rest K E ((d,.int .i64 (k1:Int))::T) (st.set o (.cells oty 1 (rows.take lo++rows2.take k1++rows.drop (lo + k1))))) :
  AOps P n ops (⟨dd,.call ⟨.builtin .copy,#[x,y],#[t,t2]⟩,ty,pos,es,gd⟩::rest) K E T st:=by
 obtain ⟨hw,hd,hok⟩:=goes_some hg
 simp only at hd
 subst hd hk1
 refine AOps.step hw hok _ _ (fun g w a hs hk=>?_) k
 have h1:=ev_R hs hk hx
 have h2:=ev_R hs hk hy
 generalize hux:a.eval x=ux at h1
 generalize huy:a.eval y=uy at h2
 obtain ⟨_,_,_,_,_,_,hsz2,hone2,_,_⟩:=src_of h2
 have hob:∃ b m,g.obj o=some (b,m):=by cases h1 with|msl _ _ _ _ _ b m hob=>exact ⟨b,m,hob⟩
 obtain ⟨b,m,hob⟩:=hob
 obtain ⟨_,⟨_,_,_,_,hl,h1',_⟩,_⟩:=hs.objOf ho hob
 have hlen:(rows.take lo++rows2.take (min rows2.length len)++rows.drop (lo + min rows2.length len)).length=rows.length:=by simp; omega
 have hmem:∀ row ∈ rows.take lo++rows2.take (min rows2.length len)++rows.drop (lo + min rows2.length len),row ∈ rows∨row ∈ rows2:=by
  intro row hm
  simp only [List.mem_append] at hm
  rcases hm with (h|h)|h
  ·exact .inl (List.mem_of_mem_take h)
  ·exact .inr (List.mem_of_mem_take h)
  ·exact .inl (List.mem_of_mem_drop h)
 obtain ⟨w',hr,he,hs'⟩:=copy_run (P:=P) hs (t:=t) (ty:=ty) (ta:=#[t,t2]) (by simp) h1 ho (by omega) h2 hlen (fun row hm=>(hmem row hm).elim (hl row) (hsz2 row)) (fun row hm=>(hmem row hm).elim (h1' row) (hone2 row))
  (fun i j row c hrow hcj=>by
   have hrl:row.length=1:=(hmem row (List.mem_of_getElem? hrow)).elim (hl row) (hsz2 row)
   have hj:j=0:=by have:=(List.getElem?_eq_some_iff.1 hcj).1; omega
   subst hj
   simp only [Nat.mul_one,Nat.add_zero]
   rw [List.append_assoc,List.getElem?_append] at hrow
   simp only [List.length_take] at hrow
   have hmin:min lo rows.length=lo:=by omega
   rw [hmin] at hrow
   by_cases q:i < lo
   ·rw [if_pos q,List.getElem?_take_of_lt q] at hrow
    exact .inr ⟨.inl q,row,hrow,hcj⟩
   ·rw [if_neg q,List.getElem?_append] at hrow
    simp only [List.length_take] at hrow
    by_cases q2:i - lo < min rows2.length len
    ·rw [if_pos (by omega),List.getElem?_take_of_lt q2] at hrow
     refine .inl ⟨by omega,by omega,?_⟩
     rw [List.getElem?_take_of_lt q2,one_rows hsz2,hrow]
     exact hcj
    ·rw [if_neg (by omega),List.getElem?_drop] at hrow
     refine .inr ⟨.inr (by omega),row,?_,hcj⟩
     rw [← hrow]
     congr 1
     omega)
 exact ⟨_,g,w',.inl (by simp [execOp,resolve,invoke,builtin,hux,huy,hr]),he,hs',.int .i64 _⟩
end
end Go.AM
namespace Go.AM
open Go.RowKit (Below)
class PureFn (P:Program) (f:FuncId) (args:List AV) (X:outParam AV):Prop where
 out:∀ st,ACalls P f args st (fun v st'=>v=X∧st'=st) (fun _ _=>False)
section
variable {P:Program} {n:Nat} {K:Post} {E:EPost} {T:Tmps} {st:St} {ops:Array Oper} {rest:List Oper}
variable {ty:TypeId} {pos:String} {es:Array Edge} {gd:Option (Nat × Bool)} {d:Tmp} {x y:Operand} {dd:Option Tmp}
theorem Tmps.tell {v v':AV} {t:Nat} (ht:T.get t=some v) (he:v=v') (h:AOps P n ops rest K E ((t,v')::T) st):AOps P n ops rest K E T st :=
 AOps.weaken (TLe.consE ht he (.refl _)) (.refl _) h
def gtmp (ops:Array Oper) (T:Tmps) (o:Oper):Option (Nat × Bool) :=
 match o.guard with
 | some (j,_)=>match (ops[j]?).bind (·.dst) with
  | some t=>match T.get t with
   | some (.bool b)=>some (t,b)
   | _=>none
  | none=>none
 | none=>none
theorem gtmp_some {o:Oper} {t:Nat} {b:Bool} (h:gtmp ops T o=some (t,b)):T.get t=some (.bool b):=by
 unfold gtmp at h
 split at h
 ·split at h
  ·split at h
   ·simp only [Option.some.injEq,Prod.mk.injEq] at h
    obtain ⟨rfl,rfl⟩:=h
    assumption
   ·cases h
  ·cases h
 ·cases h
theorem gB {o:Oper} {t:Nat} {b:Bool} (b':Bool) (h:gtmp ops T o=some (t,b)) (hb:b=b') (k:AOps P n ops (o::rest) K E ((t,.bool b')::T) st):AOps P n ops (o::rest) K E T st :=
 Tmps.tell (gtmp_some h) (by rw [hb]) k
theorem cT {c:Operand} {x y:Code} {b:Bool} (hc:ev st T c=some (.bool b)) (hb:b=true) (h:AWP P n x K E T st):AWP P n (.cond c x y) K E T st:=by
 subst hb; exact AWP.cond_true hc h
theorem cF {c:Operand} {x y:Code} {b:Bool} (hc:ev st T c=some (.bool b)) (hb:b=false) (h:AWP P n y K E T st):AWP P n (.cond c x y) K E T st:=by
 subst hb; exact AWP.cond_false hc h
end
theorem fits1_self:∀ {s:Sh} {c:AV},fit1 s c=true→avEq c c=true:=by
 intro s c h
 cases s <;> cases c <;> simp [fit1,avEq] at h ⊢
theorem cellsEq_self:∀ {ss:List Sh} {cs:List AV},fits ss cs=true→cellsEq cs cs=true
 | [],[],_=>rfl
 | s::ss,c::cs,h=>by
  simp only [fits,Bool.and_eq_true] at h
  simp only [cellsEq,Bool.and_eq_true]
  exact ⟨fits1_self h.1,cellsEq_self h.2⟩
 | [],_::_,h=>by cases h
 | _::_,[],h=>by cases h
end Go.AM
namespace Go.AM
open Go.RowKit (Below)
section
variable {P:Program} {n:Nat} {K:Post} {E:EPost} {T:Tmps} {st:St}
def EffJ (P:Program) (n:Nat) (I I':St→Prop) (T:Tmps) (o:Oper) (Q:AV→Prop):Prop :=
 ∀ st g w a (K':Act→World→Prop) (Q':Exit→Act→World→Prop),I st→Sim g w st→Known g w T a→a.tmps.size=n →
  (∀ rv g' w' v st1,Ext g w g' w'→Sim g' w' st1→R g' w' v rv→Q v→I' st1→K' (a.put o.dst rv) w')→o.wp P a w K' Q'
def StepS (P:Program) (n:Nat) (I:Nat→St→Prop) (Es:List Nat) (i:Nat) (ops:Array Oper) (T:Tmps) (o:Oper) (Q:AV→Prop):Prop :=
 (wantedA ops T o=some true∧(Es.contains i=false→∀ j,EffJ P n (I j) (I j) T o Q)∧∀ j,Es[j]?=some i→EffJ P n (I j) (I (j + 1)) T o Q)∨(wantedA ops T o=some false∧Q (.lit undef)∧Es.contains i=false)
def DRunS (P:Program) (n:Nat) (I:Nat→St→Prop) (Es:List Nat) (ops:Array Oper):Nat→List Oper→List (AV→Prop)→Tmps→(Tmps→St→Prop)→Prop
 | _,[],[],T,k=>∀ st,I Es.length st→k T st
 | i,o::r,Q::Qs,T,k=>(∃ u,Q u)∧dstOk o.dst n=true∧StepS P n I Es i ops (see ops o T) o Q∧∀ u,Q u→DRunS P n I Es ops (i + 1) r Qs (T.put o.dst u) k
 | _,_,_,_,_=>False
theorem DRunS.out {I:Nat→St→Prop} {Es:List Nat} {ops:Array Oper} {k:Tmps→St→Prop} (us:Nat→AV) (l:List Oper):∀ (r:List Oper) (Qs:List (AV→Prop)) (i0:Nat),(∀ (i:Nat) (o:Oper),r[i]?=some o→l[i0 + i]?=some o)→(∀ (i:Nat) (Q:AV→Prop),Qs[i]?=some Q→Q (us (i0 + i))) →
  DRunS P n I Es ops i0 r Qs (ents l us i0++T) k→Qs.length=r.length∧(∀ st,I Es.length st→k (ents l us (i0 + r.length)++T) st) ∧
   ∀ i o,r[i]?=some o→∃ Q,dstOk o.dst n=true∧Qs[i]?=some Q∧StepS P n I Es (i0 + i) ops (see ops o (ents l us (i0 + i)++T)) o Q
 | [],[],i0,_,_,h=>⟨rfl,h,fun i o ho=>by simp at ho⟩
 | [],_::_,_,_,_,h=>h.elim
 | _::_,[],_,_,_,h=>h.elim
 | o::r,Q::Qs,i0,hl,hq,h=>by
  obtain ⟨_,h2,h4,h5⟩:=h
  have h6:=h5 (us i0) (hq 0 Q rfl)
  have hl0:l[i0]?=some o:=by simpa using hl 0 o rfl
  have he:(ents l us i0++T).put o.dst (us i0)=ents l us (i0 + 1)++T:=by
   rw [ents,hl0]
   simp only [Option.bind_some]
   cases o.dst <;> rfl
  rw [he] at h6
  obtain ⟨a1,a2,a3⟩:=DRunS.out us l r Qs (i0 + 1) (fun i o' ho'=>by have:=hl (i + 1) o' (by simpa using ho'); rwa [show i0 + (i + 1)=i0 + 1 + i by omega] at this) (fun i Q' hQ'=>by have:=hq (i + 1) Q' (by simpa using hQ'); rwa [show i0 + (i + 1)=i0 + 1 + i by omega] at this) h6
  refine ⟨by simp [a1],by rw [List.length_cons,show i0 + (r.length + 1)=i0 + 1 + r.length by omega]; exact a2,fun i o' ho'=>?_⟩
  cases i with
  | zero =>
   simp only [List.getElem?_cons_zero,Option.some.injEq] at ho'
   subst ho'
   exact ⟨Q,h2,rfl,h4⟩
  | succ i =>
   obtain ⟨Q',b1,b2,b3⟩:=a3 i o' (by simpa using ho')
   exact ⟨Q',b1,by simpa using b2,by rwa [show i0 + 1 + i=i0 + (i + 1) by omega] at b3⟩
theorem DRunS.fits {I:Nat→St→Prop} {Es:List Nat} {ops:Array Oper} {k:Tmps→St→Prop}:∀ (r:List Oper) (Qs:List (AV→Prop)) (i0:Nat) (T:Tmps),DRunS P n I Es ops i0 r Qs T k→∀ (i:Nat) (Q:AV→Prop),Qs[i]?=some Q→∃ u,Q u
 | [],[],_,_,_,i,Q,h=>by simp at h
 | [],_::_,_,_,h,_,_,_=>h.elim
 | _::_,[],_,_,h,_,_,_=>h.elim
 | o::r,Q0::Qs,i0,T,h,i,Q,hq=>by
  obtain ⟨⟨u,hu⟩,h2,h4,h5⟩:=h
  cases i with
  | zero=>simp at hq; subst hq; exact ⟨u,hu⟩
  | succ i=>exact DRunS.fits r Qs _ _ (h5 u hu) i Q (by simpa using hq)
end
end Go.AM
namespace Go.AM
open Go.RowKit (Below)
section
variable {P:Program} {n:Nat} {K:Post} {E:EPost} {T:Tmps} {st base:St} {ops:Array Oper} {sts:List St} {Es:List Nat}
theorem AOps.singleN {o:Oper} {v:St→Prop} (h:AOps P n ops [o] (fun T' st'=>T'=T∧v st') (fun _ _ _=>False) T st) (hw:wantedA ops T o=some true)
  {g:G} {w:World} {a:Act} (hs:Sim g w st) (hk:Known g w T a) (K':Act→World→Prop) (Q':Exit→Act→World→Prop)
  (hK:∀ rv g' w' st',Ext g w g' w'→Sim g' w' st'→v st'→K' (a.put o.dst rv) w') (hn:a.tmps.size=n):o.wp P a w K' Q':=by
 have h1:=h g w a hs hk hn
 unfold wpList at h1
 rw [wanted_of hk hw,if_pos rfl] at h1
 rcases h1 with h1|⟨_,h1⟩
 ·refine wp_put h1 (fun a' w' hda hq ⟨rv,hrv⟩=>?_) (fun a' w' hq=>hq.2.1) (fun e a' w' hne hq=>?_)
  ·obtain ⟨h2,h3,g',T',st',h4,h5,h6,hT,hv⟩:=hq
   subst hrv
   exact hK rv g' w' st' h4 h5 hv
  ·obtain ⟨_,_,g',T',st',_,_,_,h6⟩:=hq
   cases e with
   | normal=>exact absurd rfl hne
   | exit id=>exact h6.elim
   | ret=>exact h6.elim
   | panic ch=>obtain ⟨_,_,_,_,h7⟩:=h6; exact h7.elim
   | goto l=>exact h6.elim
   | outgrown=>exact h6.elim
 ·exact absurd h1 LetsOut.not_QOf
theorem ev_glob {s s':St} (h:s.glob=s'.glob) (T:Tmps) (x:Operand):ev s T x=ev s' T x:=by
 cases x <;> simp [ev,St.row,h]
theorem valA_glob {s s':St} (h:s.glob=s'.glob) (T:Tmps) (o:Op):valA s T o=valA s' T o:=by
 unfold valA
 simp only [ev_glob h]
theorem step1_glob {s s':St} (h:s.glob=s'.glob) (T:Tmps) (o:Oper):step1 ops n s T o=step1 ops n s' T o:=by
 unfold step1
 rw [valA_glob h]
end
end Go.AM
namespace Go.AM
open Go.RowKit (Below)
end Go.AM
namespace Go.AM
open Go.RowKit (Below)
variable {P:Program} {n:Nat} {K:Post} {E:EPost} {T:Tmps} {st:St}
end Go.AM
namespace Go.AM
open Go.RowKit (Below shut_bool)
open Go.ChangeShapes Go.WideShapes Go.ChangeAt

def ArgTy (P:Program) (t:TypeId) (a:AV):Prop:=∃ fuel cs,HasTy P fuel t cs∧((∃ td,P.underlying t=some td∧aggD td=true∧a=.agg cs)∨(∃ td,P.underlying t=some td∧aggD td=false∧cs=[a]))

section
variable {H:Type} {enc:TypeId × Value→H} {P:Program}

theorem HasTy.one {fuel:Nat} {t:TypeId} {cs:List AV} (h:HasTy P fuel t cs) {td:TypeDesc} (hu:P.underlying t=some td) (ha:aggD td=false):∃ a,cs=[a]∧a.cells=[a]:=by
 cases fuel with
 | zero=>exact h.elim
 | succ fuel =>
  unfold HasTy at h
  rw [hu] at h
  cases td <;> simp only [aggD,reduceCtorEq] at h ha
  case bool=>obtain ⟨b,rfl⟩:=h; exact ⟨_,rfl,rfl⟩
  case int k=>obtain ⟨x,rfl,_⟩:=h; exact ⟨_,rfl,rfl⟩
  case string=>obtain ⟨l,rfl,_⟩:=h; exact ⟨_,rfl,rfl⟩
  case slice e=>obtain ⟨rows,rfl,_⟩:=h; exact ⟨_,rfl,rfl⟩

theorem arg_R {S:List TypeId} (hS:∀ t ∈ S,kindOk P S t=true) {W:World} {t:TypeId} {v:Value} {d:DataW H} {p:List MemPlace} {base:Nat} (ht:t ∈ S) (hok:Value.okWide P W .any base t v)
  (h:DataW.Trod enc P W 0 (fun _=>true) true t v d p):∃ a,R (G0 W) W a v∧ArgTy P t a:=by
 obtain ⟨fuel,hf⟩:=h
 obtain ⟨avs,h1,h2⟩:=trod_R hS (fun _=>rfl) fuel t _ d p ht hf
 have hk:=hS t ht
 cases hu:P.underlying t with
 | none=>unfold kindOk at hk; rw [hu] at hk; cases hk
 | some td =>
  cases ha:aggD td with
  | true =>
   have hv:∃ cs,v=.agg cs:=by
    unfold Value.okWide at hok
    rw [hu] at hok
    cases td <;> simp only [aggD,Bool.false_eq_true] at ha hok
    ·obtain ⟨cs,h,_⟩:=hok; exact ⟨cs,h⟩
    ·obtain ⟨cs,h,_⟩:=hok; exact ⟨cs,h⟩
   obtain ⟨cs,rfl⟩:=hv
   refine ⟨.agg avs,.agg avs cs (by rw [h2.len]; rfl) h2.one (fun i c v hc hv=>h2.rel i c v hc (by simpa [Value.cells] using hv)),fuel,avs,h1,.inl ⟨td,hu,ha,rfl⟩⟩
  | false =>
   obtain ⟨a,rfl,hc⟩:=h1.one hu ha
   have hl:=h2.len
   have hv:v.cells=#[v]:=by
    cases v <;> first|rfl|skip
    rename_i cs
    exfalso
    unfold Value.okWide at hok
    rw [hu] at hok
    unfold Cell.okWide Cell.ok at hok
    cases td <;> simp only [aggD,reduceCtorEq] at ha hok <;> (try (rw [hu] at hok; simp at hok)) <;> (try (simp [hu] at hok))
   refine ⟨a,h2.rel 0 a v rfl (by rw [hv]; rfl),fuel,[a],h1,.inr ⟨td,hu,ha,rfl⟩⟩

theorem args_R {S:List TypeId} (hS:∀ t ∈ S,kindOk P S t=true) {W:World} {base:Nat}:∀ (ts:List TypeId) (vs:List Value) (ds:List (DataW H)) (p:List MemPlace),(∀ t ∈ ts,t ∈ S)→(∀ (j:Nat) t v,ts[j]?=some t→vs[j]?=some v→Value.okWide P W .any base t v) →
  DataW.TrodAll enc P W 0 (fun _=>true) true ts vs ds p→∃ avs:List AV,avs.length=vs.length∧ts.length=vs.length∧ds.length=ts.length∧(∀ (i:Nat) a v,avs[i]?=some a→vs[i]?=some v→R (G0 W) W a v)∧∀ (i:Nat) t a,ts[i]?=some t→avs[i]?=some a→ArgTy P t a
 | [],[],[],p,_,_,_=>⟨[],rfl,rfl,rfl,fun i a v h=>by simp at h,fun i t a h=>by simp at h⟩
 | t::ts,v::vs,d::ds,p,hts,hok,h=>by
  obtain ⟨p1,q1,h1,h2,_⟩:=h
  obtain ⟨a,ha,hta⟩:=arg_R hS (hts t (by simp)) (hok 0 t v rfl rfl) h1
  obtain ⟨avs,l1,l2,l3,hr,ht⟩:=args_R hS ts vs ds q1 (fun t ht=>hts t (List.mem_cons_of_mem _ ht)) (fun j t v h1 h2=>hok (j + 1) t v (by simpa using h1) (by simpa using h2)) h2
  refine ⟨a::avs,by simp [l1],by simp [l2],by simp [l3],fun i a' v' h1 h2=>?_,fun i t' a' h1 h2=>?_⟩
  ·cases i with
   | zero=>simp at h1 h2; subst h1; subst h2; exact ha
   | succ i=>exact hr i a' v' (by simpa using h1) (by simpa using h2)
  ·cases i with
   | zero=>simp at h1 h2; subst h1; subst h2; exact hta
   | succ i=>exact ht i t' a' (by simpa using h1) (by simpa using h2)
 | [],_::_,_,_,_,_,h=>h.elim
 | [],[],_::_,_,_,_,h=>h.elim
 | _::_,[],_,_,_,_,h=>h.elim
 | _::_,_::_,[],_,_,_,h=>h.elim

theorem TrodAll.below (hl:laidOutB P=true) {W W':World} (hb:Below W.heap.size W W'):∀ (ts:List TypeId) (vs:List Value) (ds:List (DataW H)) (p:List MemPlace),(∀ t ∈ ts,P.readableRec t=true∧t < P.types.size)→(∀ x ∈ p,x.block < W.heap.size) →
  DataW.TrodAll enc P W 0 (fun _=>true) true ts vs ds p→DataW.TrodAll enc P W' 0 (fun b=>decide (b < W.heap.size)) true ts vs ds p
 | [],[],[],p,_,_,h=>h
 | t::ts,v::vs,d::ds,p,hts,hlt,h=>by
  obtain ⟨p1,q1,h1,h2,rfl⟩:=h
  exact ⟨p1,q1,Below.trod hl (hts t (by simp)).1 (hts t (by simp)).2 h1 hb (fun x hx=>hlt x (List.mem_append_left _ hx)),TrodAll.below hl hb ts vs ds q1 (fun t ht=>hts t (List.mem_cons_of_mem _ ht)) (fun x hx=>hlt x (List.mem_append_right _ hx)) h2,rfl⟩
 | [],_::_,_,_,_,_,h=>h.elim
 | [],[],_::_,_,_,_,h=>h.elim
 | _::_,[],_,_,_,_,h=>h.elim
 | _::_,_::_,[],_,_,_,h=>h.elim

theorem law_contract {s:ChangeSpec} {fn:Func} {f:FuncId} {tb:TypeId} {S:List TypeId} (globs:List (Nat × List AV)) (hl:laidOutB P=true) (hS:∀ t ∈ S,kindOk P S t=true) (hparams:∀ t ∈ fn.params.toList,t ∈ S∧P.readableRec t=true∧t < P.types.size)
  (hvars:s.vars=[]) (hfn:∀ ds:List (DataW H),ds.length=fn.params.size→s.fn H ds={ results:=[.lit (.bool true)],args:=ds }) (hres:fn.resultTypes=#[tb]) (hb:P.underlying tb=some .bool)
  (W:World) (base:Nat) (args:Array Value) (ds gs:List (DataW H)) (before:List MemPlace)
  (hval:∀ (j:Nat) t v,fn.params[j]?=some t→args[j]?=some v→Value.okWide P W .any base t v)
  (hW:DataW.Whole enc P fn.params.toList s.vars false W args.toList ds gs before)
  (hglob:∀ gi row,(gi,row) ∈ globs→GlobAt (G0 W) W gi row)
  (walk:∀ avs:List AV,avs.length=fn.params.size→(∀ (i:Nat) t a,fn.params[i]?=some t→avs[i]?=some a→ArgTy P t a) →
   ACalls P f avs { obj:=fun _=>none,tok:=fun _=>false,glob:=globs } (fun v _=>v=.bool true) (fun _ _=>False)) :
  Calls P f args W fun e W'=>∃ v,e=.returned v∧s.post enc P fn false true false false W args v W':=by
 have hW':=hW
 obtain ⟨p,q,hA,hV,rfl,_,_⟩:=hW
 obtain ⟨avs,l1,l2,l3,hR,hT⟩:=args_R hS fn.params.toList args.toList ds p (fun t ht=>(hparams t ht).1) (fun j t v h1 h2=>hval j t v (by simpa using h1) (by simpa using h2)) hA
 rw [hvars] at hV
 obtain ⟨rfl,rfl⟩:=trodVars_none hV
 have hlen:avs.length=fn.params.size:=by rw [l1,← l2]; simp
 have hcall:=walk avs hlen (fun i t a h1 h2=>hT i t a (by simpa using h1) h2) (G0 W) W args (Sim0 W globs hglob) (by rw [l1]; simp) (fun i c v h1 h2=>hR i c v h1 (by simpa using h2))
 refine hcall.mono fun e W' ⟨g',st',he,_,hq⟩=>?_
 cases e with
 | panicked ch=>obtain ⟨_,_,_,_,h⟩:=hq; exact h.elim
 | outgrown=>exact hq.elim
 | returned rv =>
  obtain ⟨v,hRv,rfl⟩:=hq
  have hrv:rv=.bool true:=by cases hRv; rfl
  subst hrv
  have hbelow:Below W.heap.size W W':=he.below
  have hsp:=hfn (ds++[]) (by simp; rw [l3]; simp)
  refine ⟨_,rfl,ds,[],p++[],[],p++[],[],hW',?_,?_,?_,hbelow.frame _,fun h=>by cases h⟩
  ·rw [hsp,hres]
   exact trodAll_cons_mk (shut_bool hb true) trodAll_mk0
  ·rw [hsp,List.append_nil,List.append_nil]
   exact TrodAll.below hl hbelow _ _ _ _ (fun t ht=>(hparams t ht).2) (fun x hx=>hW'.lt x (by simpa using hx)) hA
  ·rw [hsp,hvars]
   rfl

end
end Go.AM
namespace Go.AM
open Go.RowKit (Below shut_bool)
open Go.ChangeShapes Go.WideShapes Go.ChangeAt


end Go.AM
namespace Go.AM

variable {P:Program} {t:TypeId} {a:AV}

theorem arg_one {td:TypeDesc} (hu:P.underlying t=some td) (ha:aggD td=false) (h:ArgTy P t a):∃ fuel,HasTy P fuel t [a]:=by
 obtain ⟨fuel,cs,h1,h2⟩:=h
 rcases h2 with ⟨td',hu',ha',_⟩|⟨_,_,_,rfl⟩
 ·rw [hu] at hu'
  cases hu'
  rw [ha] at ha'
  cases ha'
 ·exact ⟨fuel,h1⟩

theorem arg_ints {e:TypeId} {k:IntKind} (hu:P.underlying t=some (.slice e)) (he:P.underlying e=some (.int k)) (hc:P.cellsOf e=1) (h:ArgTy P t a) :
  ∃ l:List Int,a=.view 1 (l.map fun x=>[.int k x]) .shared∧l.length≤maxLen∧∀ x ∈ l,(Lit.int k x).wf=true:=by
 obtain ⟨fuel,h1⟩:=arg_one hu rfl h
 cases fuel with
 | zero=>exact h1.elim
 | succ fuel =>
  unfold HasTy at h1
  rw [hu] at h1
  obtain ⟨rows,hr,hl,hrow⟩:=h1
  rw [hc] at hr
  cases hr
  have:∀ rows:List (List AV),(∀ row ∈ rows,HasTy P fuel e row)→∃ l:List Int,rows=l.map (fun x=>[.int k x])∧∀ x ∈ l,(Lit.int k x).wf=true:=by
   intro rows
   induction rows with
   | nil=>exact fun _=>⟨[],rfl,fun x hx=>by cases hx⟩
   | cons row rows ih =>
    intro hrow
    obtain ⟨l,rfl,hl⟩:=ih fun r hr=>hrow r (List.mem_cons_of_mem _ hr)
    have h0:=hrow row (by simp)
    cases fuel with
    | zero=>exact h0.elim
    | succ fuel =>
     unfold HasTy at h0
     rw [he] at h0
     obtain ⟨x,rfl,hx⟩:=h0
     refine ⟨x::l,rfl,fun y hy=>?_⟩
     rcases List.mem_cons.1 hy with rfl|hy
     ·exact hx
     ·exact hl y hy
  obtain ⟨l,rfl,hl2⟩:=this rows hrow
  exact ⟨l,rfl,by simpa using hl,hl2⟩

end Go.AM
namespace Go.AM
open Go.RowKit (Below shut_bool)
open Go.ChangeShapes Go.WideShapes Go.ChangeAt

def Small (P:Program) (t:TypeId):AV→Prop
 | .str l=>l.length≤140737488351232
 | .view _ rows _=>match P.underlying t with
  | some (.slice e)=>rows.length * P.bytesOf e≤140737488351232
  | _=>True
 | _=>True

section
variable {H:Type} {enc:TypeId × Value→H} {P:Program}

end
end Go.AM
namespace Go.AM
def FitW1:Sh→AV→Prop
 | .kI k,c=>∃ x,c=.int k x∧(Lit.int k x).wf=true
 | .kB,c=>∃ b,c=.bool b
 | .kS,c=>∃ l:List UInt8,c=.str l∧l.length≤maxLen
def FitsW:List Sh→List AV→Prop
 | [],[]=>True
 | s::ss,c::cs=>FitW1 s c∧FitsW ss cs
 | _,_=>False
theorem FitsW.append:∀ {s1 s2:List Sh} {c1 c2:List AV},FitsW s1 c1→FitsW s2 c2→FitsW (s1++s2) (c1++c2)
 | [],_,[],_,_,h2=>h2
 | _::_,_,_::_,_,h1,h2=>⟨h1.1,h1.2.append h2⟩
 | [],_,_::_,_,h1,_=>h1.elim
 | _::_,_,[],_,h1,_=>h1.elim
theorem flatFields_fits {P:Program} {fuel:Nat} {F:TypeId→Option (List Sh)} (hF:∀ t sh cs,F t=some sh→P.cellsOf t=sh.length→HasTy P fuel t cs→cs.length=sh.length→FitsW sh cs) {cs:List AV} :
  ∀ (fs:List Field) (off:Nat) (sh:List Sh),flatFields P F off fs=some sh→(∀ f ∈ fs,HasTy P fuel f.type ((cs.drop f.offset).take (P.cellsOf f.type)))→cs.length=off + sh.length→FitsW sh (cs.drop off)
 | [],off,sh,h,_,hl=>by
  simp only [flatFields,Option.some.injEq] at h
  subst h
  rw [List.drop_eq_nil_of_le (by simp at hl; omega)]
  trivial
 | f::fs,off,sh,h,hf,hl=>by
  unfold flatFields at h
  cases h1:F f.type with
  | none=>simp [h1] at h
  | some s1 =>
   cases h2:(P.info? f.type).map (·.size) with
   | none=>simp [h1,h2] at h
   | some sz =>
    simp only [h1,h2] at h
    cases hc : Nat.beq f.offset off && Nat.beq sz s1.length && f.name != "_" with
    | false=>rw [hc] at h; cases h
    | true =>
     rw [hc,cond_true] at h
     simp only [Bool.and_eq_true] at hc
     have e1:=Nat.eq_of_beq_eq_true hc.1.1
     have e2:=Nat.eq_of_beq_eq_true hc.1.2
     have hcell:P.cellsOf f.type=s1.length:=by simp [Program.cellsOf,h2,e2]
     cases h3:flatFields P F (off + s1.length) fs with
     | none=>rw [h3] at h; cases h
     | some s2 =>
      rw [h3] at h
      simp only [Option.map_some,Option.some.injEq] at h
      subst h
      have a1:=hf f (List.mem_cons_self ..)
      rw [e1,hcell] at a1
      simp only [List.length_append] at hl
      have a2:=hF _ _ _ h1 hcell a1 (by simp; omega)
      have a3:=flatFields_fits hF fs (off + s1.length) s2 h3 (fun f hm=>hf f (List.mem_cons_of_mem _ hm)) (by omega)
      have:=a2.append a3
      rwa [← List.drop_drop,List.take_append_drop] at this
theorem hasTy_flat {P:Program}:∀ (d fuel:Nat) (t:TypeId) (sh:List Sh) (cs:List AV),flatTy P d t=some sh→P.cellsOf t=sh.length→HasTy P fuel t cs→cs.length=sh.length→FitsW sh cs
 | 0,_,_,_,_,h,_,_,_=>by cases h
 | d + 1,0,_,_,_,_,_,h,_=>h.elim
 | d + 1,fuel + 1,t,sh,cs,h,hc,hty,hl=>by
  unfold flatTy at h
  unfold HasTy at hty
  cases hu:P.underlying t with
  | none=>simp [hu] at h
  | some td =>
   cases td with
   | int k=>simp only [hu,Option.some.injEq] at h hty; obtain ⟨x,rfl,hx⟩:=hty; subst h; exact ⟨⟨x,rfl,hx⟩,trivial⟩
   | bool=>simp only [hu,Option.some.injEq] at h hty; obtain ⟨b,rfl⟩:=hty; subst h; exact ⟨⟨b,rfl⟩,trivial⟩
   | string=>simp only [hu,Option.some.injEq] at h hty; obtain ⟨l,rfl,hx⟩:=hty; subst h; exact ⟨⟨l,rfl,hx⟩,trivial⟩
   | struct fs =>
    simp only [hu] at h hty
    cases hs:P.stoodInHeld t with
    | true=>rw [hs] at h; cases h
    | false =>
     rw [hs,cond_false] at h
     have:=flatFields_fits (P:=P) (fuel:=fuel) (fun t sh cs h1 h2 h3 h4=>hasTy_flat d fuel t sh cs h1 h2 h3 h4) fs.toList 0 sh h hty.2 (by omega)
     simpa using this
   | array m e =>
    simp only [hu] at h hty
    cases h1:flatTy P d e with
    | none=>simp [h1] at h
    | some s1 =>
     cases h2:(P.info? e).map (·.size) with
     | none=>simp [h1,h2] at h
     | some sz =>
      simp only [h1,h2] at h
      cases hb:Nat.beq sz s1.length with
      | false=>rw [hb] at h; cases h
      | true =>
       rw [hb,cond_true,Option.some.injEq] at h
       subst h
       have e2:=Nat.eq_of_beq_eq_true hb
       have hcell:P.cellsOf e=s1.length:=by simp [Program.cellsOf,h2,e2]
       rw [hcell] at hty
       have key:∀ (j:Nat) (cs:List AV),cs.length=j * s1.length→(∀ i,i < j→HasTy P fuel e ((cs.drop (i * s1.length)).take s1.length))→FitsW (List.replicate j s1).flatten cs:=by
        intro j
        induction j with
        | zero=>intro cs hl _; simp at hl; subst hl; trivial
        | succ j ih =>
         intro cs hl hi
         rw [List.replicate_succ,List.flatten_cons]
         rw [Nat.add_mul,Nat.one_mul] at hl
         have a1:=hasTy_flat d fuel e s1 _ h1 hcell (by simpa using hi 0 (by omega)) (by simp; omega)
         have a2:=ih (cs.drop s1.length) (by simp; omega) (fun i hij=>by
          have:=hi (i + 1) (by omega)
          rw [List.drop_drop]
          rwa [show s1.length + i * s1.length=(i + 1) * s1.length by rw [Nat.add_mul,Nat.one_mul,Nat.add_comm]])
         have:=a1.append a2
         rwa [List.take_append_drop] at this
       refine key m cs ?_ hty.2
       rw [hl,List.length_flatten]
       simp
   | _=>simp [hu] at h
section
variable {P:Program} {n:Nat} {K:Post} {E:EPost} {T:Tmps} {st:St} {ops:Array Oper} {rest:List Oper}
variable {ty ty2:TypeId} {pos pos2:String} {es es2:Array Edge} {gd:Option (Nat × Bool)} {d:Tmp} {y:Operand} {dd:Option Tmp}
theorem alN {t:TypeId} {sz by_:Nat} {z:Value} [hi:Inf P t sz by_ z] {v:AV} (hg:goes ops n T ⟨dd,.alloc t,ty,pos,es,gd⟩=some d) (hz:zok sz z=true) (hy:∀ o,ev (st.set o (.cells t sz [zrow z])) ((d,.cptr o sz 0 0)::T) y=some v)
  (hv:storable v=true) (hsz:Nat.beq v.cells.length sz=true)
  (k:AOps P n ops rest K E ((d,.eptr sz [v.cells] 0 0)::T) st) :
  AOps P n ops (⟨dd,.alloc t,ty,pos,es,gd⟩::⟨none,.store t (.tmp d) y,ty2,pos2,es2,none⟩::rest) K E T st:=by
 refine al hg hz fun o ho=>?_
 have hzl:=(zok_spec hz).2.2.1
 refine soN d rfl ?_ (hy o) hv hsz ?_ ho ?_
 ·simp [Tmps.get_cons]
 ·rw [Nat.eq_of_beq_eq_true hsz,hzl]; exact nbeq_self sz
 ·refine AOps.weaken ?_ (.refl _) k
  intro i v' h
  rw [Tmps.get_cons] at h
  by_cases e:d=i
  ·subst e
   rw [if_pos rfl] at h
   cases h
   exact ⟨_,by rw [Tmps.get_cons,if_pos rfl],.refl _⟩
  ·rw [if_neg e] at h
   exact ⟨v',by rw [Tmps.get_cons,if_neg e,Tmps.get_cons,if_neg e]; exact h,.refl _⟩
end
theorem fits_ints:∀ (n:Nat) {cs:List AV},FitsW (List.replicate n (.kI .i64)) cs→∃ l:List Int,cs=l.map (AV.int .i64)∧l.length=n∧∀ x ∈ l,(Lit.int .i64 x).wf=true
 | 0,[],_=>⟨[],rfl,rfl,fun x h=>by cases h⟩
 | 0,_::_,h=>h.elim
 | n + 1,[],h=>h.elim
 | n + 1,c::cs,h=>by
  obtain ⟨⟨x,rfl,hx⟩,h2⟩:=h
  obtain ⟨l,rfl,hl,hw⟩:=fits_ints n h2
  exact ⟨x::l,rfl,by simp [hl],fun y hy=>by rcases List.mem_cons.1 hy with h|h; exact h ▸ hx; exact hw y h⟩
theorem arg_flat {P:Program} {t:TypeId} {a:AV} {td:TypeDesc} {d:Nat} {sh:List Sh} (hu:P.underlying t=some td) (ha:aggD td=true) (hc:P.cellsOf t=sh.length) (hf:flatTy P d t=some sh) (h:ArgTy P t a):∃ cs,a=.agg cs∧FitsW sh cs:=by
 obtain ⟨fuel,cs,hty,h⟩:=h
 have hlen:cs.length=P.cellsOf t:=by
  cases fuel with
  | zero=>exact hty.elim
  | succ fuel =>
   unfold HasTy at hty
   rw [hu] at hty
   cases td <;> simp only [aggD] at ha <;> first|exact hty.1|cases ha
 rcases h with ⟨td',h1,_,rfl⟩|⟨td',h1,h2,_⟩
 ·exact ⟨cs,rfl,hasTy_flat d fuel t sh cs hf hc hty (by rw [hlen,hc])⟩
 ·rw [hu] at h1
  cases h1
  rw [ha] at h2
  cases h2
end Go.AM
namespace Go.AM
section
variable {P:Program} {n:Nat} {K:Post} {E:EPost} {T:Tmps} {st:St} {ops:Array Oper} {rest:List Oper}
variable {ty ty2:TypeId} {pos pos2:String} {es es2:Array Edge} {gd:Option (Nat × Bool)} {d:Tmp} {x y:Operand} {dd:Option Tmp}
theorem ZA {o:Oper} {d:Tmp} {v:AV} (h:step1 ops n st T o=some (d,v):=by exact rfl) (z:AOps P n ops rest K E ((d,v)::T) st):AOps P n ops (o::rest) K E T st:=sm h z
theorem ZB {o:Oper} {d:Tmp} (h:step0 ops n T o=some d:=by exact rfl) (z:AOps P n ops rest K E ((d,.lit undef)::T) st):AOps P n ops (o::rest) K E T st:=uw h z
theorem ZC {t ft:TypeId} {f off:Nat} [hf:Fld P t f off ft] {sz by_:Nat} {zz:Value} [hi:Inf P ft (sz + 1) by_ zz] {q:AV} (hg:goes ops n T ⟨dd,.fieldAddr t x f,ty,pos,es,gd⟩=some d:=by exact rfl)
  (hx:ptrA off (ev st T x)=some q:=by exact rfl)
  (z:AOps P n ops rest K E ((d,q)::T) st):AOps P n ops (⟨dd,.fieldAddr t x f,ty,pos,es,gd⟩::rest) K E T st:=fa hg hx z
theorem ZD {t:TypeId} {td:TypeDesc} [hu:Und P t td] {sz by_:Nat} {zz:Value} [hi:Inf P t sz by_ zz] {s:Nat} {rows:List (List AV)} {i:Nat} {row:List AV}
  (hg:goes ops n T ⟨dd,.load t x,ty,pos,es,gd⟩=some d:=by exact rfl) (ha:aggD td=true:=by exact rfl) (hx:ev st T x=some (.eptr s rows i 0):=by exact rfl) (hr:rows[i]?=some row:=by first|exact rfl|assumption) (hl:Nat.beq sz row.length=true:=by exact rfl)
  (z:AOps P n ops rest K E ((d,.agg row)::T) st):AOps P n ops (⟨dd,.load t x,ty,pos,es,gd⟩::rest) K E T st:=leW hg ha hx hr hl z
theorem ZF {t:TypeId} {td:TypeDesc} [hu:Und P t td] {sz by_:Nat} {zz:Value} [hi:Inf P t sz by_ zz] {s:Nat} {rows:List (List AV)} {i off:Nat} {row:List AV} {v:AV}
  (hg:goes ops n T ⟨dd,.load t x,ty,pos,es,gd⟩=some d:=by exact rfl) (hx:ev st T x=some (.eptr s rows i off):=by exact rfl) (hr:rows[i]?=some row:=by first|exact rfl|assumption) (hv:sel (aggD td) sz row off=some v:=by exact rfl)
  (z:AOps P n ops rest K E ((d,v)::T) st):AOps P n ops (⟨dd,.load t x,ty,pos,es,gd⟩::rest) K E T st:=le hg hx hr hv z
theorem ZH {t:TypeId} {td:TypeDesc} [hu:Und P t td] {sz by_:Nat} {zz:Value} [hi:Inf P t sz by_ zz] {o s:Nat} {rows:List (List AV)} {i off:Nat} {row:List AV} {v:AV} {oty:TypeId}
  (hg:goes ops n T ⟨dd,.load t x,ty,pos,es,gd⟩=some d:=by exact rfl) (hx:ev st T x=some (.cptr o s i off):=by exact rfl) (ho:st.obj o=some (.cells oty s rows):=by first|exact St.obj_set _ _ _|assumption|(rename_i hle; exact hle.obj _ _ (St.obj_set _ _ _))|(rename_i hle; exact hle.obj _ _ (by assumption))) (hr:rows[i]?=some row:=by first|exact rfl|assumption) (hv:sel (aggD td) sz row off=some v:=by exact rfl)
  (z:AOps P n ops rest K E ((d,v)::T) st):AOps P n ops (⟨dd,.load t x,ty,pos,es,gd⟩::rest) K E T st:=lc hg hx ho hr hv z
theorem ZJ {t u:TypeId} {e:TypeId} [hu:Und P t (.slice e)] {sz:Nat} {rows:List (List AV)} {tk:Tok}
  (hg:goes ops n T ⟨dd,.call ⟨.builtin .len,#[x],#[t]⟩,u,pos,es,gd⟩=some d:=by exact rfl) (hx:ev st T x=some (.view sz rows tk):=by exact rfl)
  (z:AOps P n ops rest K E ((d,.int .i64 rows.length)::T) st):AOps P n ops (⟨dd,.call ⟨.builtin .len,#[x],#[t]⟩,u,pos,es,gd⟩::rest) K E T st:=lnv hg hx z
theorem ZK {t u:TypeId} {e:TypeId} [hu:Und P t (.slice e)] {o sz lo len:Nat}
  (hg:goes ops n T ⟨dd,.call ⟨.builtin .len,#[x],#[t]⟩,u,pos,es,gd⟩=some d:=by exact rfl) (hx:ev st T x=some (.msl o sz lo len):=by exact rfl)
  (z:AOps P n ops rest K E ((d,.int .i64 len)::T) st):AOps P n ops (⟨dd,.call ⟨.builtin .len,#[x],#[t]⟩,u,pos,es,gd⟩::rest) K E T st:=lnm hg hx z
theorem ZM {t e:TypeId} [hu:Und P t (.slice e)] {sz by_:Nat} {zz:Value} [hi:Inf P e sz by_ zz] {rows:List (List AV)} {tk:Tok} {k:IntKind} {i:Int} {m:Nat}
  (hg:goes ops n T ⟨dd,.indexAddr t x y,ty,pos,es,gd⟩=some d:=by exact rfl) (hx:ev st T x=some (.view sz rows tk):=by exact rfl) (hy:ev st T y=some (.int k i):=by exact rfl)
  (hm:i=m:=by first|exact rfl|exact (rfl:(0:Int)=((0:Nat):Int))|exact (rfl:(1:Int)=((1:Nat):Int))|exact (rfl:(2:Int)=((2:Nat):Int))|exact (rfl:(3:Int)=((3:Nat):Int))|exact (rfl:(4:Int)=((4:Nat):Int))|exact (rfl:(5:Int)=((5:Nat):Int))|exact (rfl:(6:Int)=((6:Nat):Int)))
  (hlt:m < rows.length:=by first|assumption|exact of_decide_eq_true rfl)
  (z:AOps P n ops rest K E ((d,.eptr sz rows m 0)::T) st):AOps P n ops (⟨dd,.indexAddr t x y,ty,pos,es,gd⟩::rest) K E T st:=ix hg hx hy hm hlt z
theorem ZN {t e:TypeId} [hu:Und P t (.slice e)] {sz by_:Nat} {zz:Value} [hi:Inf P e sz by_ zz] {o lo len:Nat} {k:IntKind} {i:Int} {m:Nat}
  (hg:goes ops n T ⟨dd,.indexAddr t x y,ty,pos,es,gd⟩=some d:=by exact rfl) (hx:ev st T x=some (.msl o sz lo len):=by exact rfl) (hy:ev st T y=some (.int k i):=by exact rfl) (hm:i=m:=by exact rfl) (hlt:m < len:=by assumption)
  (z:AOps P n ops rest K E ((d,.cptr o sz (lo + m) 0)::T) st):AOps P n ops (⟨dd,.indexAddr t x y,ty,pos,es,gd⟩::rest) K E T st:=ixm hg hx hy hm hlt z
theorem ZO {t u:TypeId} {a:Nat} (hg:goes ops n T ⟨dd,.binOp .add t x y u,ty,pos,es,gd⟩=some d:=by exact rfl)
  (hx:ev st T x=some (.int .i64 (a:Int)):=by exact rfl) (hy:ev st T y=some (.int .i64 1):=by exact rfl) (hc:a < 9223372036854775807:=by omega)
  (z:AOps P n ops rest K E ((d,.int .i64 ((a + 1:Nat):Int))::T) st):AOps P n ops (⟨dd,.binOp .add t x y u,ty,pos,es,gd⟩::rest) K E T st:=inc hg hx hy hc z
theorem ZP {t u:TypeId} {a b:Nat} (hg:goes ops n T ⟨dd,.binOp .add t x y u,ty,pos,es,gd⟩=some d:=by exact rfl)
  (hx:ev st T x=some (.int .i64 (a:Int)):=by exact rfl) (hy:ev st T y=some (.int .i64 (b:Int)):=by exact rfl) (hc:a + b < 9223372036854775808:=by omega)
  (z:AOps P n ops rest K E ((d,.int .i64 ((a + b:Nat):Int))::T) st):AOps P n ops (⟨dd,.binOp .add t x y u,ty,pos,es,gd⟩::rest) K E T st:=adn hg hx hy hc z
theorem ZQ {t e:TypeId} {esz eby:Nat} {ez:Value} {v:AV} [hu:Und P t (.slice e)] [hie:Inf P e (esz + 1) eby ez] (hg:goes ops n T ⟨dd,.buildSlice t 1 #[(0,x)],ty,pos,es,gd⟩=some d:=by exact rfl)
  (hz:zok (esz + 1) ez=true:=by exact rfl) (hsm:Nat.ble (1 * (esz + 1)) 16777216=true:=by exact rfl) (hx:ev st T x=some v:=by exact rfl) (hl:Nat.beq v.cells.length (esz + 1)=true:=by exact rfl) (hv:storable v=true:=by exact rfl)
  (z:AOps P n ops rest K E ((d,.view (esz + 1) [v.cells] .shared)::T) st):AOps P n ops (⟨dd,.buildSlice t 1 #[(0,x)],ty,pos,es,gd⟩::rest) K E T st:=bs1 hg hz hsm hx hl hv z
theorem ZR {t:TypeId} {v:AV} {sz:Nat} (hg:goes ops n T ⟨dd,.box t x,ty,pos,es,gd⟩=some d:=by exact rfl) (hx:ev st T x=some v:=by exact rfl) (hv:storable v=true:=by exact rfl) (hsz:v.cells.length=sz:=by exact rfl)
  (z:AOps P n ops rest K E ((d,.eptr sz [v.cells] 0 0)::T) st):AOps P n ops (⟨dd,.box t x,ty,pos,es,gd⟩::rest) K E T st:=bxe hg hx hv hsz z
theorem YA {t:TypeId} {sz by_:Nat} {zz:Value} [hi:Inf P t sz by_ zz] {v:AV} (hg:goes ops n T ⟨dd,.alloc t,ty,pos,es,gd⟩=some d:=by exact rfl) (hz:zok sz zz=true:=by exact rfl) (hy:∀ o,ev (st.set o (.cells t sz [zrow zz])) ((d,.cptr o sz 0 0)::T) y=some v:=by exact fun _=>rfl)
  (hv:storable v=true:=by exact rfl) (hsz:Nat.beq v.cells.length sz=true:=by exact rfl)
  (z:AOps P n ops rest K E ((d,.eptr sz [v.cells] 0 0)::T) st) :
  AOps P n ops (⟨dd,.alloc t,ty,pos,es,gd⟩::⟨none,.store t (.tmp d) y,ty2,pos2,es2,none⟩::rest) K E T st:=alN hg hz hy hv hsz z
theorem YD {o:Oper} {t:Nat} {b:Bool} (h:gtmp ops T o=some (t,b):=by exact rfl) (hb:b=true:=by (fail_if_success rfl); first|assumption|exact decide_eq_true (by assumption)|exact decide_eq_true rfl|exact decide_eq_true (by omega)) (z:AOps P n ops (o::rest) K E ((t,.bool true)::T) st):AOps P n ops (o::rest) K E T st:=gB true h hb z
theorem YE {o:Oper} {t:Nat} {b:Bool} (h:gtmp ops T o=some (t,b):=by exact rfl) (hb:b=false:=by (fail_if_success rfl); first|assumption|exact decide_eq_false (by assumption)|exact decide_eq_false (by omega)) (z:AOps P n ops (o::rest) K E ((t,.bool false)::T) st):AOps P n ops (o::rest) K E T st:=gB false h hb z
theorem YH {c:Operand} {x y:Code} {b:Bool} (hc:ev st T c=some (.bool b):=by exact rfl) (hb:b=true:=by first|exact rfl|assumption|exact decide_eq_true (by assumption)|exact decide_eq_true rfl|exact decide_eq_true (by omega)) (z:AWP P n x K E T st):AWP P n (.cond c x y) K E T st:=cT hc hb z
theorem YI {c:Operand} {x y:Code} {b:Bool} (hc:ev st T c=some (.bool b):=by exact rfl) (hb:b=false:=by first|exact rfl|assumption|exact decide_eq_false (by assumption)|exact decide_eq_false (by omega)) (z:AWP P n y K E T st):AWP P n (.cond c x y) K E T st:=cF hc hb z
theorem YK {t u:TypeId} {a b:Int} (hg:goes ops n T ⟨dd,.binOp .sub t x y u,ty,pos,es,gd⟩=some d:=by exact rfl)
  (hx:ev st T x=some (.int .i64 a):=by exact rfl) (hy:ev st T y=some (.int .i64 b):=by exact rfl) (hc:-9223372036854775808≤a - b∧a - b < 9223372036854775808:=by omega)
  (z:AOps P n ops rest K E ((d,.int .i64 (a - b))::T) st):AOps P n ops (⟨dd,.binOp .sub t x y u,ty,pos,es,gd⟩::rest) K E T st:=Go.AM.sb hg hx hy hc z
theorem nz {v:AV}:AOps P n ops [] (fun T' st''=>∃ u,T'=(d,u)::T∧(u=v∧st''=st)) E ((d,v)::T) st:=nl ⟨_,rfl,rfl,rfl⟩
theorem dp {e:Nat} {Φ:AV→St→Prop} {i:Nat} {o:Oper} {r:List Oper} {d:Tmp} {v:AV} {k:Tmps→Prop} (hi:Nat.beq i e=false:=by exact rfl) (hd:dstA n o.dst=some d:=by exact rfl) (hw:wantedA ops (see ops o T) o=some true:=by exact rfl)
  (h:∀ st',StLe st' st.notok→AOps P n ops [o] (fun T' st''=>∃ u,T'=(d,u)::see ops o T∧(u=v∧st''=st')) (fun _ _ _=>False) (see ops o T) st')
  (z:DRun P n st ops e Φ (i + 1) r ((d,v)::T) k):DRun P n st ops e Φ i (o::r) T k:=dq hi hd hw h z
end
end Go.AM
namespace Go.AM
section
variable {P:Program} {n:Nat} {T:Tmps} {I:St→Prop} {ops:Array Oper} {Qs:List (AV→Prop)}
end
end Go.AM
namespace Go.AM
open Go.RowKit (Below)
def mayBe (S:List Nat) (Es:List Nat) (i:Nat) (bs:List Bool):Bool :=
 (Es.zip bs).all fun p=>bif p.2 then !(Nat.beq p.1 i) && !((S.getD p.1 0).testBit i) else !((S.getD i 0).testBit p.1)
def setBit (Es:List Nat) (i:Nat) (bs:List Bool):List Bool:=(Es.zip bs).map fun p=>p.2 || Nat.beq p.1 i
def segOk (l:List Oper) (k k':Nat) (Es:List Nat):Bool :=
 let S:=predSets l []
 Nat.ble k k' && Nat.ble k' l.length && ((List.range l.length).all fun i =>
  match l[i]? with
  | none=>false
  | some o=>(edgesOf o).all (fun x=>Nat.blt x i) &&
   (bif Nat.blt i k then true
   else bif Nat.blt i k' then
    (o.dst.isSome || Es.contains i) && (List.range' k (k' - k)).all (fun j=>match l[j]? with
     | none=>false
     | some p=>(bif Nat.beq i j then true else (match o.dst,p.dst with|some a,some b=>!(Nat.beq a b)|_,_=>true)) &&
      (match p.dst with
       | some t=>bif (o.looksAt l.toArray).contains t then (S.getD i 0).testBit j else true
       | none=>true))
   else (List.range' k (k' - k)).all fun j=>(S.getD i 0).testBit j)) &&
 Es.all fun e=>Nat.ble k e && Nat.blt e k'
section
variable {P:Program} {n:Nat} {K:Post} {E:EPost} {T:Tmps} {st:St}
theorem preds_listed {l:List Oper} {listed:Array Bool} (hc:Closed l listed) {i:Nat} {o:Oper} (ho:l[i]?=some o) (he:∀ x ∈ edgesOf o,listed.getD x false=true) {j:Nat} (hj:((predSets l []).getD i 0).testBit j=true):listed.getD j false=true :=
 predSets_spec l listed hc l [] (fun j=>by simp) (fun i o hi=>by simp at hi) i o (by rw [predSets_length]; simpa using (List.getElem?_eq_some_iff.1 ho).1) ho he j hj
theorem segOk_spec {l:List Oper} {k k':Nat} {Es:List Nat} (h:segOk l k k' Es=true):k≤k'∧k'≤l.length∧(∀ i o,l[i]?=some o→∀ x ∈ edgesOf o,x < i) ∧
  (∀ i o,l[i]?=some o→k≤i→i < k'→(o.dst=none→Es.contains i=true)∧∀ j p,k≤j→j < k'→l[j]?=some p→(i≠j→∀ a b,o.dst=some a→p.dst=some b→a≠b) ∧
   (∀ t,p.dst=some t→(o.looksAt l.toArray).contains t=true→((predSets l []).getD i 0).testBit j=true)) ∧
  (∀ i o,k'≤i→l[i]?=some o→∀ j,k≤j→j < k'→((predSets l []).getD i 0).testBit j=true)∧∀ e ∈ Es,k≤e∧e < k':=by
 simp only [segOk,Bool.and_eq_true] at h
 obtain ⟨⟨⟨h0,h00⟩,hall⟩,hE⟩:=h
 have hat:∀ i o,l[i]?=some o→((edgesOf o).all (fun x=>Nat.blt x i)=true ∧
   (bif Nat.blt i k then true
   else bif Nat.blt i k' then
    (o.dst.isSome || Es.contains i) && (List.range' k (k' - k)).all (fun j=>match l[j]? with
     | none=>false
     | some p=>(bif Nat.beq i j then true else (match o.dst,p.dst with|some a,some b=>!(Nat.beq a b)|_,_=>true)) &&
      (match p.dst with
       | some t=>bif (o.looksAt l.toArray).contains t then ((predSets l []).getD i 0).testBit j else true
       | none=>true))
   else (List.range' k (k' - k)).all fun j=>((predSets l []).getD i 0).testBit j)=true):=by
  intro i o ho
  have hi:=(List.getElem?_eq_some_iff.1 ho).1
  have:=List.all_eq_true.1 hall i (List.mem_range.2 hi)
  simp only [ho,Bool.and_eq_true] at this
  exact this
 have hkk:=Nat.ble_le h0
 have hr:∀ j,k≤j→j < k'→j ∈ List.range' k (k' - k):=fun j h1 h2=>List.mem_range'_1.2 ⟨h1,by omega⟩
 refine ⟨hkk,Nat.ble_le h00,fun i o ho x hx=>?_,fun i o ho hik hik'=>?_,fun i o hik ho j hj1 hj2=>?_,fun e he=>?_⟩
 ·have:=List.all_eq_true.1 (hat i o ho).1 x hx
  simpa [Nat.blt_eq] using this
 ·have h2:=(hat i o ho).2
  rw [show Nat.blt i k=false by rw [Bool.eq_false_iff,Ne,Nat.blt_eq]; omega,cond_false,show Nat.blt i k'=true by simpa [Nat.blt_eq] using hik',cond_true,Bool.and_eq_true] at h2
  refine ⟨fun hd=>?_,fun j p hj1 hj2 hp=>?_⟩
  ·rw [hd] at h2
   simpa using h2.1
  ·have h3:=List.all_eq_true.1 h2.2 j (hr j hj1 hj2)
   simp only [hp,Bool.and_eq_true] at h3
   refine ⟨fun hij a b ha hb=>?_,fun t ht hlook=>?_⟩
   ·have h4:=h3.1
    rw [nbeq_ne hij,cond_false,ha,hb] at h4
    intro e
    rw [e] at h4
    simp at h4
   ·have h4:=h3.2
    rw [ht] at h4
    simpa only [hlook,cond_true] using h4
 ·have h2:=(hat i o ho).2
  rw [show Nat.blt i k=false by rw [Bool.eq_false_iff,Ne,Nat.blt_eq]; omega,cond_false,show Nat.blt i k'=false by rw [Bool.eq_false_iff,Ne,Nat.blt_eq]; omega,cond_false] at h2
  exact List.all_eq_true.1 h2 j (hr j hj1 hj2)
 ·have h2:=List.all_eq_true.1 hE e he
  simp only [Bool.and_eq_true] at h2
  exact ⟨Nat.ble_le h2.1,by simpa [Nat.blt_eq] using h2.2⟩
def AAny (P:Program) (n:Nat) (l:List Oper) (i:Nat) (K:Post) (E:EPost) (T:Tmps) (st:St):Prop :=
 ∀ g0 w0 ds g w a (m:Nat) (listed:Array Bool),Ext g0 w0 g w→Sim g w st→Known g w T a→a.tmps.size=n→a.defers=ds→l.length≤i + m→listed.size=l.length→(∀ j,j < l.length→listed.getD j true=decide (j < i))→Closed l listed →
  wpAny P .any l.toArray (QOf n ds g0 w0 K E) m listed a w
theorem AWP.any {l:List Oper} {id:Nat} (hm:P.follows .mixedOrders=true) (h:AAny P n l 0 K E T st):AWP P n (.region id l.toArray true) K E T st:=by
 intro g0 w0 a0 hs0 hk0 hn0
 refine wp_region_any hm ?_
 obtain ⟨hed,hsd⟩:=hs0.draw
 refine h g0 w0 _ g0 _ a0 _ _ hed hsd (hk0.ext hed) hn0 rfl (by simp) (by simp) (fun j hj=>?_) (fun i o ho hi=>?_)
 ·rw [Array.getD_eq_getD_getElem?,Array.getElem?_replicate,if_pos (by simpa using hj)]
  simp
 ·rw [Array.getD_eq_getD_getElem?,Array.getElem?_replicate] at hi
  split at hi <;> cases hi
def textOk (l:List Oper) (i:Nat):Bool :=
 let S:=predSets l []
 Nat.ble i l.length && (List.range l.length).all fun j =>
  match l[j]? with
  | none=>false
  | some o=>(edgesOf o).all (fun x=>Nat.blt x j) && (bif Nat.blt j i then true else (List.range j).all fun q=>(S.getD j 0).testBit q)
theorem AAny.text {l:List Oper} {i:Nat} (hok:textOk l i=true) (h:AOps P n l.toArray (l.drop i) K E T st):AAny P n l i K E T st:=by
 simp only [textOk,Bool.and_eq_true] at hok
 obtain ⟨h0,hall⟩:=hok
 have hat:∀ j o,l[j]?=some o→((edgesOf o).all (fun x=>Nat.blt x j)=true∧(bif Nat.blt j i then true else (List.range j).all fun q=>((predSets l []).getD j 0).testBit q)=true):=by
  intro j o ho
  have:=List.all_eq_true.1 hall j (List.mem_range.2 (List.getElem?_eq_some_iff.1 ho).1)
  simp only [ho,Bool.and_eq_true] at this
  exact this
 intro g0 w0 ds g w a m listed he hs hk hn hd hm hsz hli hc
 refine wpAny_tail (fun j o ho x hx=>?_) i (fun j o hij ho listed' hc' he' q hq=>?_) m i listed a w (Nat.le_refl _) (Nat.ble_le h0) hm hsz hli hc ?_
 ·have:=List.all_eq_true.1 (hat j o ho).1 x hx
  simpa [Nat.blt_eq] using this
 ·have h2:=(hat j o ho).2
  rw [show Nat.blt j i=false by rw [Bool.eq_false_iff,Ne,Nat.blt_eq]; omega,cond_false] at h2
  exact preds_listed hc' ho he' (List.all_eq_true.1 h2 q (List.mem_range.2 hq))
 ·subst hd
  exact wpList_mono (fun _ _ _ q=>QOf.ext he q) _ _ _ (h g w a hs hk hn)
theorem getD_ft {listed:Array Bool} {j:Nat} (h:j < listed.size):listed.getD j false=listed.getD j true:=by
 rw [Array.getD_eq_getD_getElem?,Array.getD_eq_getD_getElem?,Array.getElem?_eq_getElem h]
 rfl
theorem AAny.one {l:List Oper} {i:Nat} {o:Oper} {d:Tmp} (hok:segOk l i (i + 1) []=true) (ho:l[i]?=some o) (hd:dstA n o.dst=some d) (hw:wantedA l.toArray T o=some true)
  (h:AOps P n l.toArray [o] (fun T' st'=>∃ u,T'=(d,u)::T∧AAny P n l (i + 1) K E ((d,u)::T) st') (fun _ _ _=>False) T st):AAny P n l i K E T st:=by
 obtain ⟨_,hile,hedge,_,htail,_⟩:=segOk_spec hok
 obtain ⟨hd1,hd2⟩:=dstA_some hd
 have hdn:d < n:=dstOk_lt hd2 d hd1
 intro g0 w0 ds g w a m listed he hs hk hn hds hm hsz hli hc
 have hil:i < l.length:=by omega
 obtain ⟨m,rfl⟩:∃ m',m=m' + 1:=⟨m - 1,by omega⟩
 have hready:i ∈ Region.ready .any l.toArray listed:=ready_of_edges (by rw [hli i hil]; simp) ho (fun e he=>by
  have hlt:=hedge i _ ho e he
  rw [getD_ft (by omega),hli e (by omega),decide_eq_true hlt])
 refine ⟨fun h0=>(by rw [h0] at hready; cases hready),fun j hj=>?_⟩
 obtain ⟨h1,o',h2,h3⟩:=ready_edges hj
 have hjl:=(List.getElem?_eq_some_iff.1 h2).1
 have hji:j=i:=by
  rw [hli j hjl] at h1
  have hge:i≤j:=by simpa using h1
  rcases Nat.eq_or_lt_of_le hge with h'|h'
  ·exact h'.symm
  ·have h4:=preds_listed hc h2 h3 (htail j o' h' h2 i (Nat.le_refl _) (by omega))
   rw [getD_ft (by omega),hli i hil] at h4
   simp at h4
 subst hji
 rw [ho] at h2
 cases h2
 unfold wpOp
 simp only [List.getElem?_toArray,ho]
 rw [wanted_of hk hw,if_pos rfl]
 left
 have hlist':∀ q,q < l.length→(listed.setIfInBounds j true).getD q true=decide (q < j + 1):=fun q hq=>by
  by_cases hqj:j=q
  ·subst hqj
   rw [Array.getD_eq_getD_getElem?,Array.getElem?_setIfInBounds_self_of_lt (by omega)]
   simp
  ·rw [getD_set_ne true hqj,hli q hq]
   congr 1
   rw [eq_iff_iff]
   omega
 refine AOps.single hd1 hdn (v:=fun u st'=>AAny P n l (j + 1) K E ((d,u)::T) st') h hw hs hk _ _ (fun rv g' w' u st' he' hs' hR hv=>?_) hn
 refine hv g0 w0 ds g' w' _ m _ (he.trans he') hs' ?_ (by rw [Act.size_put]; exact hn) (by rw [Act.defers_put]; exact hds) (by omega) (by simpa using hsz) hlist' (hc.set ho h3)
 have:=(hk.ext he').put (d:=o.dst) (fun t ht=>by rw [hd1] at ht; cases ht; rw [hn]; exact hdn) hR
 rwa [hd1] at this ⊢
def StepG (P:Program) (n:Nat) (I:List Bool→St→Prop) (S Es:List Nat) (i:Nat) (ops:Array Oper) (T:Tmps) (o:Oper) (Q:AV→Prop):Prop :=
 (wantedA ops T o=some true∧∀ bs,bs.length=Es.length→mayBe S Es i bs=true→EffJ P n (I bs) (I (setBit Es i bs)) T o Q)∨(wantedA ops T o=some false∧Q (.lit undef)∧Es.contains i=false)
def DRunG (P:Program) (n:Nat) (I:List Bool→St→Prop) (S Es:List Nat) (ops:Array Oper):Nat→List Oper→List (AV→Prop)→Tmps→(Tmps→St→Prop)→Prop
 | _,[],[],T,k=>∀ st,I (Es.map fun _=>true) st→k T st
 | i,o::r,Q::Qs,T,k=>(∃ u,Q u)∧dstOk o.dst n=true∧StepG P n I S Es i ops (see ops o T) o Q∧∀ u,Q u→DRunG P n I S Es ops (i + 1) r Qs (T.put o.dst u) k
 | _,_,_,_,_=>False
theorem DRunG.out {I:List Bool→St→Prop} {S Es:List Nat} {ops:Array Oper} {k:Tmps→St→Prop} (b:Nat) (us:Nat→AV) (l:List Oper):∀ (r:List Oper) (Qs:List (AV→Prop)) (i0:Nat),(∀ (i:Nat) (o:Oper),r[i]?=some o→l[i0 + i]?=some o)→(∀ (i:Nat) (Q:AV→Prop),Qs[i]?=some Q→Q (us (i0 + i))) →
  DRunG P n I S Es ops (b + i0) r Qs (ents l us i0++T) k→Qs.length=r.length∧(∀ st,I (Es.map fun _=>true) st→k (ents l us (i0 + r.length)++T) st) ∧
   ∀ i o,r[i]?=some o→∃ Q,dstOk o.dst n=true∧Qs[i]?=some Q∧StepG P n I S Es (b + (i0 + i)) ops (see ops o (ents l us (i0 + i)++T)) o Q
 | [],[],i0,_,_,h=>⟨rfl,h,fun i o ho=>by simp at ho⟩
 | [],_::_,_,_,_,h=>h.elim
 | _::_,[],_,_,_,h=>h.elim
 | o::r,Q::Qs,i0,hl,hq,h=>by
  obtain ⟨_,h2,h4,h5⟩:=h
  have h6:=h5 (us i0) (hq 0 Q rfl)
  have hl0:l[i0]?=some o:=by simpa using hl 0 o rfl
  have he:(ents l us i0++T).put o.dst (us i0)=ents l us (i0 + 1)++T:=by
   rw [ents,hl0]
   simp only [Option.bind_some]
   cases o.dst <;> rfl
  rw [he,Nat.add_assoc] at h6
  obtain ⟨a1,a2,a3⟩:=DRunG.out b us l r Qs (i0 + 1) (fun i o' ho'=>by have:=hl (i + 1) o' (by simpa using ho'); rwa [show i0 + (i + 1)=i0 + 1 + i by omega] at this) (fun i Q' hQ'=>by have:=hq (i + 1) Q' (by simpa using hQ'); rwa [show i0 + (i + 1)=i0 + 1 + i by omega] at this) h6
  refine ⟨by simp [a1],by rw [List.length_cons,show i0 + (r.length + 1)=i0 + 1 + r.length by omega]; exact a2,fun i o' ho'=>?_⟩
  cases i with
  | zero =>
   simp only [List.getElem?_cons_zero,Option.some.injEq] at ho'
   subst ho'
   exact ⟨Q,h2,rfl,h4⟩
  | succ i =>
   obtain ⟨Q',b1,b2,b3⟩:=a3 i o' (by simpa using ho')
   exact ⟨Q',b1,by simpa using b2,by rwa [show i0 + 1 + i=i0 + (i + 1) by omega] at b3⟩
theorem DRunG.fits {I:List Bool→St→Prop} {S Es:List Nat} {ops:Array Oper} {k:Tmps→St→Prop}:∀ (r:List Oper) (Qs:List (AV→Prop)) (i0:Nat) (T:Tmps),DRunG P n I S Es ops i0 r Qs T k→∀ (i:Nat) (Q:AV→Prop),Qs[i]?=some Q→∃ u,Q u
 | [],[],_,_,_,i,Q,h=>by simp at h
 | [],_::_,_,_,h,_,_,_=>h.elim
 | _::_,[],_,_,h,_,_,_=>h.elim
 | o::r,Q0::Qs,i0,T,h,i,Q,hq=>by
  obtain ⟨⟨u,hu⟩,h2,h4,h5⟩:=h
  cases i with
  | zero=>simp at hq; subst hq; exact ⟨u,hu⟩
  | succ i=>exact DRunG.fits r Qs _ _ (h5 u hu) i Q (by simpa using hq)
theorem may_of {l:List Oper} {listed:Array Bool} (hc:Closed l listed) (hsz:listed.size=l.length) {i:Nat} {o:Oper} (ho:l[i]?=some o) (he:∀ x ∈ edgesOf o,listed.getD x false=true) (hun:listed.getD i false=false) (Es:List Nat) :
  mayBe (predSets l []) Es i (Es.map fun e=>listed.getD e false)=true:=by
 unfold mayBe
 rw [List.all_eq_true]
 intro p hp
 have hp2:p.1 ∈ Es∧p.2=listed.getD p.1 false:=by
  obtain ⟨q,hq⟩:=List.getElem?_of_mem hp
  rw [List.getElem?_zip_eq_some] at hq
  obtain ⟨h1,h2⟩:=hq
  rw [List.getElem?_map,h1,Option.map_some,Option.some.injEq] at h2
  exact ⟨List.mem_of_getElem? h1,h2.symm⟩
 obtain ⟨e,b⟩:=p
 simp only at hp2 ⊢
 obtain ⟨h1,h2⟩:=hp2
 cases hb:b with
 | true =>
  rw [hb] at h2
  have hel:e < l.length:=by
   rcases Nat.lt_or_ge e l.length with h|h
   ·exact h
   ·rw [Array.getD_eq_getD_getElem?,Array.getElem?_eq_none (by omega)] at h2; cases h2
  rw [cond_true,Bool.and_eq_true]
  refine ⟨?_,?_⟩
  ·cases hei:Nat.beq e i with
   | false=>rfl
   | true=>rw [Nat.eq_of_beq_eq_true hei,hun] at h2; cases h2
  ·cases ht:((predSets l []).getD e 0).testBit i with
   | false=>rfl
   | true =>
    have:=preds_listed hc (List.getElem?_eq_getElem hel) (fun x hx=>hc e _ (List.getElem?_eq_getElem hel) h2.symm x hx) ht
    rw [hun] at this
    cases this
 | false =>
  rw [hb] at h2
  rw [cond_false]
  cases ht:((predSets l []).getD i 0).testBit e with
  | false=>rfl
  | true=>rw [preds_listed hc ho he ht] at h2; cases h2
theorem setBit_of {listed:Array Bool} {i:Nat} (hi:i < listed.size):∀ (Es:List Nat),(Es.map fun e=>(listed.setIfInBounds i true).getD e false)=setBit Es i (Es.map fun e=>listed.getD e false)
 | []=>rfl
 | e::Es=>by
  have:=setBit_of hi Es
  unfold setBit at this ⊢
  rw [List.map_cons,List.map_cons,List.zip_cons_cons,List.map_cons,this]
  congr 1
  by_cases h:i=e
  ·subst h
   rw [Array.getD_eq_getD_getElem?,Array.getElem?_setIfInBounds_self_of_lt hi,nbeq_self]
   simp
  ·rw [getD_set_ne false h,nbeq_ne (Ne.symm h)]
   simp
theorem setBit_none {i:Nat}:∀ (Es:List Nat) (bs:List Bool),bs.length=Es.length→Es.contains i=false→setBit Es i bs=bs
 | [],[],_,_=>rfl
 | [],_::_,h,_=>by simp at h
 | _::_,[],h,_=>by simp at h
 | e::Es,b::bs,h,hc=>by
  rw [List.contains_cons,Bool.or_eq_false_iff] at hc
  have:=setBit_none Es bs (by simpa using h) hc.2
  unfold setBit at this ⊢
  rw [List.zip_cons_cons,List.map_cons,this,nbeq_ne (fun h=>by subst h; simp at hc),Bool.or_false]
theorem AAny.seg {l:List Oper} {k:Nat} (k':Nat) (S Es:List Nat) (I:List Bool→St→Prop) (Qs:List (AV→Prop)) (hok:segOk l k k' Es=true) (hS:predSets l []=S) (hI:I (Es.map fun _=>false) st)
  (h:DRunG P n I S Es l.toArray k ((l.drop k).take (k' - k)) Qs T fun T' st'=>AAny P n l k' K E T' st'):AAny P n l k K E T st:=by
 subst hS
 obtain ⟨hkk,hkl,hedge,hbody,htail,hEs⟩:=segOk_spec hok
 have hfits:=DRunG.fits _ _ _ _ h
 have hget:∀ i,i < k' - k→(l.drop k)[i]?=l[k + i]?:=fun i _=>List.getElem?_drop
 have hout:=fun (us:Nat→AV) (hus:∀ (i:Nat) (Q:AV→Prop),Qs[i]?=some Q→Q (us (0 + i)))=>DRunG.out (T:=T) k us (l.drop k) ((l.drop k).take (k' - k)) Qs 0 (fun i o ho=>by
  have hi:i < k' - k:=by have:=(List.getElem?_eq_some_iff.1 ho).1; simp at this; omega
  rw [List.getElem?_take_of_lt hi] at ho
  rwa [Nat.zero_add]) hus h
 have hlk0:((l.drop k).take (k' - k)).length=k' - k:=by simp; omega
 obtain ⟨wit,hwit⟩:∃ wit:Nat→AV,∀ (i:Nat) (Q:AV→Prop),Qs[i]?=some Q→Q (wit i):=by
  have:∀ i:Nat,∃ u:AV,∀ Q:AV→Prop,Qs[i]?=some Q→Q u:=fun i=>by
   cases hq:Qs[i]? with
   | none=>exact ⟨.bool true,fun Q h=>by cases h⟩
   | some Q =>
    obtain ⟨u,hu⟩:=hfits i Q hq
    exact ⟨u,fun Q' h=>by cases h; exact hu⟩
  exact ⟨fun i=>Classical.choose (this i),fun i Q hQ=>Classical.choose_spec (this i) Q hQ⟩
 have hQl:Qs.length=k' - k:=by rw [(hout wit (fun i Q hQ=>by rw [Nat.zero_add]; exact hwit i Q hQ)).1,hlk0]
 intro g0 w0 ds g1 w1 a1 m1 listed1 he1 hs1 hk1 hn1 hd1 hm1 hsz1 hli1 hc1
 let Inv:Array Bool→Act→World→Prop:=fun listed a w=>listed.size=l.length∧Closed l listed∧(∀ j,j < k→listed.getD j true=true)∧(∀ j,k'≤j→j < l.length→listed.getD j true=false)∧a.tmps.size=n∧a.defers=ds ∧
  ∃ g st1,Ext g0 w0 g w∧Sim g w st1∧I (Es.map fun e=>listed.getD e false) st1 ∧
   (∀ t v,Tmps.get T t=some v→(∀ i,i < k' - k→(l[k + i]?).bind (·.dst)=some t→listed.getD (k + i) false=false)→∃ rv,a.tmps[t]?=some rv∧R g w v rv) ∧
   (∀ i d Q,i < k' - k→(l[k + i]?).bind (·.dst)=some d→Qs[i]?=some Q→listed.getD (k + i) false=true→∃ u rv,Q u∧a.tmps[d]?=some rv∧R g w u rv)
 let μ:Array Bool→Nat:=fun listed=>(List.range l.length).countP fun j=>!listed.getD j true
 have hμ:∀ (listed:Array Bool) i,i < l.length→listed.size=l.length→listed.getD i true=false→μ (listed.setIfInBounds i true) + 1≤μ listed:=by
  intro listed i hil hsz hi
  have gen:∀ (A:List Nat),i ∈ A→A.countP (fun j=>!(listed.setIfInBounds i true).getD j true) + 1≤A.countP (fun j=>!listed.getD j true):=by
   have le:∀ (A:List Nat),A.countP (fun j=>!(listed.setIfInBounds i true).getD j true)≤A.countP (fun j=>!listed.getD j true):=fun A=>List.countP_mono_left fun j _ hj=>by
    by_cases hij:i=j
    ·subst hij
     rw [Array.getD_eq_getD_getElem?,Array.getElem?_setIfInBounds_self_of_lt (by omega)] at hj
     simp at hj
    ·rw [getD_set_ne true hij] at hj; exact hj
   intro A
   induction A with
   | nil=>intro h; simp at h
   | cons x A ih =>
    intro h
    rw [List.countP_cons,List.countP_cons]
    by_cases hx:x=i
    ·subst hx
     have h1:(!(listed.setIfInBounds x true).getD x true)=false:=by
      rw [Array.getD_eq_getD_getElem?,Array.getElem?_setIfInBounds_self_of_lt (by omega)]; rfl
     have h2:(!listed.getD x true)=true:=by rw [hi]; rfl
     rw [h1,h2,if_neg (by decide),if_pos rfl]
     have:=le A
     omega
    ·have hm':i ∈ A:=by rcases List.mem_cons.1 h with h|h; exact absurd h.symm hx; exact h
     have:=ih hm'
     have h3:(listed.setIfInBounds i true).getD x true=listed.getD x true:=getD_set_ne true (Ne.symm hx)
     rw [h3]
     omega
  exact gen _ (List.mem_range.2 hil)
 have choose:∀ (listed:Array Bool) (a:Act) (g:G) (w:World),(∀ i d Q,i < k' - k→(l[k + i]?).bind (·.dst)=some d→Qs[i]?=some Q→listed.getD (k + i) false=true→∃ u rv,Q u∧a.tmps[d]?=some rv∧R g w u rv) →
   ∃ us:Nat→AV,(∀ (i:Nat) (Q:AV→Prop),Qs[i]?=some Q→Q (us i))∧∀ i d,i < k' - k→(l[k + i]?).bind (·.dst)=some d→listed.getD (k + i) false=true→∃ rv,a.tmps[d]?=some rv∧R g w (us i) rv:=by
  intro listed a g w hB
  have:∀ i:Nat,∃ u:AV,(∀ Q:AV→Prop,Qs[i]?=some Q→Q u)∧∀ d,i < k' - k→(l[k + i]?).bind (·.dst)=some d→listed.getD (k + i) false=true→∃ rv,a.tmps[d]?=some rv∧R g w u rv:=fun i=>by
   by_cases hc:i < k' - k∧listed.getD (k + i) false=true
   ·obtain ⟨hik,hli⟩:=hc
    cases hd':(l[k + i]?).bind (·.dst) with
    | none=>exact ⟨wit i,hwit i,fun d _ hd2 _=>by cases hd2⟩
    | some d =>
     have hq:Qs[i]?=some (Qs[i]'(by omega)):=List.getElem?_eq_getElem _
     obtain ⟨u,rv,h1,h2,h3⟩:=hB i d _ hik hd' hq hli
     refine ⟨u,fun Q h=>by rw [hq] at h; cases h; exact h1,fun d' _ hd2 _=>?_⟩
     cases hd2
     exact ⟨rv,h2,h3⟩
   ·exact ⟨wit i,hwit i,fun d h1 _ h2=>absurd ⟨h1,h2⟩ hc⟩
  exact ⟨fun i=>Classical.choose (this i),fun i=>(Classical.choose_spec (this i)).1,fun i=>(Classical.choose_spec (this i)).2⟩
 have hentsget:∀ (us:Nat→AV) (i t:Nat) v,i≤k' - k→Tmps.get (ents (l.drop k) us i) t=some v→∃ j,j < i∧(l[k + j]?).bind (·.dst)=some t∧v=us j:=fun us i t v hi hg=>by
  obtain ⟨j,hj,hdj,rfl⟩:=ents_get i t _ hg
  exact ⟨j,hj,by rw [← hget j (by omega)]; exact hdj,rfl⟩
 have hentsnone:∀ (us:Nat→AV) (i t:Nat),i≤k' - k→Tmps.get (ents (l.drop k) us i) t=none→∀ j,j < i→(l[k + j]?).bind (·.dst)≠some t:=fun us i t hi hg j hj=>by
  rw [← hget j (by omega)]
  exact ents_none i t hg j hj
 have done:∀ (m:Nat) (listed:Array Bool) (a:Act) (w:World),Inv listed a w→(∀ j,j < k'→listed.getD j true=true)→l.length≤k' + m→wpAny P .any l.toArray (QOf n ds g0 w0 K E) m listed a w:=by
  intro m listed a w ⟨hsz,hcl,hfst,htl,hn,hd,g,st1,he,hs,hI1,hA,hB⟩ hall hm'
  have hlist:∀ j,j < k'→listed.getD j false=true:=fun j hj=>by
   rw [getD_ft (by omega)]; exact hall j hj
  obtain ⟨us,hus,hus2⟩:=choose listed a g w hB
  obtain ⟨_,hfin,_⟩:=hout us (fun i Q hQ=>by rw [Nat.zero_add]; exact hus i Q hQ)
  rw [hlk0,Nat.zero_add] at hfin
  have hIt:(Es.map fun e=>listed.getD e false)=Es.map fun _=>true:=List.map_congr_left fun e he=>hlist e (hEs e he).2
  rw [hIt] at hI1
  refine hfin st1 hI1 g0 w0 ds g w a m listed he hs (fun t u hu=>?_) hn hd hm' hsz (fun j hj=>?_) hcl
  ·rw [get_append] at hu
   cases hg:Tmps.get (ents (l.drop k) us (k' - k)) t with
   | some u' =>
    rw [hg] at hu
    cases hu
    obtain ⟨j,hj,hdj,rfl⟩:=hentsget us _ t _ (Nat.le_refl _) hg
    exact hus2 j t hj hdj (hlist (k + j) (by omega))
   | none =>
    rw [hg] at hu
    exact hA t u hu fun i hi hit=>absurd hit (hentsnone us _ t (Nat.le_refl _) hg i hi)
  ·by_cases hjk:j < k'
   ·rw [hall j hjk,decide_eq_true hjk]
   ·rw [htl j (by omega) hj,decide_eq_false hjk]
 have step:∀ (K':Act→World→Prop) (listed:Array Bool) (a:Act) (w:World) (q:Nat),Inv listed a w→q < k' - k→k + q ∈ Region.ready .any l.toArray listed→(∀ a' w',Inv (listed.setIfInBounds (k + q) true) a' w'→K' a' w') →
   wpOp P l.toArray (QOf n ds g0 w0 K E) (k + q) K' a w:=by
  intro K' listed a w q ⟨hsz,hcl,hfst,htl,hn,hd,g,st1,he,hs,hI1,hA,hB⟩ hqk hri hK
  obtain ⟨hun,o,ho,hed'⟩:=ready_edges hri
  have hil:=(List.getElem?_eq_some_iff.1 ho).1
  have hunf:listed.getD (k + q) false=false:=by
   rw [getD_ft (by omega)]; exact hun
  have hcl':=hcl.set ho hed'
  have hsz':(listed.setIfInBounds (k + q) true).size=l.length:=by simpa using hsz
  have hfst':∀ j,j < k→(listed.setIfInBounds (k + q) true).getD j true=true:=fun j h1=>by
   rw [getD_set_ne true (by omega)]; exact hfst j h1
  have htl':∀ j,k'≤j→j < l.length→(listed.setIfInBounds (k + q) true).getD j true=false:=fun j h1 h2=>by
   rw [getD_set_ne true (by omega)]; exact htl j h1 h2
  obtain ⟨us,hus,hus2⟩:=choose listed a g w hB
  obtain ⟨_,_,hops⟩:=hout us (fun i Q hQ=>by rw [Nat.zero_add]; exact hus i Q hQ)
  obtain ⟨Q,hdn,hQi,hstep⟩:=hops q o (by rw [List.getElem?_take_of_lt hqk,hget q hqk]; exact ho)
  rw [Nat.zero_add] at hstep
  have hlooked:∀ j,j < k' - k→∀ t,(l[k + j]?).bind (·.dst)=some t→(o.looksAt l.toArray).contains t=true→listed.getD (k + j) false=true∧j < q:=by
   intro j hj t hjt hlook
   have hp:l[k + j]?=some l[k + j]:=List.getElem?_eq_getElem (by omega)
   rw [hp] at hjt
   have h2:=((hbody (k + q) o ho (by omega) (by omega)).2 (k + j) _ (by omega) (by omega) hp).2 t hjt hlook
   refine ⟨preds_listed hcl ho hed' h2,?_⟩
   have hcl2:Closed l (Array.ofFn fun x:Fin l.length=>decide (x.val < k + q)):=by
    intro x ox hx hx' y hy
    have hql:=(List.getElem?_eq_some_iff.1 hx).1
    rw [Array.getD_eq_getD_getElem?,Array.getElem?_ofFn] at hx' ⊢
    simp only [hql,dif_pos,Option.getD_some,decide_eq_true_eq] at hx'
    have hxq:=hedge x ox hx y hy
    simp only [show y < l.length by omega,dif_pos,Option.getD_some,decide_eq_true_eq]
    omega
   have h3:=preds_listed hcl2 ho (fun x hx'=>by
    have hxi:=hedge (k + q) o ho x hx'
    rw [Array.getD_eq_getD_getElem?,Array.getElem?_ofFn]
    simp only [show x < l.length by omega,dif_pos,Option.getD_some,decide_eq_true_eq]
    exact hxi) h2
   rw [Array.getD_eq_getD_getElem?,Array.getElem?_ofFn] at h3
   simp only [show k + j < l.length by omega,dif_pos,Option.getD_some,decide_eq_true_eq] at h3
   omega
  have hknown:Known g w (see l.toArray o (ents (l.drop k) us q++T)) a:=fun t v ht=>by
   obtain ⟨hlook,hgt⟩:=get_filter _ _ _ _ ht
   rw [get_append] at hgt
   cases hg:Tmps.get (ents (l.drop k) us q) t with
   | some u' =>
    rw [hg] at hgt
    cases hgt
    obtain ⟨j,hj,hdj,rfl⟩:=hentsget us q t _ (by omega) hg
    exact hus2 j t (by omega) hdj (hlooked j (by omega) t hdj hlook).1
   | none =>
    rw [hg] at hgt
    refine hA t v hgt fun j hj hjt=>?_
    have h1:=hlooked j hj t hjt hlook
    exact absurd hjt (hentsnone us q t (by omega) hg j h1.2)
  have hother:∀ t,o.dst≠some t→∀ rv',(a.put o.dst rv').tmps[t]?=a.tmps[t]?:=fun t ht rv'=>by
   cases hod:o.dst with
   | none=>rfl
   | some d =>
    simp only [Act.put,Array.getElem?_setIfInBounds]
    rw [if_neg (fun h=>ht (by rw [hod,h]))]
  have hself:∀ d,o.dst=some d→∀ rv',(a.put o.dst rv').tmps[d]?=some rv':=fun d hod rv'=>by
   have hdn':=dstOk_lt hdn d hod
   rw [hod]
   simp only [Act.put,Array.getElem?_setIfInBounds]
   simp [hn,hdn']
  have hdi:∀ d,(l[k + q]?).bind (·.dst)=some d→o.dst=some d:=fun d h=>by rw [ho] at h; exact h
  have after:∀ v rv g' w' st2,Ext g w g' w'→Sim g' w' st2→R g' w' v rv→Q v→I (setBit Es (k + q) (Es.map fun e=>listed.getD e false)) st2→Inv (listed.setIfInBounds (k + q) true) (a.put o.dst rv) w':=by
   intro v rv g' w' st2 he' hs' hR hQv hI2
   refine ⟨hsz',hcl',hfst',htl',by rw [Act.size_put]; exact hn,by rw [Act.defers_put]; exact hd,g',st2,he.trans he',hs',by rw [setBit_of (by omega)]; exact hI2,fun t u ht hwr=>?_,fun j d' Q' hj hjd hjQ hjl=>?_⟩
   ·have htd:o.dst≠some t:=fun htd=>by
     have:=hwr q hqk (by rw [ho]; exact htd)
     rw [Array.getD_eq_getD_getElem?,Array.getElem?_setIfInBounds_self_of_lt (by omega)] at this
     simp at this
    obtain ⟨ru,h1,h2⟩:=hA t u ht fun j hj hjt=>by
     have h3:=hwr j hj hjt
     by_cases hij:q=j
     ·subst hij; exact hunf
     ·rwa [getD_set_ne false (by omega)] at h3
    exact ⟨ru,by rw [hother t htd]; exact h1,h2.ext he'⟩
   ·by_cases hij:q=j
    ·subst hij
     rw [hQi] at hjQ
     cases hjQ
     exact ⟨v,rv,hQv,hself d' (hdi d' hjd) rv,hR⟩
    ·rw [getD_set_ne false (by omega)] at hjl
     obtain ⟨u,ru,h1,h2,h3⟩:=hB j d' Q' hj hjd hjQ hjl
     refine ⟨u,ru,h1,?_,h3.ext he'⟩
     rw [hother d' ?_]
     ·exact h2
     ·have hp:l[k + j]?=some l[k + j]:=List.getElem?_eq_getElem (by omega)
      rw [hp] at hjd
      exact fun hdd=>((hbody (k + q) o ho (by omega) (by omega)).2 (k + j) _ (by omega) (by omega) hp).1 (by omega) d' d' hdd hjd rfl
  unfold wpOp
  simp only [List.getElem?_toArray,ho]
  rcases hstep with ⟨hw,hq1⟩|⟨hw,hq,hni⟩
  ·rw [wanted_of hknown hw,if_pos rfl]
   left
   exact hq1 _ (by simp) (may_of hcl hsz ho hed' hunf Es) st1 g w a K' _ hI1 hs hknown hn fun rv g' w' v st2 he' hs' hR hQv hI2=>hK _ _ (after v rv g' w' st2 he' hs' hR hQv hI2)
  ·rw [wanted_of hknown hw,if_neg (by simp)]
   exact hK _ _ (after _ undef g w st1 (.refl _ _) hs (.lit _) hq (by rw [setBit_none Es _ (by simp) hni]; exact hI1))
 have key:∀ (m:Nat) (listed:Array Bool) (a:Act) (w:World),Inv listed a w→μ listed≤m→wpAny P .any l.toArray (QOf n ds g0 w0 K E) m listed a w:=by
  intro m
  induction m with
  | zero =>
   intro listed a w hi hm0
   have hall:∀ j,j < l.length→listed.getD j true=true:=fun j hj=>by
    cases hv:listed.getD j true with
    | true=>rfl
    | false=>have:=hμ listed j hj hi.1 hv; omega
   have hlk:l.length=k':=by
    rcases Nat.eq_or_lt_of_le hkl with h'|h'
    ·exact h'.symm
    ·have h1:=hall k' h'
     have h2:=hi.2.2.2.1 k' (Nat.le_refl _) h'
     rw [h1] at h2
     cases h2
   exact done 0 listed a w hi (fun j hj=>hall j (by omega)) (by omega)
  | succ m ih =>
   intro listed a w hi hm1
   by_cases hall:∀ j,j < k'→listed.getD j true=true
   ·refine done (m + 1) listed a w hi hall ?_
    have:l.length - k'≤μ listed:=by
     exact countP_range_ge k' _ l.length fun j h1 h2=>by rw [hi.2.2.2.1 j h1 h2]; rfl
    omega
   ·have hex:∃ j,j < k'∧listed.getD j true=false∧∀ q,q < j→listed.getD q true=true:=by
     have:∃ j,j < k'∧listed.getD j true=false:=by
      apply Classical.byContradiction
      intro hno
      apply hall
      intro j hj
      cases hv:listed.getD j true with
      | true=>rfl
      | false=>exact absurd ⟨j,hj,hv⟩ hno
     obtain ⟨j,hj⟩:=this
     induction j using Nat.strongRecOn with
     | _ j ihj =>
      by_cases hq:∀ q,q < j→listed.getD q true=true
      ·exact ⟨j,hj.1,hj.2,hq⟩
      ·simp only [Classical.not_forall] at hq
       obtain ⟨q,hqj,hq⟩:=hq
       exact ihj q hqj ⟨by omega,by simpa using hq⟩
    obtain ⟨j0,hj0,hv0,hmin⟩:=hex
    have hsz:=hi.1
    have hjl:j0 < l.length:=by omega
    have hkj:k≤j0:=by
     rcases Nat.lt_or_ge j0 k with h'|h'
     ·rw [hi.2.2.1 j0 h'] at hv0; cases hv0
     ·exact h'
    have hready:j0 ∈ Region.ready .any l.toArray listed:=ready_of_edges hv0 (List.getElem?_eq_getElem hjl) (fun x hx=>by
     have hxj:=hedge j0 _ (List.getElem?_eq_getElem hjl) x hx
     rw [getD_ft (by omega)]
     exact hmin x hxj)
    refine ⟨fun h0=>(by rw [h0] at hready; cases hready),fun i hri=>?_⟩
    obtain ⟨hun,o,ho,hed'⟩:=ready_edges hri
    have hil:=(List.getElem?_eq_some_iff.1 ho).1
    have hik:i < k':=by
     rcases Nat.lt_or_ge i k' with h'|h'
     ·exact h'
     ·have h1:=preds_listed hi.2.1 ho hed' (htail i o h' ho j0 hkj hj0)
      rw [getD_ft (by omega),hv0] at h1
      cases h1
    have hki:k≤i:=by
     rcases Nat.lt_or_ge i k with h'|h'
     ·rw [hi.2.2.1 i h'] at hun; cases hun
     ·exact h'
    obtain ⟨q,rfl⟩:∃ q,i=k + q:=⟨i - k,by omega⟩
    exact step _ listed a w q hi (by omega) hri fun a' w' hi'=>ih _ a' w' hi' (by have:=hμ listed (k + q) hil hsz hun; omega)
 refine key m1 listed1 a1 w1 ⟨hsz1,hc1,fun j hj=>by rw [hli1 j (by omega),decide_eq_true hj],fun j h1 h2=>by rw [hli1 j h2,decide_eq_false (by omega)],hn1,hd1,g1,st,he1,hs1,?_,fun t v ht _=>hk1 t v ht,fun i d Q hi hdi _ hl=>?_⟩ ?_
 ·have:(Es.map fun e=>listed1.getD e false)=Es.map fun _=>false:=List.map_congr_left fun e he=>by
   obtain ⟨h1,h2⟩:=hEs e he
   rw [getD_ft (by omega),hli1 e (by omega),decide_eq_false (by omega)]
  rw [this]
  exact hI
 ·rw [getD_ft (by omega),hli1 (k + i) (by omega),decide_eq_false (by omega)] at hl
  cases hl
 ·have h2:μ listed1=(List.range l.length).countP fun j=>!decide (j < k):=List.countP_congr fun j hj=>by rw [hli1 j (List.mem_range.1 hj)]
  rw [h2]
  have h3:∀ N,(List.range N).countP (fun j=>!decide (j < k))≤N - k:=by
   intro N
   induction N with
   | zero=>simp
   | succ N ih =>
    rw [List.range_succ,List.countP_append,List.countP_singleton]
    by_cases hN:N < k
    ·simp only [hN,decide_true,Bool.not_true,Bool.false_eq_true,if_false]; omega
    ·simp only [hN,decide_false,Bool.not_false,if_true]; omega
  have:=h3 l.length
  omega
def IG (sts:List Bool→Option St) (F:St→St→Prop) (base:St) (bs:List Bool) (s:St):Prop:=∃ s0,sts bs=some s0∧F s0 s∧StLe s base
variable {sts:List Bool→Option St} {F:St→St→Prop} {base:St} {S Es:List Nat} {ops:Array Oper} {Qs:List (AV→Prop)}
theorem AAny.segY {l:List Oper} {k:Nat} (k':Nat) (S Es:List Nat) (sts:List Bool→Option St) (F:St→St→Prop) (base:St) {Qs:List (AV→Prop)} {st0:St} (hok:segOk l k k' Es=true) (hS:predSets l []=S) (h0:sts (Es.map fun _=>false)=some st0) (hF:F st0 st) (hb:StLe st base)
  (h:DRunG P n (IG sts F base) S Es l.toArray k ((l.drop k).take (k' - k)) Qs T fun T' st'=>AAny P n l k' K E T' st'):AAny P n l k K E T st :=
 AAny.seg k' S Es (IG sts F base) Qs hok hS ⟨st0,h0,hF,hb⟩ h
theorem dqY {i:Nat} {o:Oper} {r:List Oper} {d:Tmp} {v:AV} {k:Tmps→St→Prop} (hi:Es.contains i=false:=by exact rfl) (hd:dstA n o.dst=some d:=by exact rfl) (hw:wantedA ops (see ops o T) o=some true:=by exact rfl)
  (h:∀ st',StLe st' base→AOps P n ops [o] (fun T' st''=>∃ u,T'=(d,u)::see ops o T∧(u=v∧st''=st')) (fun _ _ _=>False) (see ops o T) st')
  (z:DRunG P n (IG sts F base) S Es ops (i + 1) r Qs ((d,v)::T) k):DRunG P n (IG sts F base) S Es ops i (o::r) ((fun u=>u=v)::Qs) T k:=by
 obtain ⟨hd',hdn⟩:=dstA_some hd
 refine ⟨⟨v,rfl⟩,hdn,.inl ⟨hw,fun bs hl _=>?_⟩,fun u hu=>?_⟩
 ·rw [setBit_none Es bs hl hi]
  intro s g w a K' Q' ⟨s0,h1,h2,hle⟩ hs hk hn hK
  refine AOps.single hd' (dstOk_lt hdn d hd') (h s hle) hw hs hk K' Q' (fun rv g' w' u st' he hs' hR ⟨hu,hst⟩=>?_) hn
  subst hu hst
  exact hK rv g' w' u st' he hs' hR rfl ⟨s0,h1,h2,hle⟩
 ·subst hu
  rw [hd']
  exact z
theorem dsY {i:Nat} {o:Oper} {r:List Oper} {d:Tmp} {v:AV} {k:Tmps→St→Prop} (hi:Es.contains i=false:=by exact rfl) (hs:step1 ops n base (see ops o T) o=some (d,v):=by exact rfl)
  (z:DRunG P n (IG sts F base) S Es ops (i + 1) r Qs ((d,v)::T) k):DRunG P n (IG sts F base) S Es ops i (o::r) ((fun u=>u=v)::Qs) T k:=by
 have hg:goes ops n (see ops o T) o=some d:=by
  unfold step1 at hs
  split at hs
  ·rename_i h1 h2
   cases hs
   exact h1
  ·cases hs
 obtain ⟨hw,hd,hok⟩:=goes_some hg
 have hda:dstA n o.dst=some d:=by
  unfold goes at hg
  rw [hw] at hg
  exact hg
 exact dqY hi hda hw (fun st' hle=>sm ((step1_glob (n:=n) (ops:=ops) hle.glob (see ops o T) o).symm.trans hs) (nl ⟨v,rfl,rfl,rfl⟩)) z
def allBits:Nat→List (List Bool)
 | 0=>[[]]
 | k + 1=>(allBits k).flatMap fun bs=>[false::bs,true::bs]
theorem mem_allBits:∀ (bs:List Bool),bs ∈ allBits bs.length
 | []=>by simp [allBits]
 | b::bs=>by
  rw [List.length_cons,allBits,List.mem_flatMap]
  exact ⟨bs,mem_allBits bs,by cases b <;> simp⟩
def BAll:List (List Bool)→(List Bool→Prop)→Prop
 | [],_=>True
 | b::r,p=>p b∧BAll r p
theorem BAll.get {p:List Bool→Prop}:∀ {L:List (List Bool)},BAll L p→∀ bs ∈ L,p bs
 | b::r,h,bs,hb=>by
  rcases List.mem_cons.1 hb with hb|hb
  ·subst hb; exact h.1
  ·exact BAll.get h.2 bs hb
theorem deY (L:List (List Bool)) {i:Nat} {o:Oper} {r:List Oper} {k:Tmps→St→Prop} (hL:(allBits Es.length).filter (mayBe S Es i)=L) (hd:o.dst=none:=by exact rfl) (hw:wantedA ops (see ops o T) o=some true:=by exact rfl)
  (h:BAll L fun bs=>∀ s0,sts bs=some s0→∃ s1,sts (setBit Es i bs)=some s1∧∀ s,F s0 s→StLe s base→AOps P n ops [o] (fun T' st''=>T'=see ops o T∧F s1 st''∧StLe st'' base) (fun _ _ _=>False) (see ops o T) s)
  (z:DRunG P n (IG sts F base) S Es ops (i + 1) r Qs T k):DRunG P n (IG sts F base) S Es ops i (o::r) ((fun _=>True)::Qs) T k:=by
 refine ⟨⟨.bool true,trivial⟩,by rw [hd]; rfl,.inl ⟨hw,fun bs hl hm=>?_⟩,fun u _=>?_⟩
 ·intro s g w a K' Q' ⟨s0,h1,h2,hle⟩ hs hk hn hK
  obtain ⟨s1,h3,h4⟩:=h.get bs (by rw [← hL,List.mem_filter]; exact ⟨by rw [← hl]; exact mem_allBits bs,hm⟩) s0 h1
  refine AOps.singleN (h4 s h2 hle) hw hs hk K' Q' (fun rv g' w' st' he hs' hst=>?_) hn
  exact hK rv g' w' (.lit rv) st' he hs' (.lit rv) trivial ⟨s1,h3,hst⟩
 ·rw [hd]
  exact z
theorem dnY {i:Nat} {sN:St} {k:Tmps→St→Prop} (hN:sts (Es.map fun _=>true)=some sN) (h:∀ s,F sN s→StLe s base→k T s):DRunG P n (IG sts F base) S Es ops i [] [] T k:=by
 intro s ⟨s0,h1,h2,h3⟩
 rw [hN] at h1
 cases h1
 exact h s h2 h3
theorem AAny.segQ {l:List Oper} {k:Nat} (k':Nat) {Qs:List (AV→Prop)} (hok:segOk l k k' []=true)
  (h:DRunG P n (IG (fun _=>some st) (fun a b=>b=a) st) (predSets l []) [] l.toArray k ((l.drop k).take (k' - k)) Qs T fun T' st'=>AAny P n l k' K E T' st'):AAny P n l k K E T st :=
 AAny.seg k' _ [] _ Qs hok rfl ⟨st,rfl,rfl,.refl _⟩ h
theorem dnQ {i:Nat} {k:Tmps→St→Prop} (h:k T st):DRunG P n (IG (fun _=>some st) (fun a b=>b=a) st) S [] ops i [] [] T k:=by
 intro s ⟨s0,h1,h2,_⟩
 cases h1
 cases h2
 exact h
end
end Go.AM
namespace Go.AM
open Go.RowKit (Below)
section
variable {P:Program} {n:Nat} {K:Post} {E:EPost} {T:Tmps} {st:St} {ops:Array Oper} {rest:List Oper}
variable {ty:TypeId} {pos:String} {es:Array Edge} {gd:Option (Nat × Bool)} {d:Tmp} {x y:Operand} {dd:Option Tmp}
theorem append_nil_msl {g:G} {w:World} (hs:Sim g w st) {t e:TypeId} {sz by_:Nat} {ez:Value} [hu:Und P t (.slice e)] [hie:Inf P e sz by_ ez] (hz:zok sz ez=true) {ty:TypeId} {rows2:List (List AV)} {uy:Value}
  (h2:Src g w sz rows2 uy) (h0:rows2≠[]) (hb:rows2.length * by_≤140737488355328) (hm:rows2.length≤maxLen) :
  ∃ v w' g' o',(Builtin.append_ #[t,t] ty #[.slice none 0 0,uy]).run P w=.ok v w'∧Ext g w g' w'∧Sim g' w' (st.set o' (.cells e sz rows2))∧R g' w' (.msl o' sz 0 rows2.length) v∧st.obj o'=none:=by
 obtain ⟨z1,z2,z3,z4⟩:=zok_spec hz
 obtain ⟨inf,i1,i2,i3,i4⟩:=hie.out
 obtain ⟨base2,cap2,f2,rfl,hnil2,hR2,hl2,h12,hcell2,hone2⟩:=h2
 have hpos:0 < rows2.length:=List.length_pos_iff.2 h0
 have hm64:rows2.length≤9223372036854775807:=by simp only [maxLen] at hm; omega
 obtain ⟨ad,rfl⟩:∃ ad,base2=some ad:=by
  cases base2 with
  | none=>exact absurd (hnil2 rfl).1 h0
  | some ad=>exact ⟨ad,rfl⟩
 subst i2
 have hr:=run_append_nil (P:=P) w t ty e inf ez hu.out i1 i4 ad rows2.length cap2 (flatV f2 rows2.length inf.size) (flatV_length _ _ _) (hcell2 ad rfl) hpos (by omega)
  (by rw [i3]; omega)
 have hge:=grownCap_ge w rows2.length 0 e
 have hgm:=grownCap_le_maxLen w rows2.length 0 e hm
 obtain ⟨hed,hsd⟩:=hs.draw
 generalize hcp:grownCap w rows2.length 0 e=cp at hr hge hgm
 generalize harr:(flatV f2 rows2.length inf.size).toArray++Builtin.zeroCells ez.cells (cp - rows2.length)=arr' at hr
 have hsize':arr'.size=cp * inf.size:=by
  rw [← harr]
  simp only [Array.size_append,List.size_toArray,flatV_length,size_zeroCells,z1,← Nat.add_mul]
  congr 1
  omega
 obtain ⟨g',he,hs',hob',hnone⟩:=hsd.newObj (.cells arr' e) (.cells e inf.size rows2) (cp * inf.size) (fun g' he=>by
  refine ⟨arr',heap_alloc_new _ _,hsize',Nat.mul_le_mul_right _ hge,hl2,h12,fun i j row c hr hcj=>?_⟩
  have hi:i < rows2.length:=(List.getElem?_eq_some_iff.1 hr).1
  have hj:j < inf.size:=by rw [← hl2 row (List.mem_of_getElem? hr)]; exact (List.getElem?_eq_some_iff.1 hcj).1
  have hlt:=mul_add_lt hi hj
  refine ⟨f2 i j,?_,((hR2 i j row c hr hcj).ext hed).ext he⟩
  rw [← harr,← Array.getElem?_toList]
  simp only [Array.toList_append]
  rw [List.getElem?_append_left (by rw [flatV_length]; exact hlt),flatV_at f2 hi hj])
 refine ⟨_,_,g',g.next,hr,hed.trans he,hs',?_,hnone⟩
 have:=R.msl (g:=g') (w:=w.drew.alloc (.cells arr' e)) g.next inf.size 0 rows2.length cp w.drew.heap.size (cp * inf.size) hob' hge hgm (by simp)
 simpa using this
def St.bareOf (s:St):St:={ obj:=fun _=>none,tok:=fun _=>false,glob:=s.glob }
theorem StLe.bare {s s':St} (h:s'.glob=s.glob):StLe s' s.bareOf:=⟨fun _ _ h=>(by cases h),fun _ h=>(by cases h),h.symm⟩
theorem absV_agg {cs:Array Value} (h:cs.toList.all Value.oneCell'=true):absV (.agg cs)=.agg (cs.toList.map abs1):=by
 have h':cs.all Value.oneCell'=true:=by rw [← Array.all_toList]; exact h
 simp only [absV,h',cond_true]
end
end Go.AM
namespace Go.AM
open Go.RowKit (Below)
section
variable {P:Program} {n:Nat} {K:Post} {E:EPost} {T:Tmps} {st:St}
def setV (Es:List Nat) (i:Nat) (v:AV) (vs:List (Option AV)):List (Option AV):=(Es.zip vs).map fun p=>bif Nat.beq p.1 i then some v else p.2
def LinkV (Es:List Nat) (i:Nat) (vals:Nat→AV) (vs:List (Option AV)):Prop:=∀ p ∈ Es.zip vs,p.1 < i→∀ u,p.2=some u→u=vals p.1
def StepV (P:Program) (n:Nat) (I:List (Option AV)→St→Prop) (S Es:List Nat) (i:Nat) (ops:Array Oper) (T:Tmps) (vals:Nat→AV) (o:Oper) (Q:AV→Prop):Prop :=
 (wantedA ops T o=some true∧∀ vs:List (Option AV),vs.length=Es.length→mayBe S Es i (vs.map Option.isSome)=true→LinkV Es i vals vs →
  ∀ st g w a (K':Act→World→Prop) (Q':Exit→Act→World→Prop),I vs st→Sim g w st→Known g w T a→a.tmps.size=n →
   (∀ rv g' w' v st1,Ext g w g' w'→Sim g' w' st1→R g' w' v rv→Q v→I (setV Es i v vs) st1→K' (a.put o.dst rv) w')→o.wp P a w K' Q')∨(wantedA ops T o=some false∧Q (.lit undef)∧Es.contains i=false)
def DRunV (P:Program) (n:Nat) (I:List (Option AV)→St→Prop) (S Es:List Nat) (ops:Array Oper):Nat→List Oper→List (AV→Prop)→Tmps→(Nat→AV)→(Tmps→St→Prop)→Prop
 | _,[],[],T,vals,k=>∀ st,I (Es.map fun e=>some (vals e)) st→k T st
 | i,o::r,Q::Qs,T,vals,k=>(∃ u,Q u)∧dstOk o.dst n=true∧StepV P n I S Es i ops (see ops o T) vals o Q∧∀ u,Q u→DRunV P n I S Es ops (i + 1) r Qs (T.put o.dst u) (fun j=>bif Nat.beq j i then u else vals j) k
 | _,_,_,_,_,_=>False
theorem DRunV.out {I:List (Option AV)→St→Prop} {S Es:List Nat} {ops:Array Oper} {k:Tmps→St→Prop} (b:Nat) (us:Nat→AV) (l:List Oper):∀ (r:List Oper) (Qs:List (AV→Prop)) (i0:Nat) (vals:Nat→AV),(∀ (i:Nat) (o:Oper),r[i]?=some o→l[i0 + i]?=some o)→(∀ (i:Nat) (Q:AV→Prop),Qs[i]?=some Q→Q (us (b + (i0 + i)))) →
  (∀ j,b≤j→j < b + i0→vals j=us j)→(∀ e ∈ Es,b≤e∧e < b + i0 + r.length) →
  DRunV P n I S Es ops (b + i0) r Qs (ents l (fun i=>us (b + i)) i0++T) vals k→Qs.length=r.length∧(∀ st,I (Es.map fun e=>some (us e)) st→k (ents l (fun i=>us (b + i)) (i0 + r.length)++T) st) ∧
   ∀ i o,r[i]?=some o→∃ Q,dstOk o.dst n=true∧Qs[i]?=some Q∧StepV P n I S Es (b + (i0 + i)) ops (see ops o (ents l (fun i=>us (b + i)) (i0 + i)++T)) us o Q
 | [],[],i0,vals,_,_,hv,hE,h=>⟨rfl,fun st hI=>by
   have e:(Es.map fun e=>some (vals e))=Es.map fun e=>some (us e):=List.map_congr_left fun e he=>by
    obtain ⟨h1,h2⟩:=hE e he
    rw [hv e h1 (by simpa using h2)]
   have h':∀ st,I (Es.map fun e=>some (vals e)) st→k (ents l (fun i=>us (b + i)) i0++T) st:=h
   rw [e] at h'
   exact h' st hI,fun i o ho=>by simp at ho⟩
 | [],_::_,_,_,_,_,_,_,h=>h.elim
 | _::_,[],_,_,_,_,_,_,h=>h.elim
 | o::r,Q::Qs,i0,vals,hl,hq,hv,hE,h=>by
  obtain ⟨_,h2,h4,h5⟩:=h
  have h6:=h5 (us (b + i0)) (hq 0 Q rfl)
  have hl0:l[i0]?=some o:=by simpa using hl 0 o rfl
  have he:(ents l (fun i=>us (b + i)) i0++T).put o.dst (us (b + i0))=ents l (fun i=>us (b + i)) (i0 + 1)++T:=by
   rw [ents,hl0]
   simp only [Option.bind_some]
   cases o.dst <;> rfl
  rw [he,Nat.add_assoc] at h6
  obtain ⟨a1,a2,a3⟩:=DRunV.out b us l r Qs (i0 + 1) _ (fun i o' ho'=>by have:=hl (i + 1) o' (by simpa using ho'); rwa [show i0 + (i + 1)=i0 + 1 + i by omega] at this) (fun i Q' hQ'=>by have:=hq (i + 1) Q' (by simpa using hQ'); rwa [show i0 + (i + 1)=i0 + 1 + i by omega] at this)
   (fun j h1 h2=>by
    by_cases hj:j=b + i0
    ·subst hj; rw [nbeq_self]; rfl
    ·rw [nbeq_ne hj]; exact hv j h1 (by omega)) (fun e he=>by have:=hE e he; simp only [List.length_cons] at this; omega) h6
  refine ⟨by simp [a1],by rw [List.length_cons,show i0 + (r.length + 1)=i0 + 1 + r.length by omega]; exact a2,fun i o' ho'=>?_⟩
  cases i with
  | zero =>
   simp only [List.getElem?_cons_zero,Option.some.injEq] at ho'
   subst ho'
   refine ⟨Q,h2,rfl,?_⟩
   rcases h4 with ⟨hw,h4⟩|h4
   ·exact .inl ⟨hw,fun vs hl hm hlk=>h4 vs hl hm fun p hp hlt u hu=>by
     have hpe:p.1 ∈ Es:=(List.of_mem_zip hp).1
     rw [hv p.1 (hE p.1 hpe).1 hlt]
     exact hlk p hp hlt u hu⟩
   ·exact .inr h4
  | succ i =>
   obtain ⟨Q',b1,b2,b3⟩:=a3 i o' (by simpa using ho')
   exact ⟨Q',b1,by simpa using b2,by rwa [show i0 + 1 + i=i0 + (i + 1) by omega] at b3⟩
theorem DRunV.fits {I:List (Option AV)→St→Prop} {S Es:List Nat} {ops:Array Oper} {k:Tmps→St→Prop}:∀ (r:List Oper) (Qs:List (AV→Prop)) (i0:Nat) (T:Tmps) (vals:Nat→AV),DRunV P n I S Es ops i0 r Qs T vals k→∀ (i:Nat) (Q:AV→Prop),Qs[i]?=some Q→∃ u,Q u
 | [],[],_,_,_,_,i,Q,h=>by simp at h
 | [],_::_,_,_,_,h,_,_,_=>h.elim
 | _::_,[],_,_,_,h,_,_,_=>h.elim
 | o::r,Q0::Qs,i0,T,vals,h,i,Q,hq=>by
  obtain ⟨⟨u,hu⟩,h2,h4,h5⟩:=h
  cases i with
  | zero=>simp at hq; subst hq; exact ⟨u,hu⟩
  | succ i=>exact DRunV.fits r Qs _ _ _ (h5 u hu) i Q (by simpa using hq)
def valsOf (Es:List Nat) (listed:Array Bool) (us:Nat→AV):List (Option AV):=Es.map fun e=>bif listed.getD e false then some (us e) else none
theorem valsOf_some (Es:List Nat) (listed:Array Bool) (us:Nat→AV):(valsOf Es listed us).map Option.isSome=Es.map fun e=>listed.getD e false:=by
 unfold valsOf
 rw [List.map_map]
 refine List.map_congr_left fun e _=>?_
 show Option.isSome (bif listed.getD e false then some (us e) else none)=_
 cases listed.getD e false <;> rfl
theorem setV_of {listed:Array Bool} {i:Nat} (hi:i < listed.size) (us:Nat→AV) (v:AV):∀ (Es:List Nat),valsOf Es (listed.setIfInBounds i true) (fun j=>bif Nat.beq j i then v else us j)=setV Es i v (valsOf Es listed us)
 | []=>rfl
 | e::Es=>by
  have:=setV_of hi us v Es
  unfold setV valsOf at this ⊢
  rw [List.map_cons,List.map_cons,List.zip_cons_cons,List.map_cons,this]
  congr 1
  by_cases h:i=e
  ·subst h
   rw [Array.getD_eq_getD_getElem?,Array.getElem?_setIfInBounds_self_of_lt hi]
   simp only [nbeq_self,Option.getD_some,cond_true]
  ·rw [getD_set_ne false h]
   simp only [nbeq_ne (Ne.symm h),cond_false]
theorem setV_none {i:Nat} {v:AV}:∀ (Es:List Nat) (vs:List (Option AV)),vs.length=Es.length→Es.contains i=false→setV Es i v vs=vs
 | [],[],_,_=>rfl
 | [],_::_,h,_=>by simp at h
 | _::_,[],h,_=>by simp at h
 | e::Es,b::bs,h,hc=>by
  rw [List.contains_cons,Bool.or_eq_false_iff] at hc
  have:=setV_none (v:=v) Es bs (by simpa using h) hc.2
  unfold setV at this ⊢
  rw [List.zip_cons_cons,List.map_cons,this,nbeq_ne (fun h=>by subst h; simp at hc),cond_false]
theorem AAny.segV {l:List Oper} {k:Nat} (k':Nat) (S Es:List Nat) (I:List (Option AV)→St→Prop) (Qs:List (AV→Prop)) (hok:segOk l k k' Es=true) (hS:predSets l []=S) (hI:I (Es.map fun _=>none) st)
  (vals:Nat→AV) (h:DRunV P n I S Es l.toArray k ((l.drop k).take (k' - k)) Qs T vals fun T' st'=>AAny P n l k' K E T' st'):AAny P n l k K E T st:=by
 subst hS
 obtain ⟨hkk,hkl,hedge,hbody,htail,hEs⟩:=segOk_spec hok
 have hfits:=DRunV.fits _ _ _ _ _ h
 have hget:∀ i,i < k' - k→(l.drop k)[i]?=l[k + i]?:=fun i _=>List.getElem?_drop
 have hlk0:((l.drop k).take (k' - k)).length=k' - k:=by simp; omega
 have hout:=fun (us:Nat→AV) (hus:∀ (i:Nat) (Q:AV→Prop),Qs[i]?=some Q→Q (us (k + (0 + i))))=>DRunV.out (T:=T) k us (l.drop k) ((l.drop k).take (k' - k)) Qs 0 vals (fun i o ho=>by
  have hi:i < k' - k:=by have:=(List.getElem?_eq_some_iff.1 ho).1; simp at this; omega
  rw [List.getElem?_take_of_lt hi] at ho
  rwa [Nat.zero_add]) hus (fun j h1 h2=>by omega) (fun e he=>by rw [hlk0]; have:=hEs e he; omega) h
 obtain ⟨wit,hwit⟩:∃ wit:Nat→AV,∀ (i:Nat) (Q:AV→Prop),Qs[i]?=some Q→Q (wit i):=by
  have:∀ i:Nat,∃ u:AV,∀ Q:AV→Prop,Qs[i]?=some Q→Q u:=fun i=>by
   cases hq:Qs[i]? with
   | none=>exact ⟨.bool true,fun Q h=>by cases h⟩
   | some Q =>
    obtain ⟨u,hu⟩:=hfits i Q hq
    exact ⟨u,fun Q' h=>by cases h; exact hu⟩
  exact ⟨fun i=>Classical.choose (this i),fun i Q hQ=>Classical.choose_spec (this i) Q hQ⟩
 have hQl:Qs.length=k' - k:=by rw [(hout (fun j=>wit (j - k)) (fun i Q hQ=>by rw [Nat.zero_add,Nat.add_sub_cancel_left]; exact hwit i Q hQ)).1,hlk0]
 intro g0 w0 ds g1 w1 a1 m1 listed1 he1 hs1 hk1 hn1 hd1 hm1 hsz1 hli1 hc1
 let Inv:Array Bool→Act→World→Prop:=fun listed a w=>listed.size=l.length∧Closed l listed∧(∀ j,j < k→listed.getD j true=true)∧(∀ j,k'≤j→j < l.length→listed.getD j true=false)∧a.tmps.size=n∧a.defers=ds ∧
  ∃ g st1 us,Ext g0 w0 g w∧Sim g w st1∧I (valsOf Es listed us) st1 ∧
   (∀ t v,Tmps.get T t=some v→(∀ i,i < k' - k→(l[k + i]?).bind (·.dst)=some t→listed.getD (k + i) false=false)→∃ rv,a.tmps[t]?=some rv∧R g w v rv) ∧
   (∀ i Q,i < k' - k→Qs[i]?=some Q→listed.getD (k + i) false=true→Q (us (k + i))) ∧
   (∀ i d,i < k' - k→(l[k + i]?).bind (·.dst)=some d→listed.getD (k + i) false=true→∃ rv,a.tmps[d]?=some rv∧R g w (us (k + i)) rv)
 let μ:Array Bool→Nat:=fun listed=>(List.range l.length).countP fun j=>!listed.getD j true
 have hμ:∀ (listed:Array Bool) i,i < l.length→listed.size=l.length→listed.getD i true=false→μ (listed.setIfInBounds i true) + 1≤μ listed:=by
  intro listed i hil hsz hi
  have gen:∀ (A:List Nat),i ∈ A→A.countP (fun j=>!(listed.setIfInBounds i true).getD j true) + 1≤A.countP (fun j=>!listed.getD j true):=by
   have le:∀ (A:List Nat),A.countP (fun j=>!(listed.setIfInBounds i true).getD j true)≤A.countP (fun j=>!listed.getD j true):=fun A=>List.countP_mono_left fun j _ hj=>by
    by_cases hij:i=j
    ·subst hij
     rw [Array.getD_eq_getD_getElem?,Array.getElem?_setIfInBounds_self_of_lt (by omega)] at hj
     simp at hj
    ·rw [getD_set_ne true hij] at hj; exact hj
   intro A
   induction A with
   | nil=>intro h; simp at h
   | cons x A ih =>
    intro h
    rw [List.countP_cons,List.countP_cons]
    by_cases hx:x=i
    ·subst hx
     have h1:(!(listed.setIfInBounds x true).getD x true)=false:=by
      rw [Array.getD_eq_getD_getElem?,Array.getElem?_setIfInBounds_self_of_lt (by omega)]; rfl
     have h2:(!listed.getD x true)=true:=by rw [hi]; rfl
     rw [h1,h2,if_neg (by decide),if_pos rfl]
     have:=le A
     omega
    ·have hm':i ∈ A:=by rcases List.mem_cons.1 h with h|h; exact absurd h.symm hx; exact h
     have:=ih hm'
     have h3:(listed.setIfInBounds i true).getD x true=listed.getD x true:=getD_set_ne true (Ne.symm hx)
     rw [h3]
     omega
  exact gen _ (List.mem_range.2 hil)
 have fill:∀ (listed:Array Bool) (us:Nat→AV),(∀ i Q,i < k' - k→Qs[i]?=some Q→listed.getD (k + i) false=true→Q (us (k + i))) →
   ∀ (i:Nat) (Q:AV→Prop),Qs[i]?=some Q→Q ((fun j=>bif listed.getD j false then us j else wit (j - k)) (k + (0 + i))):=by
  intro listed us hB i Q hQ
  rw [Nat.zero_add]
  simp only
  have hik:i < k' - k:=by rw [← hQl]; exact (List.getElem?_eq_some_iff.1 hQ).1
  cases hc:listed.getD (k + i) false with
  | true=>exact hB i Q hik hQ hc
  | false=>rw [cond_false,Nat.add_sub_cancel_left]; exact hwit i Q hQ
 have hentsget:∀ (us:Nat→AV) (i t:Nat) v,i≤k' - k→Tmps.get (ents (l.drop k) us i) t=some v→∃ j,j < i∧(l[k + j]?).bind (·.dst)=some t∧v=us j:=fun us i t v hi hg=>by
  obtain ⟨j,hj,hdj,rfl⟩:=ents_get i t _ hg
  exact ⟨j,hj,by rw [← hget j (by omega)]; exact hdj,rfl⟩
 have hentsnone:∀ (us:Nat→AV) (i t:Nat),i≤k' - k→Tmps.get (ents (l.drop k) us i) t=none→∀ j,j < i→(l[k + j]?).bind (·.dst)≠some t:=fun us i t hi hg j hj=>by
  rw [← hget j (by omega)]
  exact ents_none i t hg j hj
 have done:∀ (m:Nat) (listed:Array Bool) (a:Act) (w:World),Inv listed a w→(∀ j,j < k'→listed.getD j true=true)→l.length≤k' + m→wpAny P .any l.toArray (QOf n ds g0 w0 K E) m listed a w:=by
  intro m listed a w ⟨hsz,hcl,hfst,htl,hn,hd,g,st1,us0,he,hs,hI1,hA,hB1,hB2⟩ hall hm'
  have hlist:∀ j,j < k'→listed.getD j false=true:=fun j hj=>by
   rw [getD_ft (by omega)]; exact hall j hj
  have hus:=fill listed us0 hB1
  obtain ⟨uf,huf⟩:∃ uf:Nat→AV,uf=fun j=>bif listed.getD j false then us0 j else wit (j - k):=⟨_,rfl⟩
  rw [← huf] at hus
  have hus2:∀ i d,i < k' - k→(l[k + i]?).bind (·.dst)=some d→listed.getD (k + i) false=true→∃ rv,a.tmps[d]?=some rv∧R g w (uf (k + i)) rv:=fun i d h1 h2 h3=>by
   rw [huf]
   simp only [h3,cond_true]
   exact hB2 i d h1 h2 h3
  obtain ⟨_,hfin,_⟩:=hout uf hus
  rw [hlk0,Nat.zero_add] at hfin
  have hIt:valsOf Es listed us0=Es.map fun e=>some (uf e):=List.map_congr_left fun e he=>by
   rw [huf]
   simp only [hlist e (hEs e he).2,cond_true]
  rw [hIt] at hI1
  refine hfin st1 hI1 g0 w0 ds g w a m listed he hs (fun t u hu=>?_) hn hd hm' hsz (fun j hj=>?_) hcl
  ·rw [get_append] at hu
   cases hg:Tmps.get (ents (l.drop k) (fun i=>uf (k + i)) (k' - k)) t with
   | some u' =>
    rw [hg] at hu
    cases hu
    obtain ⟨j,hj,hdj,rfl⟩:=hentsget (fun i=>uf (k + i)) _ t _ (Nat.le_refl _) hg
    exact hus2 j t hj hdj (hlist (k + j) (by omega))
   | none =>
    rw [hg] at hu
    exact hA t u hu fun i hi hit=>absurd hit (hentsnone (fun i=>uf (k + i)) _ t (Nat.le_refl _) hg i hi)
  ·by_cases hjk:j < k'
   ·rw [hall j hjk,decide_eq_true hjk]
   ·rw [htl j (by omega) hj,decide_eq_false hjk]
 have step:∀ (K':Act→World→Prop) (listed:Array Bool) (a:Act) (w:World) (q:Nat),Inv listed a w→q < k' - k→k + q ∈ Region.ready .any l.toArray listed→(∀ a' w',Inv (listed.setIfInBounds (k + q) true) a' w'→K' a' w') →
   wpOp P l.toArray (QOf n ds g0 w0 K E) (k + q) K' a w:=by
  intro K' listed a w q ⟨hsz,hcl,hfst,htl,hn,hd,g,st1,us0,he,hs,hI1,hA,hB1,hB2⟩ hqk hri hK
  obtain ⟨hun,o,ho,hed'⟩:=ready_edges hri
  have hil:=(List.getElem?_eq_some_iff.1 ho).1
  have hunf:listed.getD (k + q) false=false:=by
   rw [getD_ft (by omega)]; exact hun
  have hcl':=hcl.set ho hed'
  have hsz':(listed.setIfInBounds (k + q) true).size=l.length:=by simpa using hsz
  have hfst':∀ j,j < k→(listed.setIfInBounds (k + q) true).getD j true=true:=fun j h1=>by
   rw [getD_set_ne true (by omega)]; exact hfst j h1
  have htl':∀ j,k'≤j→j < l.length→(listed.setIfInBounds (k + q) true).getD j true=false:=fun j h1 h2=>by
   rw [getD_set_ne true (by omega)]; exact htl j h1 h2
  have hus:=fill listed us0 hB1
  obtain ⟨uf,huf⟩:∃ uf:Nat→AV,uf=fun j=>bif listed.getD j false then us0 j else wit (j - k):=⟨_,rfl⟩
  rw [← huf] at hus
  have hus2:∀ i d,i < k' - k→(l[k + i]?).bind (·.dst)=some d→listed.getD (k + i) false=true→∃ rv,a.tmps[d]?=some rv∧R g w (uf (k + i)) rv:=fun i d h1 h2 h3=>by
   rw [huf]
   simp only [h3,cond_true]
   exact hB2 i d h1 h2 h3
  obtain ⟨_,_,hops⟩:=hout uf hus
  obtain ⟨Q,hdn,hQi,hstep⟩:=hops q o (by rw [List.getElem?_take_of_lt hqk,hget q hqk]; exact ho)
  rw [Nat.zero_add] at hstep
  have hlooked:∀ j,j < k' - k→∀ t,(l[k + j]?).bind (·.dst)=some t→(o.looksAt l.toArray).contains t=true→listed.getD (k + j) false=true∧j < q:=by
   intro j hj t hjt hlook
   have hp:l[k + j]?=some l[k + j]:=List.getElem?_eq_getElem (by omega)
   rw [hp] at hjt
   have h2:=((hbody (k + q) o ho (by omega) (by omega)).2 (k + j) _ (by omega) (by omega) hp).2 t hjt hlook
   refine ⟨preds_listed hcl ho hed' h2,?_⟩
   have hcl2:Closed l (Array.ofFn fun x:Fin l.length=>decide (x.val < k + q)):=by
    intro x ox hx hx' y hy
    have hql:=(List.getElem?_eq_some_iff.1 hx).1
    rw [Array.getD_eq_getD_getElem?,Array.getElem?_ofFn] at hx' ⊢
    simp only [hql,dif_pos,Option.getD_some,decide_eq_true_eq] at hx'
    have hxq:=hedge x ox hx y hy
    simp only [show y < l.length by omega,dif_pos,Option.getD_some,decide_eq_true_eq]
    omega
   have h3:=preds_listed hcl2 ho (fun x hx'=>by
    have hxi:=hedge (k + q) o ho x hx'
    rw [Array.getD_eq_getD_getElem?,Array.getElem?_ofFn]
    simp only [show x < l.length by omega,dif_pos,Option.getD_some,decide_eq_true_eq]
    exact hxi) h2
   rw [Array.getD_eq_getD_getElem?,Array.getElem?_ofFn] at h3
   simp only [show k + j < l.length by omega,dif_pos,Option.getD_some,decide_eq_true_eq] at h3
   omega
  have hknown:Known g w (see l.toArray o (ents (l.drop k) (fun i=>uf (k + i)) q++T)) a:=fun t v ht=>by
   obtain ⟨hlook,hgt⟩:=get_filter _ _ _ _ ht
   rw [get_append] at hgt
   cases hg:Tmps.get (ents (l.drop k) (fun i=>uf (k + i)) q) t with
   | some u' =>
    rw [hg] at hgt
    cases hgt
    obtain ⟨j,hj,hdj,rfl⟩:=hentsget (fun i=>uf (k + i)) q t _ (by omega) hg
    exact hus2 j t (by omega) hdj (hlooked j (by omega) t hdj hlook).1
   | none =>
    rw [hg] at hgt
    refine hA t v hgt fun j hj hjt=>?_
    have h1:=hlooked j hj t hjt hlook
    exact absurd hjt (hentsnone (fun i=>uf (k + i)) q t (by omega) hg j h1.2)
  have hother:∀ t,o.dst≠some t→∀ rv',(a.put o.dst rv').tmps[t]?=a.tmps[t]?:=fun t ht rv'=>by
   cases hod:o.dst with
   | none=>rfl
   | some d =>
    simp only [Act.put,Array.getElem?_setIfInBounds]
    rw [if_neg (fun h=>ht (by rw [hod,h]))]
  have hself:∀ d,o.dst=some d→∀ rv',(a.put o.dst rv').tmps[d]?=some rv':=fun d hod rv'=>by
   have hdn':=dstOk_lt hdn d hod
   rw [hod]
   simp only [Act.put,Array.getElem?_setIfInBounds]
   simp [hn,hdn']
  have hdi:∀ d,(l[k + q]?).bind (·.dst)=some d→o.dst=some d:=fun d h=>by rw [ho] at h; exact h
  have after:∀ v rv g' w' st2,Ext g w g' w'→Sim g' w' st2→R g' w' v rv→Q v→I (setV Es (k + q) v (valsOf Es listed us0)) st2→Inv (listed.setIfInBounds (k + q) true) (a.put o.dst rv) w':=by
   intro v rv g' w' st2 he' hs' hR hQv hI2
   refine ⟨hsz',hcl',hfst',htl',by rw [Act.size_put]; exact hn,by rw [Act.defers_put]; exact hd,g',st2,fun j=>bif Nat.beq j (k + q) then v else us0 j,he.trans he',hs',by rw [setV_of (by omega)]; exact hI2,fun t u ht hwr=>?_,fun j Q' hj hjQ hjl=>?_,fun j d' hj hjd hjl=>?_⟩
   ·have htd:o.dst≠some t:=fun htd=>by
     have:=hwr q hqk (by rw [ho]; exact htd)
     rw [Array.getD_eq_getD_getElem?,Array.getElem?_setIfInBounds_self_of_lt (by omega)] at this
     simp at this
    obtain ⟨ru,h1,h2⟩:=hA t u ht fun j hj hjt=>by
     have h3:=hwr j hj hjt
     by_cases hij:q=j
     ·subst hij; exact hunf
     ·rwa [getD_set_ne false (by omega)] at h3
    exact ⟨ru,by rw [hother t htd]; exact h1,h2.ext he'⟩
   ·by_cases hij:q=j
    ·subst hij
     rw [hQi] at hjQ
     cases hjQ
     simp only [nbeq_self,cond_true]
     exact hQv
    ·rw [getD_set_ne false (by omega)] at hjl
     simp only [nbeq_ne (show k + j≠k + q by omega),cond_false]
     exact hB1 j Q' hj hjQ hjl
   ·by_cases hij:q=j
    ·subst hij
     simp only [nbeq_self,cond_true]
     exact ⟨rv,hself d' (hdi d' hjd) rv,hR⟩
    ·rw [getD_set_ne false (by omega)] at hjl
     simp only [nbeq_ne (show k + j≠k + q by omega),cond_false]
     obtain ⟨ru,h2,h3⟩:=hB2 j d' hj hjd hjl
     refine ⟨ru,?_,h3.ext he'⟩
     rw [hother d' ?_]
     ·exact h2
     ·have hp:l[k + j]?=some l[k + j]:=List.getElem?_eq_getElem (by omega)
      rw [hp] at hjd
      exact fun hdd=>((hbody (k + q) o ho (by omega) (by omega)).2 (k + j) _ (by omega) (by omega) hp).1 (by omega) d' d' hdd hjd rfl
  unfold wpOp
  simp only [List.getElem?_toArray,ho]
  rcases hstep with ⟨hw,hq1⟩|⟨hw,hq,hni⟩
  ·rw [wanted_of hknown hw,if_pos rfl]
   left
   exact hq1 _ (by simp [valsOf]) (by rw [valsOf_some]; exact may_of hcl hsz ho hed' hunf Es) (fun p hp _ u hu=>by
    obtain ⟨q',hq'⟩:=List.getElem?_of_mem hp
    rw [List.getElem?_zip_eq_some] at hq'
    obtain ⟨z1,z2⟩:=hq'
    rw [valsOf,List.getElem?_map,z1,Option.map_some,Option.some.injEq,hu] at z2
    rw [huf]
    cases hli:listed.getD p.1 false with
    | true=>rw [hli,cond_true] at z2; simp only [hli,cond_true]; exact (Option.some.inj z2).symm
    | false=>rw [hli,cond_false] at z2; cases z2) st1 g w a K' _ hI1 hs hknown hn fun rv g' w' v st2 he' hs' hR hQv hI2=>hK _ _ (after v rv g' w' st2 he' hs' hR hQv hI2)
  ·rw [wanted_of hknown hw,if_neg (by simp)]
   exact hK _ _ (after _ undef g w st1 (.refl _ _) hs (.lit _) hq (by rw [setV_none Es _ (by simp [valsOf]) hni]; exact hI1))
 have key:∀ (m:Nat) (listed:Array Bool) (a:Act) (w:World),Inv listed a w→μ listed≤m→wpAny P .any l.toArray (QOf n ds g0 w0 K E) m listed a w:=by
  intro m
  induction m with
  | zero =>
   intro listed a w hi hm0
   have hall:∀ j,j < l.length→listed.getD j true=true:=fun j hj=>by
    cases hv:listed.getD j true with
    | true=>rfl
    | false=>have:=hμ listed j hj hi.1 hv; omega
   have hlk:l.length=k':=by
    rcases Nat.eq_or_lt_of_le hkl with h'|h'
    ·exact h'.symm
    ·have h1:=hall k' h'
     have h2:=hi.2.2.2.1 k' (Nat.le_refl _) h'
     rw [h1] at h2
     cases h2
   exact done 0 listed a w hi (fun j hj=>hall j (by omega)) (by omega)
  | succ m ih =>
   intro listed a w hi hm1
   by_cases hall:∀ j,j < k'→listed.getD j true=true
   ·refine done (m + 1) listed a w hi hall ?_
    have:l.length - k'≤μ listed:=by
     exact countP_range_ge k' _ l.length fun j h1 h2=>by rw [hi.2.2.2.1 j h1 h2]; rfl
    omega
   ·have hex:∃ j,j < k'∧listed.getD j true=false∧∀ q,q < j→listed.getD q true=true:=by
     have:∃ j,j < k'∧listed.getD j true=false:=by
      apply Classical.byContradiction
      intro hno
      apply hall
      intro j hj
      cases hv:listed.getD j true with
      | true=>rfl
      | false=>exact absurd ⟨j,hj,hv⟩ hno
     obtain ⟨j,hj⟩:=this
     induction j using Nat.strongRecOn with
     | _ j ihj =>
      by_cases hq:∀ q,q < j→listed.getD q true=true
      ·exact ⟨j,hj.1,hj.2,hq⟩
      ·simp only [Classical.not_forall] at hq
       obtain ⟨q,hqj,hq⟩:=hq
       exact ihj q hqj ⟨by omega,by simpa using hq⟩
    obtain ⟨j0,hj0,hv0,hmin⟩:=hex
    have hsz:=hi.1
    have hjl:j0 < l.length:=by omega
    have hkj:k≤j0:=by
     rcases Nat.lt_or_ge j0 k with h'|h'
     ·rw [hi.2.2.1 j0 h'] at hv0; cases hv0
     ·exact h'
    have hready:j0 ∈ Region.ready .any l.toArray listed:=ready_of_edges hv0 (List.getElem?_eq_getElem hjl) (fun x hx=>by
     have hxj:=hedge j0 _ (List.getElem?_eq_getElem hjl) x hx
     rw [getD_ft (by omega)]
     exact hmin x hxj)
    refine ⟨fun h0=>(by rw [h0] at hready; cases hready),fun i hri=>?_⟩
    obtain ⟨hun,o,ho,hed'⟩:=ready_edges hri
    have hil:=(List.getElem?_eq_some_iff.1 ho).1
    have hik:i < k':=by
     rcases Nat.lt_or_ge i k' with h'|h'
     ·exact h'
     ·have h1:=preds_listed hi.2.1 ho hed' (htail i o h' ho j0 hkj hj0)
      rw [getD_ft (by omega),hv0] at h1
      cases h1
    have hki:k≤i:=by
     rcases Nat.lt_or_ge i k with h'|h'
     ·rw [hi.2.2.1 i h'] at hun; cases hun
     ·exact h'
    obtain ⟨q,rfl⟩:∃ q,i=k + q:=⟨i - k,by omega⟩
    exact step _ listed a w q hi (by omega) hri fun a' w' hi'=>ih _ a' w' hi' (by have:=hμ listed (k + q) hil hsz hun; omega)
 refine key m1 listed1 a1 w1 ⟨hsz1,hc1,fun j hj=>by rw [hli1 j (by omega),decide_eq_true hj],fun j h1 h2=>by rw [hli1 j h2,decide_eq_false (by omega)],hn1,hd1,g1,st,fun _=>.bool true,he1,hs1,?_,fun t v ht _=>hk1 t v ht,fun i Q hi _ hl=>?_,fun i d hi hdi hl=>?_⟩ ?_
 ·have:valsOf Es listed1 (fun _=>.bool true)=Es.map fun _=>none:=List.map_congr_left fun e he=>by
   obtain ⟨h1,h2⟩:=hEs e he
   rw [getD_ft (by omega),hli1 e (by omega),decide_eq_false (by omega)]
   rfl
  rw [this]
  exact hI
 ·rw [getD_ft (by omega),hli1 (k + i) (by omega),decide_eq_false (by omega)] at hl
  cases hl
 ·rw [getD_ft (by omega),hli1 (k + i) (by omega),decide_eq_false (by omega)] at hl
  cases hl
 ·have h2:μ listed1=(List.range l.length).countP fun j=>!decide (j < k):=List.countP_congr fun j hj=>by rw [hli1 j (List.mem_range.1 hj)]
  rw [h2]
  have h3:∀ N,(List.range N).countP (fun j=>!decide (j < k))≤N - k:=by
   intro N
   induction N with
   | zero=>simp
   | succ N ih =>
    rw [List.range_succ,List.countP_append,List.countP_singleton]
    by_cases hN:N < k
    ·simp only [hN,decide_true,Bool.not_true,Bool.false_eq_true,if_false]; omega
    ·simp only [hN,decide_false,Bool.not_false,if_true]; omega
  have:=h3 l.length
  omega
def IV (J:List (Option AV)→St→Prop) (base:St) (vs:List (Option AV)) (s:St):Prop:=J vs s∧StLe s base
variable {J:List (Option AV)→St→Prop} {base:St} {S Es:List Nat} {ops:Array Oper} {Qs:List (AV→Prop)} {vals:Nat→AV}
theorem dqV {i:Nat} {o:Oper} {r:List Oper} {d:Tmp} {v:AV} {k:Tmps→St→Prop} (hi:Es.contains i=false:=by exact rfl) (hd:dstA n o.dst=some d:=by exact rfl) (hw:wantedA ops (see ops o T) o=some true:=by exact rfl)
  (h:∀ st',StLe st' base→AOps P n ops [o] (fun T' st''=>∃ u,T'=(d,u)::see ops o T∧(u=v∧st''=st')) (fun _ _ _=>False) (see ops o T) st')
  (z:DRunV P n (IV J base) S Es ops (i + 1) r Qs ((d,v)::T) (fun j=>bif Nat.beq j i then v else vals j) k):DRunV P n (IV J base) S Es ops i (o::r) ((fun u=>u=v)::Qs) T vals k:=by
 obtain ⟨hd',hdn⟩:=dstA_some hd
 refine ⟨⟨v,rfl⟩,hdn,.inl ⟨hw,fun vs hl _ _=>?_⟩,fun u hu=>?_⟩
 ·intro s g w a K' Q' ⟨hJ,hle⟩ hs hk hn hK
  refine AOps.single hd' (dstOk_lt hdn d hd') (h s hle) hw hs hk K' Q' (fun rv g' w' u st' he hs' hR ⟨hu,hst⟩=>?_) hn
  subst hu hst
  exact hK rv g' w' u st' he hs' hR rfl (by rw [setV_none Es vs hl hi]; exact ⟨hJ,hle⟩)
 ·subst hu
  rw [hd']
  exact z
theorem dsV {i:Nat} {o:Oper} {r:List Oper} {d:Tmp} {v:AV} {k:Tmps→St→Prop} (hi:Es.contains i=false:=by exact rfl) (hs:step1 ops n base (see ops o T) o=some (d,v):=by exact rfl)
  (z:DRunV P n (IV J base) S Es ops (i + 1) r Qs ((d,v)::T) (fun j=>bif Nat.beq j i then v else vals j) k):DRunV P n (IV J base) S Es ops i (o::r) ((fun u=>u=v)::Qs) T vals k:=by
 have hg:goes ops n (see ops o T) o=some d:=by
  unfold step1 at hs
  split at hs
  ·rename_i h1 h2
   cases hs
   exact h1
  ·cases hs
 obtain ⟨hw,hd,hok⟩:=goes_some hg
 have hda:dstA n o.dst=some d:=by
  unfold goes at hg
  rw [hw] at hg
  exact hg
 exact dqV hi hda hw (fun st' hle=>sm ((step1_glob (n:=n) (ops:=ops) hle.glob (see ops o T) o).symm.trans hs) (nl ⟨v,rfl,rfl,rfl⟩)) z
theorem deV (Q:AV→Prop) (L:List (List Bool)) {i:Nat} {o:Oper} {r:List Oper} {d:Tmp} {k:Tmps→St→Prop} (hL:(allBits Es.length).filter (mayBe S Es i)=L) (hd:dstA n o.dst=some d) (hw:wantedA ops (see ops o T) o=some true) (hex:∃ u,Q u)
  (h:BAll L fun bs=>∀ vs,vs.map Option.isSome=bs→LinkV Es i vals vs→∀ s,J vs s→StLe s base→AOps P n ops [o] (fun T' st''=>∃ u,T'=(d,u)::see ops o T∧(Q u∧J (setV Es i u vs) st''∧StLe st'' base)) (fun _ _ _=>False) (see ops o T) s)
  (z:∀ u,Q u→DRunV P n (IV J base) S Es ops (i + 1) r Qs ((d,u)::T) (fun j=>bif Nat.beq j i then u else vals j) k):DRunV P n (IV J base) S Es ops i (o::r) (Q::Qs) T vals k:=by
 obtain ⟨hd',hdn⟩:=dstA_some hd
 refine ⟨hex,hdn,.inl ⟨hw,fun vs hl hm hlk=>?_⟩,fun u hu=>?_⟩
 ·intro s g w a K' Q' ⟨hJ,hle⟩ hs hk hn hK
  have h':=h.get (vs.map Option.isSome) (by rw [← hL,List.mem_filter]; exact ⟨by rw [← hl,← List.length_map (f:=Option.isSome)]; exact mem_allBits _,hm⟩) vs rfl hlk s hJ hle
  exact AOps.single hd' (dstOk_lt hdn d hd') h' hw hs hk K' Q' (fun rv g' w' u st' he hs' hR hu=>hK rv g' w' u st' he hs' hR hu.1 hu.2) hn
 ·rw [hd']
  exact z u hu
theorem dnW (L:List (List Bool)) {i:Nat} {o:Oper} {r:List Oper} {k:Tmps→St→Prop} (hL:(allBits Es.length).filter (mayBe S Es i)=L) (hd:o.dst=none) (hw:wantedA ops (see ops o T) o=some true)
  (h:BAll L fun bs=>∀ vs,vs.map Option.isSome=bs→LinkV Es i vals vs→∀ s,J vs s→StLe s base→AOps P n ops [o] (fun T' st''=>T'=see ops o T∧(∀ u,J (setV Es i u vs) st'')∧StLe st'' base) (fun _ _ _=>False) (see ops o T) s)
  (z:∀ u,DRunV P n (IV J base) S Es ops (i + 1) r Qs T (fun j=>bif Nat.beq j i then u else vals j) k):DRunV P n (IV J base) S Es ops i (o::r) ((fun _=>True)::Qs) T vals k:=by
 refine ⟨⟨.bool true,trivial⟩,by rw [hd]; rfl,.inl ⟨hw,fun vs hl hm hlk=>?_⟩,fun u _=>?_⟩
 ·intro s g w a K' Q' ⟨hJ,hle⟩ hs hk hn hK
  have h':=h.get (vs.map Option.isSome) (by rw [← hL,List.mem_filter]; exact ⟨by rw [← hl,← List.length_map (f:=Option.isSome)]; exact mem_allBits _,hm⟩) vs rfl hlk s hJ hle
  exact AOps.singleN h' hw hs hk K' Q' (fun rv g' w' st' he hs' hst=>hK rv g' w' (.lit rv) st' he hs' (.lit rv) trivial ⟨hst.1 _,hst.2⟩) hn
 ·rw [hd]
  exact z u
theorem dnV {i:Nat} {k:Tmps→St→Prop} (h:∀ s,J (Es.map fun e=>some (vals e)) s→k T s):DRunV P n (IV J base) S Es ops i [] [] T vals k:=fun s hs=>h s hs.1
theorem AAny.segW {l:List Oper} {k:Nat} (k':Nat) (Es:List Nat) (J:List (Option AV)→St→Prop) (base:St) {Qs:List (AV→Prop)} (hok:segOk l k k' Es=true) (hJ:J (Es.map fun _=>none) st) (hb:StLe st base)
  (h:DRunV P n (IV J base) (predSets l []) Es l.toArray k ((l.drop k).take (k' - k)) Qs T (fun _=>.bool true) fun T' st'=>AAny P n l k' K E T' st'):AAny P n l k K E T st :=
 AAny.segV k' _ Es (IV J base) Qs hok rfl ⟨hJ,hb⟩ _ h
variable {rest:List Oper} {ty:TypeId} {pos:String} {es:Array Edge} {gd:Option (Nat × Bool)} {d:Tmp} {x y:Operand} {dd:Option Tmp}
theorem bs0 {t e:TypeId} {sz eby:Nat} {ez:Value} [hu:Und P t (.slice e)] [hie:Inf P e sz eby ez] (hg:goes ops n T ⟨dd,.buildSlice t 0 #[],ty,pos,es,gd⟩=some d:=by exact rfl)
  (z:AOps P n ops rest K E ((d,.view sz [] .full)::T) st):AOps P n ops (⟨dd,.buildSlice t 0 #[],ty,pos,es,gd⟩::rest) K E T st:=by
 refine AOps.stepAny hg fun g w a hs hk=>?_
 have hrun:(Instr.buildSlice t 0 #[]).run P w=.ok (.slice (some ⟨w.heap.size,0,none⟩) 0 0) (w.alloc (.cells #[] e)) :=
  run_buildSlice (P:=P) (e:=e) (len:=0) (sz:=sz) (eby:=eby) (ez:=ez) (by simp) #[] #[] w (by rw [Nat.zero_mul,show Array.map (fun x=>ez.cells[x % ez.cells.size]!) (Array.range 0)=#[] by simp]; rfl)
 obtain ⟨g',he,hs',_,_,_,_,_⟩:=hs.newImm (.cells #[] e) (fun _=>False)
 exact ⟨.slice (some ⟨w.heap.size,0,none⟩) 0 0,g',w.alloc (.cells #[] e),.view sz [] .full,st,by simp [execOp,hrun],he,hs',.vemp _ _ _ (fun h=>by cases h) (show (0:Nat)=0 from rfl),z⟩
end
end Go.AM
namespace Go.AM
section
variable {P:Program} {n:Nat} {K:Post} {E:EPost} {T:Tmps} {st:St} {ops:Array Oper} {rest:List Oper} {d:Tmp} {dd:Option Tmp} {x y:Operand} {ty:TypeId} {pos:String} {es:Array Edge} {gd:Option (Nat × Bool)}
theorem ixgA {t e:TypeId} {td:TypeDesc} {len sz by_:Nat} {zz:Value} {cs:List AV} {k:IntKind} {i:Int} {m:Nat} {row:List AV} [hu:Und P t (.array len e)] [hq:Und P e td] [hi:Inf P e sz by_ zz]
  (hg:goes ops n T ⟨dd,.index t x y,ty,pos,es,gd⟩=some d) (ha:aggD td=true) (hx:ev st T x=some (.agg cs)) (hy:ev st T y=some (.int k i)) (hm:i=m) (hlt:m < len) (hle:m * sz + sz≤cs.length) (hrow:(cs.drop (m * sz)).take sz=row)
  (h:AOps P n ops rest K E ((d,.agg row)::T) st):AOps P n ops (⟨dd,.index t x y,ty,pos,es,gd⟩::rest) K E T st:=by
 obtain ⟨hw,hd,hok⟩:=goes_some hg
 simp only at hd
 subst hd
 refine AOps.pure hw hok _ (fun g w a hs hk=>?_) h
 have h1:=ev_R hs hk hx
 have h2:=ev_R hs hk hy
 generalize hux:a.eval x=ux at h1
 generalize huy:a.eval y=uy at h2
 subst hm
 cases h2
 subst hrow
 cases h1 with
 | agg _ us hl h1' hh =>
  have hle':m * sz + sz≤us.size:=hl ▸ hle
  refine ⟨.agg (us.extract (m * sz) (m * sz + sz)),?_,?_⟩
  ·simp [execOp,hux,huy,Instr.index,asIntOf,run_und (P:=P) (t:=t) w,hlt,run_size (P:=P) (t:=e) w,part,run_isAgg (P:=P) (t:=e) w,ha]
  ·refine .agg _ _ (by simp; omega) (fun c hc=>h1' c (List.mem_of_mem_drop (List.mem_of_mem_take hc))) ?_
   intro i c rv hc hv
   have hi:i < sz:=by
    have:=(List.getElem?_eq_some_iff.1 hc).1
    simp at this
    omega
   refine hh (m * sz + i) c rv ?_ ?_
   ·rw [List.getElem?_take_of_lt hi,List.getElem?_drop] at hc
    exact hc
   ·rw [Array.getElem?_extract] at hv
    split at hv
    ·exact hv
    ·cases hv
end
section
variable {P:Program} {n:Nat} {T:Tmps} {base:St} {ops:Array Oper} {sts:List St} {Es:List Nat}
end
end Go.AM
namespace Go.AM
open Go.RowKit (Below shut_bool)
open Go.ChangeShapes Go.WideShapes Go.ChangeAt

def HasTyW (P:Program):Nat→TypeId→List AV→Prop
 | 0,_,_=>False
 | n + 1,t,cs=>match P.underlying t with
  | some .bool=>∃ b,cs=[.bool b]
  | some (.int k)=>∃ x,cs=[.int k x]∧(Lit.int k x).wf=true
  | some .string=>∃ l:List UInt8,cs=[.str l]∧l.length≤reachBytes
  | some (.slice e)=>∃ rows:List (List AV),cs=[.view (P.cellsOf e) rows .shared]∧rows.length * P.bytesOf e≤reachBytes∧∀ row ∈ rows,HasTyW P n e row
  | some (.struct fs)=>cs.length=P.cellsOf t∧∀ f ∈ fs.toList,HasTyW P n f.type ((cs.drop f.offset).take (P.cellsOf f.type))
  | some (.array m e)=>cs.length=P.cellsOf t∧∀ i,i < m→HasTyW P n e ((cs.drop (i * P.cellsOf e)).take (P.cellsOf e))
  | _=>False
section
variable {H:Type} {enc:TypeId × Value→H} {P:Program}
def ArgTyW (P:Program) (t:TypeId) (a:AV):Prop:=∃ fuel cs,HasTyW P fuel t cs∧((∃ td,P.underlying t=some td∧aggD td=true∧a=.agg cs)∨(∃ td,P.underlying t=some td∧aggD td=false∧cs=[a]))
theorem HasTyW.one {fuel:Nat} {t:TypeId} {cs:List AV} (h:HasTyW P fuel t cs) {td:TypeDesc} (hu:P.underlying t=some td) (ha:aggD td=false):∃ a,cs=[a]∧a.cells=[a]:=by
 cases fuel with
 | zero=>cases h
 | succ n =>
  unfold HasTyW at h
  rw [hu] at h
  cases td <;> simp only [aggD,reduceCtorEq] at ha h
  ·obtain ⟨b,rfl⟩:=h; exact ⟨_,rfl,rfl⟩
  ·obtain ⟨x,rfl,_⟩:=h; exact ⟨_,rfl,rfl⟩
  ·obtain ⟨l,rfl,_⟩:=h; exact ⟨_,rfl,rfl⟩
  ·obtain ⟨rows,rfl,_⟩:=h; exact ⟨_,rfl,rfl⟩
end
end Go.AM
namespace Go.AM
section
variable {P:Program} {t:TypeId} {a:AV} {n:Nat} {cs:List AV}
theorem HasTyW.field (h:HasTyW P (n + 1) t cs) (f:Nat) {off:Nat} {ft:TypeId} [hf:Fld P t f off ft]:HasTyW P n ft ((cs.drop off).take (P.cellsOf ft)):=by
 obtain ⟨fs,fld,h1,h2,h3,h4⟩:=hf.out
 unfold HasTyW at h
 rw [h1] at h
 have hm:fld ∈ fs.toList:=by
  rw [← Array.getElem?_toList] at h2
  exact List.mem_of_getElem? h2
 have:=h.2 fld hm
 rw [h3,h4] at this
 exact this
theorem HasTyW.len {fs:Array Field} (h:HasTyW P (n + 1) t cs) (hu:P.underlying t=some (.struct fs)):cs.length=P.cellsOf t:=by
 unfold HasTyW at h
 rw [hu] at h
 exact h.1
theorem HasTyW.int {k:IntKind} (h:HasTyW P n t cs) (hu:P.underlying t=some (.int k)):∃ x,cs=[.int k x]∧(Lit.int k x).wf=true:=by
 cases n with
 | zero=>cases h
 | succ n =>
  unfold HasTyW at h
  rw [hu] at h
  exact h
theorem HasTyW.str (h:HasTyW P n t cs) (hu:P.underlying t=some .string):∃ l:List UInt8,cs=[.str l]∧l.length≤140737488351232:=by
 cases n with
 | zero=>cases h
 | succ n =>
  unfold HasTyW at h
  rw [hu] at h
  exact h
theorem HasTyW.slice {e:TypeId} (h:HasTyW P n t cs) (hu:P.underlying t=some (.slice e)):∃ m rows,n=m + 1∧cs=[.view (P.cellsOf e) rows .shared]∧rows.length * P.bytesOf e≤140737488351232∧∀ row ∈ rows,HasTyW P m e row:=by
 cases n with
 | zero=>cases h
 | succ n =>
  unfold HasTyW at h
  rw [hu] at h
  obtain ⟨rows,h1,h2,h3⟩:=h
  exact ⟨n,rows,rfl,h1,h2,h3⟩
theorem ArgTyW.one {td:TypeDesc} (h:ArgTyW P t a) (hu:P.underlying t=some td) (ha:aggD td=false):∃ fuel,HasTyW P fuel t [a]:=by
 obtain ⟨fuel,cs,h1,h2⟩:=h
 rcases h2 with ⟨td',hu',ha',_⟩|⟨_,_,_,rfl⟩
 ·rw [hu] at hu'
  cases hu'
  rw [ha] at ha'
  cases ha'
 ·exact ⟨fuel,h1⟩
theorem ArgTyW.agg {td:TypeDesc} (h:ArgTyW P t a) (hu:P.underlying t=some td) (ha:aggD td=true):∃ fuel cs,a=.agg cs∧HasTyW P fuel t cs:=by
 obtain ⟨fuel,cs,h1,h2⟩:=h
 rcases h2 with ⟨td',hu',ha',e⟩|⟨td',hu',ha',_⟩
 ·exact ⟨fuel,cs,e,h1⟩
 ·rw [hu] at hu'
  cases hu'
  rw [ha] at ha'
  cases ha'
end
end Go.AM
namespace Go.AM
open Go.RowKit (Below)
section
variable {P:Program} {n:Nat} {K:Post} {E:EPost} {T:Tmps} {st:St} {ops:Array Oper} {rest:List Oper}
variable {ty:TypeId} {pos:String} {es:Array Edge} {gd:Option (Nat × Bool)} {d:Tmp} {x y:Operand} {dd:Option Tmp}

end

/-! ### A deferred function -/

def ADef (P:Program) (f:FuncId) (caps:List AV) (st:St) (pv:Option AV) (Q:St→Prop):Prop :=
 ∀ g w (rcaps:Array Value),Sim g w st→caps.length=rcaps.size→(∀ (i:Nat) c v,caps[i]?=some c→rcaps[i]?=some v→R g w c v) →
  ∀ u,(match pv with|none=>u=.returning|some pv=>∃ v,u=.panicking [{ v:=v,recovered:=false }]∧R g w pv v) →
  CallsD P f rcaps u w fun e u' w'=>(∃ rv,e=.returned rv)∧settle u'=.returning∧∃ g' st',Ext g w g' w'∧Sim g' w' st'∧Q st'

section
variable {P:Program} {n:Nat}

theorem ADef.of_body {f:FuncId} {fn:Func} {id:Nat} {d1 d2:Tmp} {tys:Array TypeId} {t1 t2:TypeId} {p1 p2:String} {e1 e2:Array Edge} {c:Code} {caps:List AV} {st:St} {pv:Option AV} {Q:St→Prop}
  (hf:P.funcs[f]?=some fn)
  (hb:fn.body=some (.seq (.region id #[⟨some d1,.call ⟨.builtin .recover,#[],tys⟩,t1,p1,e1,none⟩,⟨some d2,.assign (.tmp d1),t2,p2,e2,none⟩] false) c))
  (hn:fn.ntmps=n) (hr:fn.results=#[]) (hl:Nat.ble caps.length n=true) (hd:Nat.blt d1 n=true∧Nat.blt d2 n=true)
  (h:AWP P n c (fun _ st'=>∃ st2,StLe st' st2∧Q st2) (fun e _ st'=>match e with|.ret=>∃ st2,StLe st' st2∧Q st2|_=>False)
   ((d2,pv.getD (.lit .nilIface))::(d1,pv.getD (.lit .nilIface))::zipFrom 0 caps) st):ADef P f caps st pv Q:=by
 intro g w rcaps hs hlen hcap u hu
 have hl':=Nat.ble_le hl
 have hd1:d1 < n:=Nat.lt_of_lt_of_le (Nat.lt_of_succ_le (Nat.ble_le hd.1)) (Nat.le_refl _)
 have hd2:d2 < n:=Nat.lt_of_lt_of_le (Nat.lt_of_succ_le (Nat.ble_le hd.2)) (Nat.le_refl _)
 refine callsD_of_wpS hf hb fun c₀ cs hc₀=>wpS_seq (wpS_region ?_)
 obtain ⟨rv,u',hrec,hset,hRv⟩:∃ rv u',((recoverD (c₀::cs)=some (rv,{ c₀ with mode:=u' }::cs))∨(recoverD (c₀::cs)=none∧rv=.nilIface∧{ c₀ with mode:=u' }=c₀))∧settle u'=.returning ∧
   R g w (pv.getD (.lit .nilIface)) rv:=by
  cases pv with
  | none =>
   simp only at hu
   subst hu
   refine ⟨.nilIface,.returning,.inr ⟨?_,rfl,?_⟩,rfl,.lit _⟩
   ·simp [recoverD,hc₀]
   ·rw [← hc₀]
  | some pv =>
   obtain ⟨v,rfl,hv⟩:=hu
   refine ⟨v,.panicking [{ v:=v,recovered:=true }],.inl ?_,rfl,hv⟩
   simp [recoverD,hc₀]
 have fin:∀ a':Act,a'.tmps.size=n→a'.defers=[]→Known g w ((d2,pv.getD (.lit .nilIface))::(d1,pv.getD (.lit .nilIface))::zipFrom 0 caps) a' →
   c.wpS P (bodyPostS P fn c₀ cs fun e u' w'=>(∃ rv,e=.returned rv)∧settle u'=.returning∧∃ g' st',Ext g w g' w'∧Sim g' w' st'∧Q st') a' ({ c₀ with mode:=u' }::cs) w:=by
  intro a' ha hde hka
  refine wpS_of_wp (Code.wp_mono (fun e a2 w2 hq=>?_) (h g w a' hs hka ha))
  obtain ⟨h1,h2,g',T',st',h3,h4,h5,h6⟩:=hq
  have fin2:(∃ st2,StLe st' st2∧Q st2)→a2.defers=[]∧∃ u'',({ c₀ with mode:=u' }::cs:List Frame)={ c₀ with mode:=u'' }::cs∧∃ v,(results fn a2.tmps).run P w2=.ok v w2 ∧
    ((∃ rv,Ending.returned v=.returned rv)∧settle u''=.returning∧∃ g' st',Ext g w g' w2∧Sim g' w2 st'∧Q st'):=by
   rintro ⟨st2,hle,hQ⟩
   have hres:resA P st' T' fn.results.toList=some []:=by rw [hr]; rfl
   obtain ⟨rv',hrun,_⟩:=results_R (fn:=fn) h4 h5 hres
   exact ⟨h2.trans hde,u',rfl,rv',hrun,⟨_,rfl⟩,hset,g',st2,h3,h4.le hle,hQ⟩
  cases e with
  | normal=>exact fin2 h6
  | ret=>exact fin2 h6
  | panic ch=>obtain ⟨_,_,_,_,hf'⟩:=h6; exact hf'.elim
  | exit id=>exact h6.elim
  | goto l=>exact h6.elim
  | outgrown=>exact h6.elim
 have hk0:Known g w (zipFrom 0 caps) { tmps:=rcaps++Array.replicate (fn.ntmps - rcaps.size) undef,defers:=[] }:=by
  intro i v hv
  obtain ⟨_,h2⟩:=get_zipFrom caps 0 i v hv
  have hi:i < rcaps.size:=by rw [← hlen]; exact (List.getElem?_eq_some_iff.1 h2).1
  refine ⟨rcaps[i],?_,hcap i v _ h2 (by simp [hi])⟩
  rw [Array.getElem?_append_left hi]
  simp [hi]
 have hsz:(rcaps++Array.replicate (fn.ntmps - rcaps.size) undef).size=n:=by simp; omega
 generalize ha0:({ tmps:=rcaps++Array.replicate (fn.ntmps - rcaps.size) undef,defers:=[] }:Act)=a0 at hk0
 have hsz0:a0.tmps.size=n:=by rw [← ha0]; exact hsz
 have hde0:a0.defers=[]:=by rw [← ha0]
 have k1:Known g w ((d1,pv.getD (.lit .nilIface))::zipFrom 0 caps) (a0.put (some d1) rv):=hk0.put (d:=some d1) (fun t ht=>by cases ht; rw [hsz0]; exact hd1) hRv
 have k2:Known g w ((d2,pv.getD (.lit .nilIface))::(d1,pv.getD (.lit .nilIface))::zipFrom 0 caps) ((a0.put (some d1) rv).put (some d2) rv) :=
  k1.put (d:=some d2) (fun t ht=>by cases ht; rw [Act.size_put,hsz0]; exact hd2) hRv
 have last:=fin ((a0.put (some d1) rv).put (some d2) rv) (by rw [Act.size_put,Act.size_put]; exact hsz0) (by rw [Act.defers_put,Act.defers_put]; exact hde0) k2
 have hev:(a0.put (some d1) rv).eval (.tmp d1)=rv:=by
  simp [Act.eval,Act.put,Array.setIfInBounds,hsz0,hd1]
 have hst:∀ cs1,({ c₀ with mode:=u' }::cs:List Frame)=cs1→wpOpsS P #[⟨some d1,.call ⟨.builtin .recover,#[],tys⟩,t1,p1,e1,none⟩,⟨some d2,.assign (.tmp d1),t2,p2,e2,none⟩]
   (Exit.thenS (c.wpS P (bodyPostS P fn c₀ cs fun e u' w'=>(∃ rv,e=.returned rv)∧settle u'=.returning∧∃ g' st',Ext g w g' w'∧Sim g' w' st'∧Q st')) (bodyPostS P fn c₀ cs fun e u' w'=>(∃ rv,e=.returned rv)∧settle u'=.returning∧∃ g' st',Ext g w g' w'∧Sim g' w' st'∧Q st'))
   [1] (a0.put (some d1) rv) cs1 w:=by
  rintro cs1 rfl
  unfold wpOpsS
  have hrun:(execOp (a0.put (some d1) rv).eval ⟨some d2,.assign (.tmp d1),t2,p2,e2,none⟩).run P w=.ok (.value rv) w:=by
   show Result.ok (Next.value ((a0.put (some d1) rv).eval (.tmp d1))) w=_
   rw [hev]
  simp only [List.getElem?_toArray,List.getElem?_cons_succ,List.getElem?_cons_zero,Region.wanted,if_true,hrun,Oper.upon]
  exact last
 show wpOpsS P _ _ [0,1] a0 (c₀::cs) w
 unfold wpOpsS
 have hrun:(execOp a0.eval ⟨some d1,.call ⟨.builtin .recover,#[],tys⟩,t1,p1,e1,none⟩).run P w=.ok .recover w:=by
  simp [execOp,resolve,invoke,builtin]
 simp only [List.getElem?_toArray,List.getElem?_cons_zero,Region.wanted,if_true,hrun]
 rcases hrec with hrec|⟨hrec,rfl,hc0⟩
 ·rw [hrec]
  exact hst _ rfl
 ·rw [hrec]
  exact hst _ (by rw [hc0])


def AD (P:Program) (n:Nat) (f:FuncId) (c:Code) (K:Post) (E:EPost) (Kd:List AV→Post) (Ed:List AV→EPost) (T:Tmps) (st:St):Prop :=
 ∀ g w a,Sim g w st→Known g w T a→a.tmps.size=n→a.defers=[] →
  c.wp P (fun e a' w'=>a'.tmps.size=n∧∃ g' T' st',Ext g w g' w'∧Sim g' w' st'∧Known g' w' T' a' ∧
   ((a'.defers=[]∧Leaves K E g' w' T' st' e) ∨
    ∃ caps rcaps,a'.defers=[{ target:=.fn (.func f) rcaps,args:=#[] }]∧caps.length=rcaps.size∧(∀ (i:Nat) c v,caps[i]?=some c→rcaps[i]?=some v→R g' w' c v) ∧
     Leaves (Kd caps) (Ed caps) g' w' T' st' e)) a w

section
variable {f:FuncId} {K:Post} {E:EPost} {Kd:List AV→Post} {Ed:List AV→EPost} {T:Tmps} {st:St}

theorem AD.seq {x y:Code} (h:AWP P n x (AD P n f y K E Kd Ed) E T st):AD P n f (.seq x y) K E Kd Ed T st:=by
 intro g w a hs hk hn hd
 refine wp_seq (Code.wp_mono (fun e a' w' hq=>?_) (h g w a hs hk hn))
 obtain ⟨h1,h2,g',T',st',h3,h4,h5,h6⟩:=hq
 cases e with
 | normal=>exact Code.wp_mono (fun _ _ _ ⟨q1,g2,T2,st2,q2,q3⟩=>⟨q1,g2,T2,st2,h3.trans q2,q3⟩) (h6 g' w' a' h4 h5 h1 (h2.trans hd))
 | exit id=>exact ⟨h1,g',T',st',h3,h4,h5,.inl ⟨h2.trans hd,h6⟩⟩
 | ret=>exact ⟨h1,g',T',st',h3,h4,h5,.inl ⟨h2.trans hd,h6⟩⟩
 | panic ch=>exact ⟨h1,g',T',st',h3,h4,h5,.inl ⟨h2.trans hd,h6⟩⟩
 | goto l=>exact h6.elim
 | outgrown=>exact h6.elim

end

end
end Go.AM
