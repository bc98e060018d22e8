/- From the readings that a claim gives to abstract values, and back to what a claim asks of the end. No conditions: definitions and lemmas only. -/
import Derived.ProofKit
import Derived.DataReads
import Derived.Carry
import Derived.OpenShut
import Derived.RowKit
import Derived.LaidLaws
import Derived.LaidHandle
import Derived.ChangeVars
import Derived.Laws.Cover3
import Derived.Laws.Small
import Derived.Laws.IdiomStrings
import Derived.Laws.BytesArg
import Derived.Laws.RangeAny
import Derived.Lib.OthersKept
import Derived.Laws.StructEq
import Derived.ChangeKeysEq
import Derived.Lib.LaidTab
import Derived.Sort.Grow
import Derived.Recover
import Derived.Laws.Panics
import Derived.Lib.Builder
import Derived.Lib.UnsafeStr
import Derived.Test.YtnebahlonhfphaaGreatDoorProg
import Derived.KernelRfl
import Derived.Test.YtnebahlonhfphaaGreatDoorB1
namespace Go.AM
open Go.RowKit (Below)

def HasTy (P:Program):Nat→TypeId→List AV→Prop
 | 0,_,_=>False
 | n + 1,t,cs=>match P.underlying t with
  | some .bool=>∃ b,cs=[.bool b]
  | some (.int k)=>∃ x,cs=[.int k x]∧(Lit.int k x).wf=true
  | some .string=>∃ l:List UInt8,cs=[.str l]∧l.length≤maxLen
  | some (.slice e)=>∃ rows:List (List AV),cs=[.view (P.cellsOf e) rows .shared]∧rows.length≤maxLen∧∀ row ∈ rows,HasTy P n e row
  | some (.struct fs)=>cs.length=P.cellsOf t∧∀ f ∈ fs.toList,HasTy P n f.type ((cs.drop f.offset).take (P.cellsOf f.type))
  | some (.array m e)=>cs.length=P.cellsOf t∧∀ i,i < m→HasTy P n e ((cs.drop (i * P.cellsOf e)).take (P.cellsOf e))
  | _=>False

structure RL (g:G) (w:World) (avs:List AV) (vs:List Value):Prop where
 len:avs.length=vs.length
 one:∀ c ∈ avs,c.one=true
 rel:∀ (i:Nat) c v,avs[i]?=some c→vs[i]?=some v→R g w c v

theorem RL.nil (g:G) (w:World):RL g w [] []:=⟨rfl,(fun c h=>by cases h),(fun i c v h=>by simp at h)⟩
theorem RL.append {g:G} {w:World} {avs bs:List AV} {vs us:List Value} (h:RL g w avs vs) (k:RL g w bs us):RL g w (avs++bs) (vs++us):=by
 refine ⟨by rw [List.length_append,List.length_append,h.len,k.len],fun c hc=>(List.mem_append.1 hc).elim (h.one c) (k.one c),fun i c v hc hv=>?_⟩
 by_cases hi:i < avs.length
 ·rw [List.getElem?_append_left hi] at hc
  rw [List.getElem?_append_left (by rw [← h.len]; exact hi)] at hv
  exact h.rel i c v hc hv
 ·rw [List.getElem?_append_right (by omega)] at hc
  rw [List.getElem?_append_right (by have:=h.len; omega),← h.len] at hv
  exact k.rel _ c v hc hv
theorem RL.single {g:G} {w:World} {a:AV} {v:Value} (h1:a.one=true) (h:R g w a v):RL g w [a] [v] :=
 ⟨rfl,fun c hc=>by simp at hc; subst hc; exact h1,fun i c u hc hu=>by
  cases i with
  | zero=>simp at hc hu; subst hc; subst hu; exact h
  | succ i=>simp at hc⟩

def contig:Nat→List (Nat × Nat)→Nat→Bool
 | o,[],e=>Nat.beq o e
 | o,(off,sz)::r,e=>Nat.beq o off && contig (o + sz) r e

def kindOk (P:Program) (S:List TypeId) (t:TypeId):Bool :=
 match P.underlying t with
 | some .bool|some (.int _)|some .string=>Nat.beq (P.cellsOf t) 1
 | some (.slice e)=>Nat.beq (P.cellsOf t) 1 && S.contains e && Nat.ble 1 (P.cellsOf e)
 | some (.struct fs)=>contig 0 (fs.toList.map fun f=>(f.offset,P.cellsOf f.type)) (P.cellsOf t) && fs.toList.all fun f=>S.contains f.type
 | some (.array m e)=>Nat.beq (m * P.cellsOf e) (P.cellsOf t) && S.contains e
 | _=>false

def G0 (w:World):G:={ base:=w.heap.size,next:=0,imm:=fun b _=>b < w.heap.size,obj:=fun _=>none,tok:=fun _=>none }

theorem Sim0 (w:World) (globs:List (Nat × List AV)) (h:∀ gi row,(gi,row) ∈ globs→GlobAt (G0 w) w gi row) :
  Sim (G0 w) w { obj:=fun _=>none,tok:=fun _=>false,glob:=globs } where
 base:=Nat.le_refl _
 objs:=fun o c hc=>by cases hc
 inj:=fun o o' c c' b m m' hc=>by cases hc
 toks:=fun t ht=>by cases ht
 tobj:=fun t o c b r m ht=>by cases ht
 tinj:=fun t t' b r r' ht=>by cases ht
 immlt:=fun b i h=>h
 objlt:=fun o b m h=>by cases h
 toklt:=fun t b r h=>by cases h
 fresh:=fun n _=>⟨rfl,rfl⟩
 globs:=h

section
variable {H:Type} {enc:TypeId × Value→H} {P:Program}

theorem cells?_get {w:World} {base:Nat} {a:Addr} {n:Nat} {cs:List Value} (h:w.cells? base a n=some cs):cs.length=n∧∀ i,i < n→w.cell? (a.add i)=cs[i]?:=by
 unfold World.cells? at h
 split at h
 ·have hl:=mapM_some_length h
  simp at hl
  refine ⟨hl,fun i hi=>?_⟩
  have:=mapM_some_get h i i (by simp [hi])
  exact this
 ·cases h

theorem choose_rows {p:Nat→List AV→Prop}:∀ (n:Nat),(∀ i,i < n→∃ row,p i row)→∃ rows:List (List AV),rows.length=n∧∀ i row,rows[i]?=some row→p i row
 | 0,_=>⟨[],rfl,fun i row h=>by simp at h⟩
 | n + 1,h=>by
  obtain ⟨rows,h1,h2⟩:=choose_rows n fun i hi=>h i (by omega)
  obtain ⟨row,hr⟩:=h n (by omega)
  refine ⟨rows++[row],by simp [h1],fun i r hi=>?_⟩
  by_cases hin:i < n
  ·rw [List.getElem?_append_left (by omega)] at hi; exact h2 i r hi
  ·rw [List.getElem?_append_right (by omega)] at hi
   have:i=n:=by
    have:=(List.getElem?_eq_some_iff.1 hi).1
    simp at this; omega
   subst this
   simp [h1] at hi
   subst hi
   exact hr

theorem segs_R {g:G} {w:World} {p:Nat × Nat × TypeId→List AV→Prop} {cs:List Value}:∀ (l:List (Nat × Nat × TypeId)) (o:Nat),contig o (l.map fun x=>(x.1,x.2.1)) cs.length=true →
  (∀ x ∈ l,∃ avs,p x avs∧RL g w avs ((cs.drop x.1).take x.2.1))→(∀ x ∈ l,((cs.drop x.1).take x.2.1).length=x.2.1) →
  ∃ avs,RL g w avs (cs.drop o)∧∀ x ∈ l,o≤x.1∧p x ((avs.drop (x.1 - o)).take x.2.1)
 | [],o,h,_,_=>by
  have:=Nat.eq_of_beq_eq_true h
  subst this
  exact ⟨[],by simp; exact .nil g w,fun x hx=>by cases hx⟩
 | (off,sz,t)::r,o,h,hp,hl=>by
  simp only [List.map_cons,contig,Bool.and_eq_true] at h
  have ho:=Nat.eq_of_beq_eq_true h.1
  subst ho
  obtain ⟨as1,h1,h2⟩:=hp (o,sz,t) (by simp)
  have hlen:=hl (o,sz,t) (by simp)
  obtain ⟨as2,h3,h4⟩:=segs_R r (o + sz) h.2 (fun x hx=>hp x (List.mem_cons_of_mem _ hx)) (fun x hx=>hl x (List.mem_cons_of_mem _ hx))
  have hsplit:cs.drop o=(cs.drop o).take sz++cs.drop (o + sz):=by
   rw [← List.drop_drop,List.take_append_drop]
  have hl1:as1.length=sz:=h2.len.trans hlen
  refine ⟨as1++as2,by rw [hsplit]; exact h2.append h3,fun x hx=>?_⟩
  rcases List.mem_cons.1 hx with rfl|hx
  ·refine ⟨Nat.le_refl _,?_⟩
   simp only [Nat.sub_self,List.drop_zero]
   rw [List.take_append_of_le_length (by omega),List.take_of_length_le (by omega)]
   exact h1
  ·obtain ⟨h5,h6⟩:=h4 x hx
   refine ⟨by omega,?_⟩
   have e:x.1 - o=as1.length + (x.1 - (o + sz)):=by omega
   rw [e,← List.drop_drop,List.drop_left]
   exact h6

theorem contig_le:∀ (l:List (Nat × Nat)) (o e:Nat),contig o l e=true→o≤e∧∀ x ∈ l,x.1 + x.2≤e
 | [],o,e,h=>⟨by have:=Nat.eq_of_beq_eq_true h; omega,fun x hx=>by cases hx⟩
 | (off,sz)::r,o,e,h=>by
  simp only [contig,Bool.and_eq_true] at h
  have ho:=Nat.eq_of_beq_eq_true h.1
  obtain ⟨h1,h2⟩:=contig_le r (o + sz) e h.2
  refine ⟨by omega,fun x hx=>?_⟩
  rcases List.mem_cons.1 hx with rfl|hx
  ·simp only; omega
  ·exact h2 x hx

theorem contig_range (s:Nat):∀ (n k:Nat),contig (k * s) ((List.range' k n).map fun i=>(i * s,s)) ((k + n) * s)=true
 | 0,k=>by simp [contig]
 | n + 1,k=>by
  rw [List.range'_succ,List.map_cons,contig]
  have:=contig_range s n (k + 1)
  rw [Nat.add_mul,Nat.one_mul] at this
  rw [show k + (n + 1)=k + 1 + n by omega,this]
  simp

end
end Go.AM
namespace Go.AM
open Go.RowKit (Below shut_bool)
open Go.ChangeShapes Go.WideShapes Go.ChangeAt

section
variable {H:Type} {enc:TypeId × Value→H} {P:Program}

theorem HasTy.one {fuel:Nat} {t:TypeId} {cs:List AV} (h:HasTy P fuel t cs) {td:TypeDesc} (hu:P.underlying t=some td) (ha:aggD td=false):∃ a,cs=[a]∧a.cells=[a]:=by
 cases fuel with
 | zero=>exact h.elim
 | succ fuel =>
  unfold HasTy at h
  rw [hu] at h
  cases td <;> simp only [aggD,reduceCtorEq] at h ha
  case bool=>obtain ⟨b,rfl⟩:=h; exact ⟨_,rfl,rfl⟩
  case int k=>obtain ⟨x,rfl,_⟩:=h; exact ⟨_,rfl,rfl⟩
  case string=>obtain ⟨l,rfl,_⟩:=h; exact ⟨_,rfl,rfl⟩
  case slice e=>obtain ⟨rows,rfl,_⟩:=h; exact ⟨_,rfl,rfl⟩

theorem TrodAll.below (hl:laidOutB P=true) {W W':World} (hb:Below W.heap.size W W'):∀ (ts:List TypeId) (vs:List Value) (ds:List (DataW H)) (p:List MemPlace),(∀ t ∈ ts,P.readableRec t=true∧t < P.types.size)→(∀ x ∈ p,x.block < W.heap.size) →
  DataW.TrodAll enc P W 0 (fun _=>true) true ts vs ds p→DataW.TrodAll enc P W' 0 (fun b=>decide (b < W.heap.size)) true ts vs ds p
 | [],[],[],p,_,_,h=>h
 | t::ts,v::vs,d::ds,p,hts,hlt,h=>by
  obtain ⟨p1,q1,h1,h2,rfl⟩:=h
  exact ⟨p1,q1,Below.trod hl (hts t (by simp)).1 (hts t (by simp)).2 h1 hb (fun x hx=>hlt x (List.mem_append_left _ hx)),TrodAll.below hl hb ts vs ds q1 (fun t ht=>hts t (List.mem_cons_of_mem _ ht)) (fun x hx=>hlt x (List.mem_append_right _ hx)) h2,rfl⟩
 | [],_::_,_,_,_,_,h=>h.elim
 | [],[],_::_,_,_,_,h=>h.elim
 | _::_,[],_,_,_,_,h=>h.elim
 | _::_,_::_,[],_,_,_,h=>h.elim

end
end Go.AM
namespace Go.AM
open Go.RowKit (Below shut_bool)
open Go.ChangeShapes Go.WideShapes Go.ChangeAt

mutual
def litRow:DataW Unit→Option (List AV)
 | .lit (.int k n)=>some [.int k n]
 | .lit (.bool b)=>some [.bool b]
 | .lit (.string l)=>some [.str l]
 | .agg ds=>litRows ds
 | _=>none
def litRows:List (DataW Unit)→Option (List AV)
 | []=>some []
 | d::ds=>match litRow d,litRows ds with
  | some a,some b=>some (a++b)
  | _,_=>none
end

theorem segs_lit {g:G} {w:World} {cs:List Value}:∀ (l:List (Nat × Nat)) (o:Nat) (ds:List (DataW Unit)) (row:List AV),contig o l cs.length=true→ds.length=l.length →
  (∀ (i:Nat) x d r,l[i]?=some x→ds[i]?=some d→litRow d=some r→RL g w r ((cs.drop x.1).take x.2))→litRows ds=some row→RL g w row (cs.drop o)
 | [],o,[],row,h,_,_,hr=>by
  have:=Nat.eq_of_beq_eq_true h
  subst this
  unfold litRows at hr
  cases hr
  rw [List.drop_length]
  exact .nil g w
 | [],_,_::_,_,_,hl,_,_=>by cases hl
 | _::_,_,[],_,_,hl,_,_=>by cases hl
 | (off,sz)::l,o,d::ds,row,h,hl,hp,hr=>by
  simp only [contig,Bool.and_eq_true] at h
  have ho:=Nat.eq_of_beq_eq_true h.1
  subst ho
  unfold litRows at hr
  split at hr
  ·rename_i a b ha hb
   cases hr
   have h1:=hp 0 (o,sz) d a rfl rfl ha
   have h2:=segs_lit l (o + sz) ds b h.2 (by simpa using hl) (fun i x d r h1 h2 h3=>hp (i + 1) x d r (by simpa using h1) (by simpa using h2) h3) hb
   have hsplit:cs.drop o=(cs.drop o).take sz++cs.drop (o + sz):=by
    rw [← List.drop_drop,List.take_append_drop]
   rw [hsplit]
   exact h1.append h2
  ·cases hr

theorem trod_lit {P:Program} {enc:TypeId × Value→Unit} {S:List TypeId} (hS:∀ t ∈ S,kindOk P S t=true) {w:World} {sp:Nat→Bool} {held:Bool}:∀ (fuel:Nat) (t:TypeId) (cs:List Value) (d:DataW Unit) (ps:List MemPlace) (row:List AV),t ∈ S →
  DataW.trod enc P w 0 sp held fuel t cs=some (d,ps)→litRow d=some row→RL (G0 w) w row cs
 | 0,t,cs,d,ps,row,_,h,_=>by cases h
 | fuel + 1,t,cs,d,ps,row,ht,h,hr=>by
  have hk:=hS t ht
  have ih:=fun t cs d ps row=>trod_lit hS (w:=w) (sp:=sp) (enc:=enc) (held:=held) fuel t cs d ps row
  have h0:=h
  unfold DataW.trod at h
  unfold kindOk at hk
  cases hu:P.underlying t with
  | none=>rw [hu] at hk; cases hk
  | some td =>
   rw [hu] at h hk
   cases td <;> simp only [Bool.false_eq_true] at hk
   case bool =>
    split at h <;> first|(cases h; done)|skip
    all_goals (try (rename_i heq _; cases heq; done))
    all_goals (try (rename_i heq; cases heq; done))
    cases h
    unfold litRow at hr
    cases hr
    exact .single rfl (.bool _)
   case int k =>
    split at h <;> first|(cases h; done)|skip
    all_goals (try (rename_i heq _; cases heq; done))
    all_goals (try (rename_i heq; cases heq; done))
    rename_i k1 k' x heq
    cases heq
    split at h
    ·rename_i hc
     obtain ⟨rfl,hwf⟩:=hc
     cases h
     unfold litRow at hr
     cases hr
     exact .single rfl (.int _ _)
    ·cases h
   case string =>
    split at h <;> first|(cases h; done)|skip
    all_goals (try (rename_i heq _; cases heq; done))
    all_goals (try (rename_i heq; cases heq; done))
    rename_i s heq
    split at h
    ·cases h
     unfold litRow at hr
     cases hr
     obtain ⟨⟨l⟩⟩:=s
     exact .single rfl (.str l)
    ·cases h
   case slice e =>
    split at h <;> first|(cases h; done)|skip
    all_goals (try (rename_i heq _; cases heq; done))
    all_goals (try (rename_i heq; cases heq; done))
    ·cases h
     unfold litRow at hr
     cases hr
    ·simp only at h
     split at h
     ·obtain ⟨elems,h1,h2⟩:=Option.bind_eq_some_iff.1 h
      obtain ⟨rest,h3,h4⟩:=Option.map_eq_some_iff.1 h2
      cases h4
      unfold litRow at hr
      cases hr
     ·cases h
   case array m e =>
    simp only [Bool.and_eq_true] at hk
    obtain ⟨hsz,heS⟩:=hk
    have heS':e ∈ S:=by simpa using heS
    have hsz':=Nat.eq_of_beq_eq_true hsz
    clear h
    obtain ⟨xs,m0,hm0,hx,hlen,hxl,h1⟩:=DataW.trod_array hu h0
    obtain rfl:fuel=m0:=by omega
    cases hx
    unfold litRow at hr
    have hcont:contig 0 ((List.range m).map fun i=>(i * P.cellsOf e,P.cellsOf e)) cs.length=true:=by
     rw [hlen,← hsz']
     have:=contig_range (P.cellsOf e) m 0
     rw [Nat.zero_mul,Nat.zero_add] at this
     rw [List.range_eq_range']
     exact this
    have:=segs_lit (g:=G0 w) (w:=w) (cs:=cs) _ 0 _ row hcont (by simp [hxl]) (fun i x d r hl hd hr=>by
     simp only [List.getElem?_map,Option.map_eq_some_iff] at hl hd
     obtain ⟨j,hj,rfl⟩:=hl
     obtain ⟨y,hy,rfl⟩:=hd
     have hj':=List.getElem?_eq_some_iff.1 hj
     obtain ⟨hj1,hj2⟩:=hj'
     simp only [List.getElem_range] at hj2
     subst hj2
     have h2:=h1 i (by simpa using hj1)
     rw [hy] at h2
     exact ih e _ y.1 y.2 r heS' h2 hr) hr
    rwa [List.drop_zero] at this
   case struct fs =>
    simp only [Bool.and_eq_true] at hk
    obtain ⟨hcont0,hall⟩:=hk
    clear h
    obtain ⟨xs,m0,hm0,hx,hlen,hxl,h1⟩:=DataW.trod_struct hu h0
    obtain rfl:fuel=m0:=by omega
    cases hx
    unfold litRow at hr
    have hcont:contig 0 (fs.toList.map fun f=>(f.offset,P.cellsOf f.type)) cs.length=true:=by
     rw [hlen]
     exact hcont0
    have:=segs_lit (g:=G0 w) (w:=w) (cs:=cs) _ 0 _ row hcont (by simp [hxl]) (fun i x d r hl hd hr=>by
     simp only [List.getElem?_map,Option.map_eq_some_iff] at hl hd
     obtain ⟨f,hf,rfl⟩:=hl
     obtain ⟨y,hy,rfl⟩:=hd
     have h2:=h1 i f (by rw [← Array.getElem?_toList]; exact hf)
     rw [hy] at h2
     have hfS:f.type ∈ S:=by
      have:=List.all_eq_true.1 hall f (List.mem_of_getElem? hf)
      simpa using this
     exact ih _ _ y.1 y.2 r hfS h2 hr) hr
    rwa [List.drop_zero] at this

theorem laid_find {P:Program} {w:World}:∀ {laid:List (String × DataW Unit)} {ps:List MemPlace},DataW.LaidVars P w laid ps→∀ n d,(n,d) ∈ laid →
  ∃ g t cs fuel p,P.globalNamed n=some g∧(P.globals[g]?).map (·.type)=some t∧w.var? P n=some cs∧DataW.trod (fun _=>()) P w 0 (fun _=>true) false fuel t cs.toList=some (d,p)
 | [],_,_,n,d,h=>by cases h
 | (n0,d0)::r,ps,hL,n,d,h=>by
  obtain ⟨g,t,cs,fuel,p,q,h1,h2,h3,h4,h5,_⟩:=hL
  rcases List.mem_cons.1 h with h|h
  ·cases h
   exact ⟨g,t,cs,fuel,p,h1,h2,h3,h4⟩
  ·exact laid_find h5 n d h

theorem laid_row {P:Program} {S:List TypeId} (hS:∀ t ∈ S,kindOk P S t=true) {w:World} {laid:List (String × DataW Unit)} (hl:laidMet P laid w) {n:String} {d:DataW Unit} {row:List AV} {gi:Nat} {t:TypeId} (hm:(n,d) ∈ laid)
  (hd:litRow d=some row) (hg:P.globalNamed n=some gi) (ht:(P.globals[gi]?).map (·.type)=some t) (htS:t ∈ S) (hne:row≠[]) :
  GlobAt (G0 w) w gi row:=by
 obtain ⟨ps,hL,_⟩:=hl
 obtain ⟨g,t',cs,fuel,p,h1,h2,h3,h4⟩:=laid_find hL n d hm
 obtain rfl:=Option.some.inj (h1.symm.trans hg)
 obtain rfl:=Option.some.inj (h2.symm.trans ht)
 have hR:=trod_lit hS fuel _ _ _ _ row htS h4 hd
 have hcell:=fun i=>World.var?_cell h1 h3 i
 have hlen:row.length=cs.size:=by simpa using hR.len
 have h0:0 < row.length:=List.length_pos_iff.2 hne
 have hb:g < w.heap.size:=by
  have:=hcell 0
  rw [Array.getElem?_eq_getElem (by omega)] at this
  exact block_lt_of_cell this
 refine ⟨?_,hb,?_⟩
 rotate_left
 ·unfold World.var? at h3
  rw [h1] at h3
  simp only [Option.bind_some] at h3
  split at h3
  ·rename_i cs' ty fr hh
   cases h3
   exact ⟨_,_,_,hh,hlen.symm⟩
  ·cases h3
 have:=R.eptr (g:=G0 w) (w:=w) row.length [row] 0 0 g 0 (fun _ j=>(cs[j]?).getD undef) (by simp) (by simpa using hR.one) (fun i j hi hj=>⟨hb,by
  have hi0:i=0:=by simpa using hi
  subst hi0
  rw [Nat.zero_mul,Nat.zero_add,Nat.zero_add,hcell j,Array.getElem?_eq_getElem (by omega)]
  rfl⟩) (fun i j row' c hr hc=>by
  have hi0:i=0∧row'=row:=by
   cases i with
   | zero=>simp at hr; exact ⟨rfl,hr.symm⟩
   | succ i=>simp at hr
  obtain ⟨rfl,rfl⟩:=hi0
  have hj:j < row'.length:=(List.getElem?_eq_some_iff.1 hc).1
  have hj2:j < cs.size:=by omega
  rw [Array.getElem?_eq_getElem hj2]
  exact hR.rel j c _ hc (by simp [hj2]))
 simpa using this

end Go.AM
namespace Go.AM

variable {P:Program} {t:TypeId} {a:AV}

end Go.AM
namespace Go.AM
open Go.RowKit (Below shut_bool)
open Go.ChangeShapes Go.WideShapes Go.ChangeAt

def Small (P:Program) (t:TypeId):AV→Prop
 | .str l=>l.length≤140737488351232
 | .view _ rows _=>match P.underlying t with
  | some (.slice e)=>rows.length * P.bytesOf e≤140737488351232
  | _=>True
 | _=>True

section
variable {H:Type} {enc:TypeId × Value→H} {P:Program}

theorem trodAll_get {W:World} {sp:Nat→Bool} {held:Bool}:∀ {ts:List TypeId} {vs:List Value} {ds:List (DataW H)} {p:List MemPlace},DataW.TrodAll enc P W 0 sp held ts vs ds p →
  ∀ (i:Nat) t v d,ts[i]?=some t→vs[i]?=some v→ds[i]?=some d→∃ q,DataW.Trod enc P W 0 sp held t v d q
 | [],_,_,_,_,i,t,v,d,h,_,_=>by simp at h
 | _::_,[],_,_,_,i,t,v,d,_,h,_=>by simp at h
 | _::_,_::_,[],_,_,i,t,v,d,_,_,h=>by simp at h
 | t0::ts,v0::vs,d0::ds,p,h,i,t,v,d,h1,h2,h3=>by
  obtain ⟨p1,q1,k1,k2,_⟩:=h
  cases i with
  | zero=>simp at h1 h2 h3; subst h1; subst h2; subst h3; exact ⟨_,k1⟩
  | succ i=>exact trodAll_get k2 i t v d (by simpa using h1) (by simpa using h2) (by simpa using h3)

theorem weights_get {us:List TypeId} {gs:List (DataW H)} {p:Nat→Bool}:∀ {ts:List TypeId} {ds:List (DataW H)},ts.length=ds.length→(DataW.weightsEach P (ts++us) (ds++gs)).all p=true →
  ∀ (i:Nat) t d,ts[i]?=some t→ds[i]?=some d→(d.weights P t).all p=true
 | [],_,_,_,i,t,d,h,_=>by simp at h
 | _::_,[],h,_,_,_,_,_,_=>by cases h
 | t0::ts,d0::ds,hl,h,i,t,d,h1,h2=>by
  rw [List.cons_append,List.cons_append] at h
  unfold DataW.weightsEach at h
  rw [List.all_append,Bool.and_eq_true] at h
  cases i with
  | zero=>simp at h1 h2; subst h1; subst h2; exact h.1
  | succ i=>exact weights_get (by simpa using hl) h.2 i t d (by simpa using h1) (by simpa using h2)

end
end Go.AM
namespace Go.AM
open Go.RowKit (Below)

section
variable {P:Program} {n:Nat} {K:Post} {E:EPost} {T:Tmps} {st:St} {ops:Array Oper} {rest:List Oper}
variable {ty:TypeId} {pos:String} {es:Array Edge} {gd:Option (Nat × Bool)} {d:Tmp} {x y:Operand} {dd:Option Tmp}

theorem R.frozenC {g:G} {w:World} (hs:Sim g w st) {o sz i off:Nat} {oty:TypeId} {rows:List (List AV)} (ho:st.obj o=some (.cells oty sz rows)) {rv:Value} (h:R g w (.cptr o sz i off) rv) :
  ∃ g',Ext g w g' w∧Sim g' w (st.drop o)∧R g' w (.eptr sz rows i off) rv:=by
 cases h with
 | cptr _ _ _ _ b m hb =>
  obtain ⟨g',he,hsim,himm⟩:=hs.freeze ho hb
  obtain ⟨_,⟨arr,ha,hsz,hml,hlr,h1,hcell⟩,_⟩:=hs.objOf ho hb
  refine ⟨g',he,hsim,?_⟩
  have key:=R.eptr (g:=g') (w:=w) sz rows i off b 0 (fun i j=>arr.getD (i * sz + j) undef) hlr h1
   (fun i j hi hj=>by
    refine ⟨himm _,?_⟩
    have h2:i * sz + j < rows.length * sz:=mul_add_lt hi hj
    rw [cell_of_row w b _ arr oty (0,0) ha,Array.getD_eq_getD_getElem?,Nat.zero_add,Array.getElem?_eq_getElem (by omega)]
    rfl)
   (fun i j row c hr hcj=>by
    obtain ⟨v,hv1,hv2⟩:=hcell i j row c hr hcj
    rw [Array.getD_eq_getD_getElem?,hv1]
    exact hv2.ext he)
  rw [Nat.zero_add] at key
  exact key

theorem StLe.ofNew {st:St} {o:Nat} {c:AObj} (h:st.obj o=none):StLe ((st.set o c).drop o) st :=
 ⟨fun p x hp=>by
  have:p≠o:=St.ne_of_new h hp
  rw [St.obj_drop_ne this,St.obj_set_ne this]; exact hp,fun _ h=>h,rfl⟩

theorem AOps.fz (t:Nat) {o s i off:Nat} {oty:TypeId} {rows:List (List AV)} (ht:T.get t=some (.cptr o s i off)) (ho:st.obj o=none)
  (h:AOps P n ops rest K E ((t,.eptr s rows i off)::T) st):AOps P n ops rest K E T (st.set o (.cells oty s rows)) :=
 AOps.ghost fun g w a hs hk=>by
  obtain ⟨rv,h1,h2⟩:=hk t _ ht
  obtain ⟨g',he,hs',hR⟩:=h2.frozenC hs (St.obj_set _ _ _)
  exact ⟨g',_,_,he,hs'.le (StLe.ofNew ho),(hk.ext he).cons h1 hR,h⟩

theorem bxe {t:TypeId} {v:AV} {sz:Nat} (hg:goes ops n T ⟨dd,.box t x,ty,pos,es,gd⟩=some d) (hx:ev st T x=some v) (hv:storable v=true) (hsz:v.cells.length=sz)
  (k:AOps P n ops rest K E ((d,.eptr sz [v.cells] 0 0)::T) st):AOps P n ops (⟨dd,.box t x,ty,pos,es,gd⟩::rest) K E T st:=by
 refine bx hg hx hv hsz fun o ho=>?_
 refine AOps.fz d (by rw [Tmps.get_cons,if_pos rfl]) ho ?_
 refine AOps.weaken (T':=(d,.eptr sz [v.cells] 0 0)::T) ?_ (.refl _) k
 intro i v' hi
 rw [Tmps.get_cons] at hi
 rw [Tmps.get_cons,Tmps.get_cons]
 by_cases h:d=i
 ·rw [if_pos h] at hi ⊢
  exact ⟨_,rfl,by cases hi; exact .refl _⟩
 ·rw [if_neg h] at hi ⊢
  rw [if_neg h]
  exact ⟨_,hi,.refl _⟩

theorem bsh {t e:TypeId} {len:Nat} {esz eby:Nat} {ez:Value} {parts:Array (Nat × Operand)} {vs:List (Nat × AV)} {cs:List AV} [hu:Und P t (.slice e)] [hie:Inf P e (esz + 1) eby ez] (hg:goes ops n T ⟨dd,.buildSlice t len parts,ty,pos,es,gd⟩=some d)
  (hz:zok (esz + 1) ez=true) (hsm:Nat.ble (len * (esz + 1)) 16777216=true) (he:evParts st T parts.toList=some vs) (hf:afill (fun i=>some (i * (esz + 1),esz + 1)) ((List.replicate len (zrow ez)).flatten) vs=some cs)
  (k:AOps P n ops rest K E ((d,.view (esz + 1) (chunk (esz + 1) len cs) .shared)::T) st):AOps P n ops (⟨dd,.buildSlice t len parts,ty,pos,es,gd⟩::rest) K E T st:=by
 refine bs hg hz hsm he hf fun tk htk=>?_
 refine AOps.weaken (T':=(d,.view (esz + 1) (chunk (esz + 1) len cs) .shared)::T) ?_ (StLe.addTok _ (.refl _)) k
 intro i v' hi
 rw [Tmps.get_cons] at hi ⊢
 by_cases h:d=i
 ·rw [if_pos h] at hi ⊢
  cases hi
  exact ⟨_,rfl,.shared _ _ _⟩
 ·rw [if_neg h] at hi ⊢
  exact ⟨_,hi,.refl _⟩

theorem rowSet_all {row cs:List AV} (h:cs.length=row.length):rowSet row 0 cs=cs:=by
 simp [rowSet,h]

theorem bs1 {t e:TypeId} {esz eby:Nat} {ez:Value} {v:AV} [hu:Und P t (.slice e)] [hie:Inf P e (esz + 1) eby ez] (hg:goes ops n T ⟨dd,.buildSlice t 1 #[(0,x)],ty,pos,es,gd⟩=some d)
  (hz:zok (esz + 1) ez=true) (hsm:Nat.ble (1 * (esz + 1)) 16777216=true) (hx:ev st T x=some v) (hl:Nat.beq v.cells.length (esz + 1)=true) (hv:storable v=true)
  (k:AOps P n ops rest K E ((d,.view (esz + 1) [v.cells] .shared)::T) st):AOps P n ops (⟨dd,.buildSlice t 1 #[(0,x)],ty,pos,es,gd⟩::rest) K E T st:=by
 have hl':=Nat.eq_of_beq_eq_true hl
 obtain ⟨z1,z2,z3,z4⟩:=zok_spec hz
 have hr:rowSet (zrow ez) 0 v.cells=v.cells:=rowSet_all (by rw [hl',z3])
 refine bsh (vs:=[(0,v)]) (cs:=v.cells) hg hz hsm (by simp [evParts,hx]) ?_ ?_
 ·simp only [List.replicate_one,List.flatten_cons,List.flatten_nil,List.append_nil,afill,Nat.zero_mul,hl',nbeq_self,hv,z3,Nat.zero_add,Nat.ble_self_eq_true,Bool.and_self,cond_true,hr]
 ·have:chunk (esz + 1) 1 v.cells=[v.cells]:=by simp [chunk,← hl']
  rw [this]
  exact k

theorem sel_all {row:List AV} {sz:Nat} (h:Nat.beq sz row.length=true):sel true sz row 0=some (.agg row):=by
 have:=Nat.eq_of_beq_eq_true h
 subst this
 simp [sel,Nat.ble_self_eq_true]

theorem leW {t:TypeId} {td:TypeDesc} [hu:Und P t td] {sz by_:Nat} {zz:Value} [hi:Inf P t sz by_ zz] {s:Nat} {rows:List (List AV)} {i:Nat} {row:List AV}
  (hg:goes ops n T ⟨dd,.load t x,ty,pos,es,gd⟩=some d) (ha:aggD td=true) (hx:ev st T x=some (.eptr s rows i 0)) (hr:rows[i]?=some row) (hl:Nat.beq sz row.length=true)
  (k:AOps P n ops rest K E ((d,.agg row)::T) st):AOps P n ops (⟨dd,.load t x,ty,pos,es,gd⟩::rest) K E T st :=
 le hg hx hr (by rw [ha]; exact sel_all hl) k

theorem sos {t:TypeId} {sz by_:Nat} {zz:Value} [hi:Inf P t sz by_ zz] {o s:Nat} {rows:List (List AV)} {i off:Nat} {row:List AV} {v:AV} {oty:TypeId} {rows':List (List AV)}
  (hw:wantedA ops T ⟨none,.store t x y,ty,pos,es,gd⟩=some true) (hx:ev (st.set o (.cells oty s rows)) T x=some (.cptr o s i off)) (hy:ev (st.set o (.cells oty s rows)) T y=some v) (hr:rows[i]?=some row)
  (hv:storable v=true) (hsz:Nat.beq v.cells.length sz=true) (hle:Nat.ble (off + v.cells.length) row.length=true) (he:rows.set i (rowSet row off v.cells)=rows')
  (k:AOps P n ops rest K E T (st.set o (.cells oty s rows'))):AOps P n ops (⟨none,.store t x y,ty,pos,es,gd⟩::rest) K E T (st.set o (.cells oty s rows)) :=
 so hw hx hy (St.obj_set _ _ _) hr hv hsz hle he (by rw [St.set_set]; exact k)

theorem soV {t:TypeId} {sz by_:Nat} {zz:Value} [hi:Inf P t sz by_ zz] {o s:Nat} {row:List AV} {v:AV} {oty:TypeId}
  (hw:wantedA ops T ⟨none,.store t x y,ty,pos,es,gd⟩=some true) (hx:ev (st.set o (.cells oty s [row])) T x=some (.cptr o s 0 0)) (hy:ev (st.set o (.cells oty s [row])) T y=some v)
  (hv:storable v=true) (hsz:Nat.beq v.cells.length sz=true) (hle:Nat.beq v.cells.length row.length=true)
  (k:AOps P n ops rest K E T (st.set o (.cells oty s [v.cells]))):AOps P n ops (⟨none,.store t x y,ty,pos,es,gd⟩::rest) K E T (st.set o (.cells oty s [row])):=by
 have h:=Nat.eq_of_beq_eq_true hle
 refine sos (row:=row) hw hx hy rfl hv hsz (by rw [Nat.zero_add,h]; exact Nat.ble_self_eq_true _) ?_ k
 rw [rowSet_all h]
 rfl

theorem soN (t':Nat) {t:TypeId} {sz by_:Nat} {zz:Value} [hi:Inf P t sz by_ zz] {o s:Nat} {row:List AV} {v:AV} {oty:TypeId}
  (hw:wantedA ops T ⟨none,.store t (.tmp t') y,ty,pos,es,gd⟩=some true) (hx:T.get t'=some (.cptr o s 0 0)) (hy:ev (st.set o (.cells oty s [row])) T y=some v)
  (hv:storable v=true) (hsz:Nat.beq v.cells.length sz=true) (hle:Nat.beq v.cells.length row.length=true) (ho:st.obj o=none)
  (k:AOps P n ops rest K E ((t',.eptr s [v.cells] 0 0)::T) st):AOps P n ops (⟨none,.store t (.tmp t') y,ty,pos,es,gd⟩::rest) K E T (st.set o (.cells oty s [row])) :=
 soV hw hx hy hv hsz hle (AOps.fz t' hx ho k)

theorem TLe.consE {T T':Tmps} {i:Nat} {v v':AV} (h:T.get i=some v) (e:v=v') (ht:TLe T T'):TLe T ((i,v')::T'):=e ▸ TLe.cons' h ht

theorem ACalls.ofBody {f:FuncId} {fn:Func} {c:Code} {args:List AV} {Rt RP:AV→St→Prop} (hf:P.funcs[f]?=some fn) (hb:fn.body=some c) (hn:fn.ntmps=n) (hl:Nat.ble args.length n=true)
  (h:AWP P n c (fun T' st'=>∃ vs v st1,resA P st' T' fn.results.toList=some vs∧Le (packA vs) v∧StLe st' st1∧Rt v st1)
   (fun e T' st'=>match e with
    | .ret=>∃ vs v st1,resA P st' T' fn.results.toList=some vs∧Le (packA vs) v∧StLe st' st1∧Rt v st1
    | .panic pv=>∃ st1,StLe st' st1∧RP pv st1
    | .exit _=>False) (zipFrom 0 args) st):ACalls P f args st Rt RP:=by
 have key:=ACalls.of_body (P:=P) (Rt:=fun v st'=>∃ st1,StLe st' st1∧Rt v st1) (RP:=fun v st'=>∃ st1,StLe st' st1∧RP v st1) hf hb hn (Nat.ble_le hl) (AWP.mono h
  (fun T' st' ⟨vs,v,st1,h1,h2,h3,h4⟩=>⟨vs,v,h1,h2,st1,h3,h4⟩)
  (fun e T' st' he=>by
   cases e with
   | ret=>obtain ⟨vs,v,st1,h1,h2,h3,h4⟩:=he; exact ⟨vs,v,h1,h2,st1,h3,h4⟩
   | panic pv=>exact he
   | exit id=>exact he))
 intro g w rargs hs hlen ha
 refine (key g w rargs hs hlen ha).mono fun e w' ⟨g',st',he,hs',hq⟩=>?_
 cases e with
 | returned rv=>obtain ⟨v,x1,st1,x2,x3⟩:=hq; exact ⟨g',st1,he,hs'.le x2,v,x1,x3⟩
 | panicked ch=>obtain ⟨pv,v,x1,x2,st1,x3,x4⟩:=hq; exact ⟨g',st1,he,hs'.le x3,pv,v,x1,x2,x4⟩
 | outgrown=>exact hq.elim

theorem inc {t u:TypeId} {a:Nat} (hg:goes ops n T ⟨dd,.binOp .add t x y u,ty,pos,es,gd⟩=some d)
  (hx:ev st T x=some (.int .i64 (a:Int))) (hy:ev st T y=some (.int .i64 1)) (hc:a < 9223372036854775807)
  (k:AOps P n ops rest K E ((d,.int .i64 ((a + 1:Nat):Int))::T) st):AOps P n ops (⟨dd,.binOp .add t x y u,ty,pos,es,gd⟩::rest) K E T st :=
 adn (b:=1) hg hx hy (by omega) k

theorem cl {f:FuncId} [hf:GoFun P f] {args:Array Operand} {tys:Array TypeId} {avs:List AV} {Rt:AV→St→Prop}
  (hg:goes ops n T ⟨dd,.call ⟨.value (.func f),args,tys⟩,ty,pos,es,gd⟩=some d) (ha:evs st T args.toList=some avs)
  (hc:ACalls P f avs st Rt (fun _ _=>False)) (h:∀ v st',Rt v st'→AOps P n ops rest K E ((d,v)::T) st') :
  AOps P n ops (⟨dd,.call ⟨.value (.func f),args,tys⟩,ty,pos,es,gd⟩::rest) K E T st:=by
 obtain ⟨hw,hd,hok⟩:=goes_some hg
 simp only at hd
 subst hd
 exact AOps.callFn hw hok ha hc h (fun _ _ h=>h.elim)

theorem cle {f:FuncId} [hf:GoFun P f] {args:Array Operand} {tys:Array TypeId} {avs:List AV} {X:AV}
  (hg:goes ops n T ⟨dd,.call ⟨.value (.func f),args,tys⟩,ty,pos,es,gd⟩=some d) (ha:evs st T args.toList=some avs)
  (hc:ACalls P f avs st (fun v st'=>v=X∧st'=st) (fun _ _=>False)) (h:AOps P n ops rest K E ((d,X)::T) st) :
  AOps P n ops (⟨dd,.call ⟨.value (.func f),args,tys⟩,ty,pos,es,gd⟩::rest) K E T st :=
 cl hg ha hc (by rintro _ _ ⟨rfl,rfl⟩; exact h)

theorem tl3 {T:Tmps} {i0 i1 i2:Nat} {v0 v1 v2:AV} (h0:T.get i0=some v0) (h1:T.get i1=some v1) (h2:T.get i2=some v2):TLe T [(i0,v0),(i1,v1),(i2,v2)]:=TLe.cons' h0 (TLe.cons' h1 (TLe.cons' h2 (TLe.nil T)))
theorem tl4 {T:Tmps} {i0 i1 i2 i3:Nat} {v0 v1 v2 v3:AV} (h0:T.get i0=some v0) (h1:T.get i1=some v1) (h2:T.get i2=some v2) (h3:T.get i3=some v3):TLe T [(i0,v0),(i1,v1),(i2,v2),(i3,v3)]:=TLe.cons' h0 (TLe.cons' h1 (TLe.cons' h2 (TLe.cons' h3 (TLe.nil T))))
theorem tl5 {T:Tmps} {i0 i1 i2 i3 i4:Nat} {v0 v1 v2 v3 v4:AV} (h0:T.get i0=some v0) (h1:T.get i1=some v1) (h2:T.get i2=some v2) (h3:T.get i3=some v3) (h4:T.get i4=some v4):TLe T [(i0,v0),(i1,v1),(i2,v2),(i3,v3),(i4,v4)]:=TLe.cons' h0 (TLe.cons' h1 (TLe.cons' h2 (TLe.cons' h3 (TLe.cons' h4 (TLe.nil T)))))
theorem tl6 {T:Tmps} {i0 i1 i2 i3 i4 i5:Nat} {v0 v1 v2 v3 v4 v5:AV} (h0:T.get i0=some v0) (h1:T.get i1=some v1) (h2:T.get i2=some v2) (h3:T.get i3=some v3) (h4:T.get i4=some v4) (h5:T.get i5=some v5):TLe T [(i0,v0),(i1,v1),(i2,v2),(i3,v3),(i4,v4),(i5,v5)]:=TLe.cons' h0 (TLe.cons' h1 (TLe.cons' h2 (TLe.cons' h3 (TLe.cons' h4 (TLe.cons' h5 (TLe.nil T))))))
theorem tl7 {T:Tmps} {i0 i1 i2 i3 i4 i5 i6:Nat} {v0 v1 v2 v3 v4 v5 v6:AV} (h0:T.get i0=some v0) (h1:T.get i1=some v1) (h2:T.get i2=some v2) (h3:T.get i3=some v3) (h4:T.get i4=some v4) (h5:T.get i5=some v5) (h6:T.get i6=some v6):TLe T [(i0,v0),(i1,v1),(i2,v2),(i3,v3),(i4,v4),(i5,v5),(i6,v6)]:=TLe.cons' h0 (TLe.cons' h1 (TLe.cons' h2 (TLe.cons' h3 (TLe.cons' h4 (TLe.cons' h5 (TLe.cons' h6 (TLe.nil T)))))))
theorem rets {Rt:AV→St→Prop} {fn:Func} {T':Tmps} {st':St} {vs:List AV} {v:AV} {st1:St} (h:resA P st' T' fn.results.toList=some vs) (hl:Le (packA vs) v) (hs:StLe st' st1) (hR:Rt v st1) :
  ∃ vs v st1,resA P st' T' fn.results.toList=some vs∧Le (packA vs) v∧StLe st' st1∧Rt v st1:=⟨vs,v,st1,h,hl,hs,hR⟩

end
end Go.AM
namespace Go.AM
open Go.RowKit (Below)

section
variable {P:Program} {n:Nat} {K:Post} {E:EPost} {T:Tmps} {st:St} {ops:Array Oper} {rest:List Oper}
variable {ty:TypeId} {pos:String} {es:Array Edge} {gd:Option (Nat × Bool)} {d:Tmp} {x y:Operand} {dd:Option Tmp}

theorem St.drop_set_self (st:St) (o:Nat) (c:AObj):(st.drop o).set o c=st.set o c:=by
 simp only [St.drop,St.set]
 congr 1
 funext p
 by_cases h:p=o <;> simp [h]

theorem St.set_drop {st:St} {o p:Nat} (h:o≠p) (c:AObj):(st.drop p).set o c=(st.set o c).drop p:=by
 simp only [St.drop,St.set]
 congr 1
 funext q
 by_cases h1:q=o
 ·subst h1; simp [h]
 ·simp [h1]

theorem append_msl {g:G} {w:World} (hs:Sim g w st) {t e:TypeId} {sz by_:Nat} {ez:Value} [hu:Und P t (.slice e)] [hie:Inf P e sz by_ ez] (hsz:0 < sz) (hz:zok sz ez=true) {ty:TypeId} {o len:Nat} {rows rows2:List (List AV)} {ux uy:Value}
  (h1:R g w (.msl o sz 0 len) ux) (ho:st.obj o=some (.cells e sz rows)) (hlr:len≤rows.length) (h2:Src g w sz rows2 uy) (h0:rows2≠[]) (hb:(len + rows2.length) * by_≤140737488355328) (hm:len + rows2.length≤maxLen) :
  ∃ v w' g' o',(Builtin.append_ #[t,t] ty #[ux,uy]).run P w=.ok v w'∧Ext g w g' w'∧Sim g' w' ((st.drop o).set o' (.cells e sz (rows.take len++rows2)))∧R g' w' (.msl o' sz 0 (len + rows2.length)) v∧(o'=o∨st.obj o'=none):=by
 obtain ⟨z1,z2,z3,z4⟩:=zok_spec hz
 obtain ⟨inf,i1,i2,i3,i4⟩:=hie.out
 obtain ⟨base2,cap2,f2,rfl,hnil2,hR2,hl2,h12,hcell2,hone2⟩:=h2
 have hm64:len + rows2.length≤9223372036854775807:=by simp only [maxLen] at hm; omega
 have hpos:0 < rows2.length:=List.length_pos_iff.2 h0
 obtain ⟨ad,rfl⟩:∃ ad,base2=some ad:=by
  cases base2 with
  | none=>exact absurd (hnil2 rfl).1 h0
  | some ad=>exact ⟨ad,rfl⟩
 subst i2
 cases h1 with
 | msl _ _ _ _ cap b m hob hc hmx hfit0 =>
  obtain ⟨hbase,⟨arr,ha,hasz,hml,hl,h1',hcell⟩,hnimm⟩:=hs.objOf ho hob
  simp only [Nat.zero_mul,Nat.zero_add] at hfit0 ⊢
  have hlt:(rows.take len).length=len:=by simp; omega
  have hlrow:∀ row ∈ rows.take len++rows2,row.length=inf.size:=fun row hr=>by
   rcases List.mem_append.1 hr with h|h
   ·exact hl row (List.mem_of_mem_take h)
   ·exact hl2 row h
  have h1row:∀ row ∈ rows.take len++rows2,∀ c ∈ row,c.one=true:=fun row hr=>by
   rcases List.mem_append.1 hr with h|h
   ·exact h1' row (List.mem_of_mem_take h)
   ·exact h12 row h
  have hll:(rows.take len++rows2).length=len + rows2.length:=by rw [List.length_append,hlt]
  let f:Nat→Nat→Value:=fun i j=>arr.getD (i * inf.size + j) undef
  have hfR:∀ (i j:Nat) row c,(rows.take len)[i]?=some row→row[j]?=some c→R g w c (f i j):=by
   intro i j row c hr hcj
   have hi:i < len:=by have:=(List.getElem?_eq_some_iff.1 hr).1; rwa [hlt] at this
   rw [List.getElem?_take_of_lt hi] at hr
   obtain ⟨v,hv1,hv2⟩:=hcell i j row c hr hcj
   show R g w c (arr.getD _ _)
   rw [Array.getD_eq_getD_getElem?,hv1]
   exact hv2
  by_cases hroom:len + rows2.length≤cap
  ·
   have hfit:len * inf.size + (flatV f2 rows2.length inf.size).length≤arr.size:=by
    rw [flatV_length,hasz,← Nat.add_mul]
    exact Nat.le_trans (Nat.mul_le_mul_right _ hroom) hfit0
   have hr:=run_append_room (P:=P) w t ty e inf hu.out i1 b len cap arr ha ad rows2.length cap2 (flatV f2 rows2.length inf.size) (flatV_length _ _ _) (hcell2 ad rfl) hone2 hroom hfit
   rw [flatV_length] at hfit hr
   generalize harr:(arr.toList.take (len * inf.size)++flatV f2 rows2.length inf.size++arr.toList.drop (len * inf.size + rows2.length * inf.size)).toArray=arr' at hr
   have hmin:min (len * inf.size) arr.size=len * inf.size:=by omega
   have hlow:∀ i,i < len * inf.size→arr'[i]?=arr[i]?:=by
    intro i hi
    rw [← harr,List.getElem?_toArray,List.append_assoc,List.getElem?_append_left (by simp; omega),List.getElem?_take_of_lt hi,Array.getElem?_toList]
   have hmid:∀ q,q < rows2.length * inf.size→arr'[len * inf.size + q]?=(flatV f2 rows2.length inf.size)[q]?:=by
    intro q hq
    rw [← harr,List.getElem?_toArray,List.append_assoc,List.getElem?_append_right (by simp; omega)]
    simp only [List.length_take,Array.length_toList,hmin]
    rw [Nat.add_sub_cancel_left,List.getElem?_append_left (by rw [flatV_length]; exact hq)]
   have hsize':arr'.size=m:=by
    rw [← harr,← hasz]
    simp only [List.size_toArray,List.length_append,List.length_take,List.length_drop,Array.length_toList,flatV_length]
    omega
   obtain ⟨he,hs'⟩:=hs.write (c':=.cells e inf.size (rows.take len++rows2)) ho hob (w.setRow b arr') (by simp) rfl rfl rfl (fun k hk=>setRow_other w b k arr' hk) (fun he=>by
    refine ⟨arr',setRow_heap w b arr arr' e (0,0) ha,hsize',?_,hlrow,h1row,fun i j row c hr hcj=>?_⟩
    ·rw [hll]; exact Nat.le_trans (Nat.mul_le_mul_right _ hroom) hfit0
    ·have hj:j < inf.size:=by rw [← hlrow row (List.mem_of_getElem? hr)]; exact (List.getElem?_eq_some_iff.1 hcj).1
     by_cases hi:i < len
     ·rw [List.getElem?_append_left (by rw [hlt]; exact hi),List.getElem?_take_of_lt hi] at hr
      obtain ⟨v,hv1,hv2⟩:=hcell i j row c hr hcj
      exact ⟨v,by rw [hlow _ (mul_add_lt hi hj)]; exact hv1,hv2.ext he⟩
     ·rw [List.getElem?_append_right (by rw [hlt]; omega),hlt] at hr
      have hi2:i - len < rows2.length:=(List.getElem?_eq_some_iff.1 hr).1
      have e9:i * inf.size + j=len * inf.size + ((i - len) * inf.size + j):=by
       rw [← Nat.add_assoc,← Nat.add_mul]
       congr 2
       omega
      refine ⟨f2 (i - len) j,?_,(hR2 _ j row c hr hcj).ext he⟩
      rw [e9,hmid _ (mul_add_lt hi2 hj),flatV_at f2 hi2 hj])
   refine ⟨_,_,g,o,hr,he,by rw [St.drop_set_self]; exact hs',?_,.inl rfl⟩
   have:=R.msl (g:=g) (w:=w.setRow b arr') o inf.size 0 (len + rows2.length) cap b m hob hroom hmx (by simpa using hfit0)
   simpa using this
  ·
   have holds:∀ (q:Nat) v,(flatV f len inf.size)[q]?=some v→w.cell? ((⟨b,0,none⟩:Addr).add q)=some v:=by
    intro q v hq
    obtain ⟨h2',rfl⟩:=flatV_get hq
    have hq':q < arr.size:=by
     rw [hasz]
     exact Nat.lt_of_lt_of_le h2' (Nat.le_trans (Nat.mul_le_mul_right _ hc) hfit0)
    rw [addr_add,Nat.zero_add,cell_of_row w b _ arr e (0,0) ha]
    show arr[q]?=some (arr.getD _ _)
    rw [Nat.mul_comm (q / inf.size) inf.size,Nat.div_add_mod,Array.getD_eq_getD_getElem?,Array.getElem?_eq_getElem hq']
    rfl
   have hr:=run_append_grow (P:=P) w t ty e inf ez hu.out i1 i4 ⟨b,0,none⟩ len cap (flatV f len inf.size) (flatV_length _ _ _) holds ad rows2.length cap2 (flatV f2 rows2.length inf.size) (flatV_length _ _ _) (hcell2 ad rfl) (by omega) (by omega)
    (growslice_fits (by omega) (by rw [i3]; exact hb))
   have hge:=grownCap_ge w (len + rows2.length) cap e
   have hgm:=grownCap_le_maxLen w (len + rows2.length) cap e hm
   obtain ⟨hed,hsd⟩:=hs.draw
   generalize hcp:grownCap w (len + rows2.length) cap e=cp at hr hge hgm
   generalize harr:(flatV f len inf.size).toArray++(flatV f2 rows2.length inf.size).toArray++Builtin.zeroCells ez.cells (cp - (len + rows2.length))=arr' at hr
   have hsize':arr'.size=cp * inf.size:=by
    rw [← harr]
    simp only [Array.size_append,List.size_toArray,flatV_length,size_zeroCells,z1,← Nat.add_mul]
    congr 1
    omega
   obtain ⟨g',he,hs',hob',hnone⟩:=hsd.newObj (.cells arr' e) (.cells e inf.size (rows.take len++rows2)) (cp * inf.size) (fun g' he=>by
    refine ⟨arr',heap_alloc_new _ _,hsize',?_,hlrow,h1row,fun i j row c hr hcj=>?_⟩
    ·rw [hll]; exact Nat.mul_le_mul_right _ hge
    ·have hap:=appended_get (g:=g) (w:=w) (rows:=rows.take len) (rows2:=rows2) (f:=f) (f2:=f2) (sz:=inf.size) (fun row hr=>hl row (List.mem_of_mem_take hr)) hl2 hfR hR2 (Builtin.zeroCells ez.cells (cp - (len + rows2.length))).toList i j row c hr hcj
     rw [hlt] at hap
     obtain ⟨v,hv,hR⟩:=hap
     refine ⟨v,?_,(hR.ext hed).ext he⟩
     rw [← harr,← Array.getElem?_toList]
     simpa using hv)
   have hne:g.next≠o:=fun e=>by rw [← e] at ho; rw [ho] at hnone; cases hnone
   refine ⟨_,_,g',g.next,hr,hed.trans he,?_,?_,.inr hnone⟩
   ·rw [St.set_drop hne]
    exact hs'.le (StLe.drop o)
   ·have:=R.msl (g:=g') (w:=w.drew.alloc (.cells arr' e)) g.next inf.size 0 (len + rows2.length) cp w.drew.heap.size (cp * inf.size) hob' hge hgm (by simp)
    simpa using this

theorem slm {t e:TypeId} [hu:Und P t (.slice e)] {sz by_:Nat} {ez:Value} [hie:Inf P e sz by_ ez] {o lo len b:Nat} {k:IntKind}
  (hg:goes ops n T ⟨dd,.slice t x none (some y) none,ty,pos,es,gd⟩=some d) (hx:ev st T x=some (.msl o sz lo len)) (hy:ev st T y=some (.int k (b:Int))) (hb:b≤len)
  (kk:AOps P n ops rest K E ((d,.msl o sz lo b)::T) st):AOps P n ops (⟨dd,.slice t x none (some y) none,ty,pos,es,gd⟩::rest) K E T st:=by
 obtain ⟨hw,hd,hok⟩:=goes_some hg
 simp only at hd
 subst hd
 refine AOps.pure hw hok _ (fun g w a hs hk=>?_) kk
 have h1:=ev_R hs hk hx
 have h2:=ev_R hs hk hy
 generalize hux:a.eval x=ux at h1
 generalize huy:a.eval y=uy at h2
 cases h2
 cases h1 with
 | msl _ _ _ _ cap bk m hob hc hmx hfit =>
  obtain ⟨inf,i1,i2,i3,i4⟩:=hie.out
  have he:P.elem t=e:=by simp [Program.elem,hu.out]
  have hr:=run_slice_h (P:=P) w t (some ⟨bk,lo * sz,none⟩) len cap (by rw [he]; exact hu.out) k b (by omega) (by omega)
  refine ⟨.slice (some ⟨bk,lo * sz,none⟩) b cap,?_,.msl o sz lo b cap bk m hob (by omega) hmx hfit⟩
  simp [execOp,hux,huy,run_sliceAt_slice (P:=P) w t _ _ _ _ (by rw [he]; exact hu.out),hr,he,run_size (P:=P) (t:=e) w,sliced,addr_add]

end
end Go.AM
namespace Go.AM
open Go.RowKit (Below)

def St.toks (st:St) (L:List (Option Nat)):St:={ st with tok:=fun t=>decide (some t ∈ L) || st.tok t }

structure TokL (st:St) (L:List (Option Nat)):Prop where
 one:∀ (i j t:Nat),L[i]?=some (some t)→L[j]?=some (some t)→i=j
 fresh:∀ (i t:Nat),L[i]?=some (some t)→st.tok t=false

theorem TokL.none (st:St) (m:Nat):TokL st (List.replicate m none) where
 one:=fun i j t h=>by simp [List.getElem?_replicate] at h
 fresh:=fun i t h=>by simp [List.getElem?_replicate] at h

theorem TokL.set {st:St} {L:List (Option Nat)} (h:TokL st L) {k':Nat} (hf:(st.toks L).tok k'=false) (i:Nat):TokL st (L.set i (some k')):=by
 simp only [St.toks,Bool.or_eq_false_iff,decide_eq_false_iff_not] at hf
 have key:∀ (j t:Nat),(L.set i (some k'))[j]?=some (some t)→(j=i∧t=k')∨(j≠i∧L[j]?=some (some t)):=by
  intro j t hj
  rw [List.getElem?_set] at hj
  split at hj
  ·rename_i e
   split at hj
   ·simp only [Option.some.injEq] at hj; exact .inl ⟨e.symm,hj.symm⟩
   ·cases hj
  ·rename_i e; exact .inr ⟨fun h=>e h.symm,hj⟩
 refine ⟨fun j1 j2 t h1 h2=>?_,fun j t hj=>?_⟩
 ·rcases key j1 t h1 with ⟨e1,e2⟩|⟨e1,e2⟩ <;> rcases key j2 t h2 with ⟨e3,e4⟩|⟨e3,e4⟩
  ·omega
  ·subst e2; exact absurd (List.mem_of_getElem? e4) hf.1
  ·subst e4; exact absurd (List.mem_of_getElem? e2) hf.1
  ·exact h.one j1 j2 t e2 e4
 ·rcases key j t hj with ⟨_,rfl⟩|⟨_,e2⟩
  ·exact hf.2
  ·exact h.fresh j t e2

section
variable {P:Program} {n:Nat} {K:Post} {E:EPost} {T:Tmps} {st:St} {ops:Array Oper} {rest:List Oper}
variable {ty:TypeId} {pos:String} {es:Array Edge} {gd:Option (Nat × Bool)} {d:Tmp} {x y:Operand} {dd:Option Tmp}

end
end Go.AM
namespace Go.AM
open Go.RowKit (Below)

section
variable {P:Program} {n:Nat} {K:Post} {E:EPost} {T:Tmps} {st:St} {ops:Array Oper} {rest:List Oper}
variable {ty:TypeId} {pos:String} {es:Array Edge} {gd:Option (Nat × Bool)} {d:Tmp} {x y:Operand} {dd:Option Tmp}

theorem neb {t u:TypeId} [hu:Und P t .bool] {p q:Bool}
  (hg:goes ops n T ⟨dd,.binOp .neq t x y u,ty,pos,es,gd⟩=some d) (hx:ev st T x=some (.bool p)) (hy:ev st T y=some (.bool q))
  (k:AOps P n ops rest K E ((d,.bool (!(p == q)))::T) st):AOps P n ops (⟨dd,.binOp .neq t x y u,ty,pos,es,gd⟩::rest) K E T st:=by
 obtain ⟨hw,hd,hok⟩:=goes_some hg
 simp only at hd
 subst hd
 refine AOps.pure hw hok _ (fun g w a hs hk=>?_) k
 have h1:=ev_R hs hk hx
 have h2:=ev_R hs hk hy
 generalize hux:a.eval x=ux at h1
 generalize huy:a.eval y=uy at h2
 cases h1
 cases h2
 refine ⟨.bool (!(p == q)),?_,.bool _⟩
 simp [execOp,hux,huy,eqGuard,run_neq_bool w t p q hu.out]

end
end Go.AM
namespace Go.AM
open Go.RowKit (Below)

section
variable {P:Program} {n:Nat} {K:Post} {E:EPost} {T:Tmps} {st:St} {ops:Array Oper} {rest:List Oper}

inductive Still:AV→Prop
 | int (k:IntKind) (n:Int):Still (.int k n)
 | bool (b:Bool):Still (.bool b)
 | str (l:List UInt8):Still (.str l)
 | lit (v:Value):Still (.lit v)
 | agg (cs:List AV) (h:∀ c ∈ cs,Still c):Still (.agg cs)
 | view (sz:Nat) (rows:List (List AV)) (h:∀ row ∈ rows,∀ c ∈ row,Still c):Still (.view sz rows .shared)
 | nil (sz:Nat):Still (.view sz [] .nil)

theorem cell_lt {w:World} {b i:Nat} {v:Value} (h:w.cell? ⟨b,i,none⟩=some v):b < w.heap.size:=by
 rcases Nat.lt_or_ge b w.heap.size with h'|h'
 ·exact h'
 ·simp [World.cell?,Array.getElem?_eq_none h'] at h

theorem R.toG0 {g:G} {w:World} {a:AV} {v:Value} (h:R g w a v):Still a→R (G0 w) w a v:=by
 induction h with
 | int=>exact fun _=>.int _ _
 | bool=>exact fun _=>.bool _
 | str=>exact fun _=>.str _
 | lit=>exact fun _=>.lit _
 | agg cs vs hl h1 _ ih =>
  intro hs
  cases hs with
  | agg _ hs=>exact .agg _ _ hl h1 fun i c v hc hv=>ih i c v hc hv (hs c (List.mem_of_getElem? hc))
 | tuple=>intro hs; cases hs
 | vnil sz t ht =>
  intro hs
  cases hs with
  | view=>exact .vnil _ _ trivial
  | nil=>exact .vnil _ _ rfl
 | vemp sz t a hn ht =>
  intro hs
  cases hs with
  | view=>exact .vemp _ _ _ hn trivial
  | nil=>exact absurd rfl hn
 | view sz rows t b off cap f hc hm hsz h1 ht himm _ ih =>
  intro hs
  have key:∀ t',TokAt (G0 w) t' (some b) off rows.length cap sz→(∀ row ∈ rows,∀ c ∈ row,Still c)→R (G0 w) w (.view sz rows t') (.slice (some ⟨b,off,none⟩) rows.length cap):=fun t' ht' hst =>
   .view sz rows t' b off cap f hc hm hsz h1 ht' (fun i j hi hj=>⟨cell_lt (himm i j hi hj).2,(himm i j hi hj).2⟩) fun i j row c hr hcj=>ih i j row c hr hcj (hst row (List.mem_of_getElem? hr) c (List.mem_of_getElem? hcj))
  cases hs with
  | view _ _ hst=>exact key _ trivial hst
  | nil=>cases ht
 | eptr=>intro hs; cases hs
 | cptr=>intro hs; cases hs
 | msl=>intro hs; cases hs
 | iter=>intro hs; cases hs
 | amap=>intro hs; cases hs
 | iface=>intro hs; cases hs
 | func=>intro hs; cases hs

inductive Solid:AV→Prop
 | int (k:IntKind) (n:Int):Solid (.int k n)
 | bool (b:Bool):Solid (.bool b)
 | str (l:List UInt8):Solid (.str l)
 | lit (v:Value):Solid (.lit v)
 | nil (sz:Nat):Solid (.view sz [] .nil)

theorem Solid.R {a:AV} (hs:Solid a) {g g':G} {w w':World} {v:Value} (h:R g w a v):R g' w' a v:=by
 cases hs with
 | int=>cases h; exact .int _ _
 | bool=>cases h; exact .bool _
 | str=>cases h; exact .str _
 | lit=>cases h; exact .lit _
 | nil sz =>
  cases h with
  | vnil=>exact .vnil _ _ rfl
  | vemp _ _ _ hn _=>exact absurd rfl hn
  | view _ _ _ b off cap f hc hm hsz h1 ht himm hh=>cases ht

inductive Fresh (st:St):AV→AV→Prop
 | solid (v:AV) (h:Solid v):Fresh st v v
 | own (sz:Nat) (rows:List (List AV)) (tk:Nat) (e:TypeId) (ht:st.tok tk=true) (h:∀ row ∈ rows,∀ c ∈ row,Solid c):Fresh st (.view sz rows (.own tk e)) (.view sz rows .shared)
 | tuple (cs cs':List AV) (hl:cs.length=cs'.length) (h:∀ (i:Nat) c c',cs[i]?=some c→cs'[i]?=some c'→Fresh st c c'):Fresh st (.tuple cs) (.tuple cs')

def G.over (g:G) (w w':World) (g':G):G:={ g with imm:=fun b i=>g.imm b i∨(w.heap.size≤b∧b < w'.heap.size∧g'.imm b i) }

theorem Fresh.R {g g':G} {w w':World} {st':St} (hs':Sim g' w' st') (hb:g'.base=w.heap.size) {v v2:AV} (hf:Fresh st' v v2):∀ {rv:Value},R g' w' v rv→R (g.over w w' g') w' v2 rv:=by
 induction hf with
 | solid v h=>exact fun hr=>h.R hr
 | own sz rows tk e ht h =>
  intro rv hr
  obtain ⟨r,hr1,hr2⟩:=hs'.toks tk ht
  cases hr with
  | vnil=>exact .vnil _ _ trivial
  | vemp _ _ ad=>exact .vemp _ _ ad (fun h=>by cases h) trivial
  | view _ _ _ b off cap f hc hm hsz h1 htk himm hh =>
   obtain ⟨_,sz',_,htok⟩:=htk
   rw [hr1] at htok
   cases htok
   obtain ⟨hbase,_,_,_,⟨cur,hcur,_⟩,_⟩:=hr2
   have hlt:b < w'.heap.size:=hs'.toklt tk b _ hr1
   refine .view sz rows .shared b off cap f hc hm hsz h1 trivial (fun i j hi hj=>⟨.inr ⟨hb ▸ hbase,hlt,(himm i j hi hj).1⟩,(himm i j hi hj).2⟩) ?_
   intro i j row c hrow hcj
   exact (h row (List.mem_of_getElem? hrow) c (List.mem_of_getElem? hcj)).R (hh i j row c hrow hcj)
 | tuple cs cs' hl _ ih =>
  intro rv hr
  cases hr with
  | tuple _ vs hl' hh =>
   refine .tuple _ vs (hl ▸ hl') fun i c' v hc' hv=>?_
   have:i < cs.length:=by rw [hl]; exact (List.getElem?_eq_some_iff.1 hc').1
   exact ih i _ _ (List.getElem?_eq_getElem this) hc' (hh i _ v (List.getElem?_eq_getElem this) hv)

theorem Sim.over {g g':G} {w w':World} (hs:Sim g w st) {st':St} (_hs':Sim g' w' st') (hb:Below w.heap.size w w'):Ext g w (g.over w w' g') w'∧Sim (g.over w w' g') w' st:=by
 have hsz:w.heap.size≤w'.heap.size:=hb.size
 have he:Ext g w (g.over w w' g') w':={
  base:=rfl
  next:=Nat.le_refl _
  imm:=fun b i h=>.inl h
  cell:=fun b i h=>hb.cell (p:=⟨b,i,none⟩) (hs.immlt b i h)
  obj:=fun o b h=>h
  tok:=fun t r h=>h
  below:=hb.mono hs.base
  old:=fun b i hb' hi=>hi.elim id fun h=>absurd hb' (by have:=hs.base; omega) }
 have hblk:∀ b,b < w.heap.size→w'.heap[b]?=w.heap[b]?:=fun b h=>hb.block b h
 have himm:∀ b i,b < w.heap.size→¬ g.imm b i→¬ (g.over w w' g').imm b i:=fun b i h h1 h2=>by
  rcases h2 with h2|⟨h2,_⟩
  ·exact h1 h2
  ·omega
 refine ⟨he,?_⟩
 exact {
  base:=Nat.le_trans hs.base hsz
  objs:=fun o c hc=>by
   obtain ⟨b,m,h1,h2,h3,h4⟩:=hs.objs o c hc
   have hlt:=hs.objlt o b m h1
   exact ⟨b,m,h1,h2,h3.mono he (hblk b hlt),fun i=>himm b i hlt (h4 i)⟩
  inj:=hs.inj
  toks:=fun t ht=>by
   obtain ⟨r,h1,h2⟩:=hs.toks t ht
   refine ⟨r,h1,?_⟩
   obtain ⟨b,len,cap,e,size⟩:=r
   cases b with
   | none=>exact h2
   | some b =>
    have hlt:=hs.toklt t b _ h1
    obtain ⟨a1,a2,a3,a4,⟨cur,a5,a6⟩,a7⟩:=h2
    exact ⟨a1,a2,a3,a4,⟨cur,(hblk b hlt).trans a5,a6⟩,fun i hi=>himm b i hlt (a7 i hi)⟩
  tobj:=hs.tobj
  tinj:=hs.tinj
  immlt:=fun b i h=>by
   rcases h with h|⟨_,h,_⟩
   ·exact Nat.lt_of_lt_of_le (hs.immlt b i h) hsz
   ·exact h
  objlt:=fun o b m h=>Nat.lt_of_lt_of_le (hs.objlt o b m h) hsz
  toklt:=fun t b r h=>Nat.lt_of_lt_of_le (hs.toklt t b r h) hsz
  fresh:=hs.fresh
  globs:=fun gi row h=>(hs.globs gi row h).ext he }

def St.bare:St:={ obj:=fun _=>none,tok:=fun _=>false,glob:=[] }

theorem ACalls.fz {f:FuncId} {avs avs':List AV} {Rt:AV→St→Prop} {Rt2:AV→Prop} (hc:ACalls P f avs' St.bare Rt (fun _ _=>False))
  (hz:∀ g w (rargs:Array Value),Sim g w st→avs.length=rargs.size→(∀ (i:Nat) c v,avs[i]?=some c→rargs[i]?=some v→R g w c v) →
   ∃ g',avs'.length=rargs.size∧∀ (i:Nat) c v,avs'[i]?=some c→rargs[i]?=some v→R g' w c v∧Still c)
  (hf:∀ v st',Rt v st'→∃ v2,Fresh st' v v2∧Rt2 v2):ACalls P f avs st (fun v st'=>Rt2 v∧st'=st) (fun _ _=>False):=by
 intro g w rargs hs hl ha
 obtain ⟨g1,hl1,h1⟩:=hz g w rargs hs hl ha
 refine (hc (G0 w) w rargs (Sim0 w [] (fun gi row h=>by cases h)) hl1 fun i c v hc hv=>(h1 i c v hc hv).1.toG0 (h1 i c v hc hv).2).mono fun e w' ⟨g',st',he,hs',hq⟩=>?_
 have hb:Below w.heap.size w w':=he.below
 obtain ⟨he2,hs2⟩:=hs.over hs' hb
 refine ⟨_,st,he2,hs2,?_⟩
 cases e with
 | returned rv =>
  obtain ⟨v,hR,hRt⟩:=hq
  obtain ⟨v2,hfr,hv2⟩:=hf v st' hRt
  exact ⟨v2,hfr.R hs' he.base hR,hv2,rfl⟩
 | panicked ch=>obtain ⟨_,_,_,_,h⟩:=hq; exact h.elim
 | outgrown=>exact hq.elim

theorem ACalls.le {f:FuncId} {args:List AV} {Rt Rt':AV→St→Prop} (h:ACalls P f args st Rt (fun _ _=>False)) (h1:∀ v st',Rt v st'→∃ v2 st2,Le v v2∧StLe st' st2∧Rt' v2 st2):ACalls P f args st Rt' (fun _ _=>False) :=
 fun g w rargs hs hl ha=>(h g w rargs hs hl ha).mono fun e w' ⟨g',st',he,hs',hq⟩=>by
  cases e with
  | returned rv =>
   obtain ⟨v,x1,x2⟩:=hq
   obtain ⟨v2,st2,y1,y2,y3⟩:=h1 v st' x2
   exact ⟨g',st2,he,hs'.le y2,v2,x1.le y1,y3⟩
  | panicked ch=>obtain ⟨_,_,_,_,x⟩:=hq; exact x.elim
  | outgrown=>exact hq.elim

end
end Go.AM
namespace Go.AM
section
variable {P:Program} {n:Nat} {K:Post} {E:EPost} {T:Tmps} {st:St} {ops:Array Oper} {rest:List Oper}
variable {d:Tmp} {dd:Option Tmp} {x y:Operand} {ty:TypeId} {pos:String} {es:Array Edge} {gd:Option (Nat × Bool)}

theorem R.sliced {g:G} {w:World} {sz:Nat} {rows:List (List AV)} {tk:Tok} {rv:Value} (h:R g w (.view sz rows tk) rv) {lo hi:Nat} (h1:lo≤hi) (h2:hi≤rows.length) :
  ∃ base cap,rv=.slice base rows.length cap∧rows.length≤cap∧R g w (.view sz ((rows.drop lo).take (hi - lo)) .shared) (_root_.Go.sliced base lo hi cap sz):=by
 cases h with
 | vnil =>
  have:lo=0:=by simp at h2; omega
  subst this
  have:hi=0:=by simpa using h2
  subst this
  exact ⟨none,0,rfl,Nat.le_refl _,.vnil _ _ trivial⟩
 | vemp _ _ a =>
  have:lo=0:=by simp at h2; omega
  subst this
  have:hi=0:=by simpa using h2
  subst this
  refine ⟨some a,0,rfl,Nat.le_refl _,?_⟩
  simp only [_root_.Go.sliced,if_true,Nat.sub_zero]
  exact .vemp _ _ _ (fun h=>by cases h) trivial
 | view _ _ _ b off cap f hc hm hsz h1' ht himm hh =>
  refine ⟨some ⟨b,off,none⟩,cap,rfl,hc,?_⟩
  by_cases hcl:cap=lo
  ·have e1:hi - lo=0:=by omega
   simp only [_root_.Go.sliced,hcl,if_true,e1,List.take_zero,Nat.sub_self]
   exact .vemp _ _ _ (fun h=>by cases h) trivial
  ·have hlen:((rows.drop lo).take (hi - lo)).length=hi - lo:=by simp; omega
   have key:=R.view (g:=g) (w:=w) sz ((rows.drop lo).take (hi - lo)) .shared b (off + lo * sz) (cap - lo) (fun i j=>f (lo + i) j) (by rw [hlen]; omega) (by omega)
    (fun row hr=>hsz row (List.mem_of_mem_drop (List.mem_of_mem_take hr))) (fun row hr=>h1' row (List.mem_of_mem_drop (List.mem_of_mem_take hr))) trivial
    (fun i j hi' hj=>by
     rw [hlen] at hi'
     have:=himm (lo + i) j (by omega) hj
     rw [Nat.add_mul] at this
     rw [show off + lo * sz + (i * sz + j)=off + (lo * sz + i * sz + j) by omega]
     exact this)
    (fun i j row c hr hcj=>by
     have hi':i < hi - lo:=by
      have:=(List.getElem?_eq_some_iff.1 hr).1
      rw [hlen] at this
      exact this
     rw [List.getElem?_take_of_lt hi',List.getElem?_drop] at hr
     exact hh (lo + i) j row c hr hcj)
   rw [hlen] at key
   simp only [_root_.Go.sliced,hcl,if_false,Option.map_some,addr_add]
   exact key

theorem sv2 {t e:TypeId} [hu:Und P t (.slice e)] {sz by_:Nat} {ez:Value} [hie:Inf P e sz by_ ez] {z:Operand} {rows:List (List AV)} {tk:Tok} {a b:Nat} {k k':IntKind}
  (hg:goes ops n T ⟨dd,.slice t x (some y) (some z) none,ty,pos,es,gd⟩=some d) (hx:ev st T x=some (.view sz rows tk)) (hy:ev st T y=some (.int k (a:Int))) (hz:ev st T z=some (.int k' (b:Int))) (hab:a≤b) (hb:b≤rows.length)
  (kk:AOps P n ops rest K E ((d,.view sz ((rows.drop a).take (b - a)) .shared)::T) st):AOps P n ops (⟨dd,.slice t x (some y) (some z) none,ty,pos,es,gd⟩::rest) K E T st:=by
 obtain ⟨hw,hd,hok⟩:=goes_some hg
 simp only at hd
 subst hd
 refine AOps.pure hw hok _ (fun g w a' hs hk=>?_) kk
 have h1:=ev_R hs hk hx
 have h2:=ev_R hs hk hy
 have h3:=ev_R hs hk hz
 generalize hux:a'.eval x=ux at h1
 generalize huy:a'.eval y=uy at h2
 generalize huz:a'.eval z=uz at h3
 cases h2
 cases h3
 obtain ⟨base,cap,rfl,hc,hR⟩:=h1.sliced hab hb
 have he:P.elem t=e:=by simp [Program.elem,hu.out]
 have hr:=run_slice_lh (P:=P) w t base rows.length cap (by rw [he]; exact hu.out) k k' a b (by omega) (by omega) (by omega)
 refine ⟨_,?_,hR⟩
 simp [execOp,hux,huy,huz,run_sliceAt_slice (P:=P) w t _ _ _ _ (by rw [he]; exact hu.out),hr,he,run_size (P:=P) (t:=e) w]

theorem svh {t e:TypeId} [hu:Und P t (.slice e)] {sz by_:Nat} {ez:Value} [hie:Inf P e sz by_ ez] {rows:List (List AV)} {tk:Tok} {b:Nat} {k:IntKind}
  (hg:goes ops n T ⟨dd,.slice t x none (some y) none,ty,pos,es,gd⟩=some d) (hx:ev st T x=some (.view sz rows tk)) (hy:ev st T y=some (.int k (b:Int))) (hb:b≤rows.length)
  (kk:AOps P n ops rest K E ((d,.view sz (rows.take b) .shared)::T) st):AOps P n ops (⟨dd,.slice t x none (some y) none,ty,pos,es,gd⟩::rest) K E T st:=by
 obtain ⟨hw,hd,hok⟩:=goes_some hg
 simp only at hd
 subst hd
 refine AOps.pure hw hok _ (fun g w a' hs hk=>?_) kk
 have h1:=ev_R hs hk hx
 have h2:=ev_R hs hk hy
 generalize hux:a'.eval x=ux at h1
 generalize huy:a'.eval y=uy at h2
 cases h2
 obtain ⟨base,cap,rfl,hc,hR⟩:=h1.sliced (Nat.zero_le b) hb
 rw [List.drop_zero,Nat.sub_zero] at hR
 have he:P.elem t=e:=by simp [Program.elem,hu.out]
 have hr:=run_slice_h (P:=P) w t base rows.length cap (by rw [he]; exact hu.out) k b (by omega) (by omega)
 refine ⟨_,?_,hR⟩
 simp [execOp,hux,huy,run_sliceAt_slice (P:=P) w t _ _ _ _ (by rw [he]; exact hu.out),hr,he,run_size (P:=P) (t:=e) w]

theorem svl {t e:TypeId} [hu:Und P t (.slice e)] {sz by_:Nat} {ez:Value} [hie:Inf P e sz by_ ez] {rows:List (List AV)} {tk:Tok} {a:Nat} {k:IntKind}
  (hg:goes ops n T ⟨dd,.slice t x (some y) none none,ty,pos,es,gd⟩=some d) (hx:ev st T x=some (.view sz rows tk)) (hy:ev st T y=some (.int k (a:Int))) (ha:a≤rows.length)
  (kk:AOps P n ops rest K E ((d,.view sz (rows.drop a) .shared)::T) st):AOps P n ops (⟨dd,.slice t x (some y) none none,ty,pos,es,gd⟩::rest) K E T st:=by
 obtain ⟨hw,hd,hok⟩:=goes_some hg
 simp only at hd
 subst hd
 refine AOps.pure hw hok _ (fun g w a' hs hk=>?_) kk
 have h1:=ev_R hs hk hx
 have h2:=ev_R hs hk hy
 generalize hux:a'.eval x=ux at h1
 generalize huy:a'.eval y=uy at h2
 cases h2
 obtain ⟨base,cap,rfl,hc,hR⟩:=h1.sliced ha (Nat.le_refl _)
 rw [List.take_of_length_le (by simp)] at hR
 have he:P.elem t=e:=by simp [Program.elem,hu.out]
 have hr:=run_slice_l (P:=P) w t base rows.length cap (by rw [he]; exact hu.out) k a (by omega) (by omega)
 refine ⟨_,?_,hR⟩
 simp [execOp,hux,huy,run_sliceAt_slice (P:=P) w t _ _ _ _ (by rw [he]; exact hu.out),hr,he,run_size (P:=P) (t:=e) w]

end
end Go.AM
namespace Go.AM
open Go.RowKit (Below)

section
variable {P:Program} {n:Nat} {K:Post} {E:EPost} {T:Tmps} {st:St} {ops:Array Oper} {rest:List Oper}
variable {d:Tmp} {dd:Option Tmp} {x y z:Operand} {ty:TypeId} {pos:String} {es:Array Edge} {gd:Option (Nat × Bool)}

theorem sx {t:TypeId} [hu:Und P t .string] {l:List UInt8} {k:IntKind} {i:Int} {m:Nat} {c:UInt8} (hg:goes ops n T ⟨dd,.index t x y,ty,pos,es,gd⟩=some d)
  (hx:ev st T x=some (.str l)) (hy:ev st T y=some (.int k i)) (hi:i=m) (hc:l[m]?=some c)
  (h:AOps P n ops rest K E ((d,.int .u8 c.toNat)::T) st):AOps P n ops (⟨dd,.index t x y,ty,pos,es,gd⟩::rest) K E T st:=by
 obtain ⟨hw,hd,hok⟩:=goes_some hg
 simp only at hd
 subst hd
 exact AOps.strIndex hw hok hx hy hi hc h

theorem ssl {t:TypeId} [hu:Und P t .string] {l:List UInt8} {k:IntKind} {a:Nat} (hg:goes ops n T ⟨dd,.slice t x (some y) none none,ty,pos,es,gd⟩=some d)
  (hx:ev st T x=some (.str l)) (hy:ev st T y=some (.int k (a:Int))) (ha:a≤l.length)
  (h:AOps P n ops rest K E ((d,.str (l.drop a))::T) st):AOps P n ops (⟨dd,.slice t x (some y) none none,ty,pos,es,gd⟩::rest) K E T st:=by
 obtain ⟨hw,hd,hok⟩:=goes_some hg
 simp only at hd
 subst hd
 refine AOps.sliceStr (a:=a) (b:=l.length) hw hok hx (.inr ⟨y,k,rfl,hy⟩) (.inl ⟨rfl,rfl⟩) ha (Nat.le_refl _) ?_
 rw [List.take_of_length_le (by simp)]
 exact h
theorem ssh {t:TypeId} [hu:Und P t .string] {l:List UInt8} {k:IntKind} {b:Nat} (hg:goes ops n T ⟨dd,.slice t x none (some y) none,ty,pos,es,gd⟩=some d)
  (hx:ev st T x=some (.str l)) (hy:ev st T y=some (.int k (b:Int))) (hb:b≤l.length)
  (h:AOps P n ops rest K E ((d,.str (l.take b))::T) st):AOps P n ops (⟨dd,.slice t x none (some y) none,ty,pos,es,gd⟩::rest) K E T st:=by
 obtain ⟨hw,hd,hok⟩:=goes_some hg
 simp only at hd
 subst hd
 refine AOps.sliceStr (a:=0) (b:=b) hw hok hx (.inl ⟨rfl,rfl⟩) (.inr ⟨y,k,rfl,hy⟩) (Nat.zero_le _) hb ?_
 rw [List.drop_zero,Nat.sub_zero]
 exact h
theorem ss2 {t:TypeId} [hu:Und P t .string] {l:List UInt8} {k k':IntKind} {a b:Nat} (hg:goes ops n T ⟨dd,.slice t x (some y) (some z) none,ty,pos,es,gd⟩=some d)
  (hx:ev st T x=some (.str l)) (hy:ev st T y=some (.int k (a:Int))) (hz:ev st T z=some (.int k' (b:Int))) (hab:a≤b) (hb:b≤l.length)
  (h:AOps P n ops rest K E ((d,.str ((l.drop a).take (b - a)))::T) st):AOps P n ops (⟨dd,.slice t x (some y) (some z) none,ty,pos,es,gd⟩::rest) K E T st:=by
 obtain ⟨hw,hd,hok⟩:=goes_some hg
 simp only at hd
 subst hd
 exact AOps.sliceStr hw hok hx (.inr ⟨y,k,rfl,hy⟩) (.inr ⟨z,k',rfl,hz⟩) hab hb h

theorem sad {t u:TypeId} {a b:List UInt8} (hg:goes ops n T ⟨dd,.binOp .add t x y u,ty,pos,es,gd⟩=some d)
  (hx:ev st T x=some (.str a)) (hy:ev st T y=some (.str b)) (hl:a.length + b.length≤9223372036854775807)
  (h:AOps P n ops rest K E ((d,.str (a++b))::T) st):AOps P n ops (⟨dd,.binOp .add t x y u,ty,pos,es,gd⟩::rest) K E T st:=by
 obtain ⟨hw,hd,hok⟩:=goes_some hg
 simp only at hd
 subst hd
 exact AOps.strAdd hw hok hx hy hl h

theorem adk {t u:TypeId} {k:IntKind} {a b c:Int} (hg:goes ops n T ⟨dd,.binOp .add t x y u,ty,pos,es,gd⟩=some d)
  (hx:ev st T x=some (.int k a)) (hy:ev st T y=some (.int k b)) (hc:k.wrap (a + b)=c)
  (h:AOps P n ops rest K E ((d,.int k c)::T) st):AOps P n ops (⟨dd,.binOp .add t x y u,ty,pos,es,gd⟩::rest) K E T st:=by
 obtain ⟨hw,hd,hok⟩:=goes_some hg
 simp only at hd
 subst hd
 exact AOps.add hw hok hx hy hc h
theorem sbk {t u:TypeId} {k:IntKind} {a b c:Int} (hg:goes ops n T ⟨dd,.binOp .sub t x y u,ty,pos,es,gd⟩=some d)
  (hx:ev st T x=some (.int k a)) (hy:ev st T y=some (.int k b)) (hc:k.wrap (a - b)=c)
  (h:AOps P n ops rest K E ((d,.int k c)::T) st):AOps P n ops (⟨dd,.binOp .sub t x y u,ty,pos,es,gd⟩::rest) K E T st:=by
 obtain ⟨hw,hd,hok⟩:=goes_some hg
 simp only at hd
 subst hd
 exact AOps.sub hw hok hx hy hc h
theorem mlk {t u:TypeId} {k:IntKind} {a b c:Int} (hg:goes ops n T ⟨dd,.binOp .mul t x y u,ty,pos,es,gd⟩=some d)
  (hx:ev st T x=some (.int k a)) (hy:ev st T y=some (.int k b)) (hc:k.wrap (a * b)=c)
  (h:AOps P n ops rest K E ((d,.int k c)::T) st):AOps P n ops (⟨dd,.binOp .mul t x y u,ty,pos,es,gd⟩::rest) K E T st:=by
 obtain ⟨hw,hd,hok⟩:=goes_some hg
 simp only at hd
 subst hd
 exact AOps.mul hw hok hx hy hc h
theorem quk {t u:TypeId} {k:IntKind} {a b c:Int} (hg:goes ops n T ⟨dd,.binOp .quo t x y u,ty,pos,es,gd⟩=some d)
  (hx:ev st T x=some (.int k a)) (hy:ev st T y=some (.int k b)) (h0:b≠0) (hc:k.wrap (a.tdiv b)=c)
  (h:AOps P n ops rest K E ((d,.int k c)::T) st):AOps P n ops (⟨dd,.binOp .quo t x y u,ty,pos,es,gd⟩::rest) K E T st:=by
 obtain ⟨hw,hd,hok⟩:=goes_some hg
 simp only at hd
 subst hd
 exact AOps.quo hw hok hx hy h0 hc h
theorem ngk {t:TypeId} {k:IntKind} {a c:Int} (hg:goes ops n T ⟨dd,.unOp .neg t x,ty,pos,es,gd⟩=some d)
  (hx:ev st T x=some (.int k a)) (hc:k.wrap (0 - a)=c)
  (h:AOps P n ops rest K E ((d,.int k c)::T) st):AOps P n ops (⟨dd,.unOp .neg t x,ty,pos,es,gd⟩::rest) K E T st:=by
 obtain ⟨hw,hd,hok⟩:=goes_some hg
 simp only at hd
 subst hd
 exact AOps.neg hw hok hx hc h
theorem cv {t u:TypeId} {ds:TypeDesc} {k k':IntKind} [Und P t ds] [hu:Und P u (.int k')] {a c:Int} (hg:goes ops n T ⟨dd,.convert t u x,ty,pos,es,gd⟩=some d)
  (hx:ev st T x=some (.int k a)) (hc:k'.wrap a=c) (h:AOps P n ops rest K E ((d,.int k' c)::T) st):AOps P n ops (⟨dd,.convert t u x,ty,pos,es,gd⟩::rest) K E T st:=by
 obtain ⟨hw,hd,hok⟩:=goes_some hg
 simp only at hd
 subst hd
 exact AOps.convInt hw hok hx hc h

def brow8 (b:UInt8):List AV:=[.int .u8 b.toNat]

theorem cbs {t u e:TypeId} [hut:Und P t (.slice e)] [hue:Und P e (.int .u8)] [huu:Und P u .string] {l:List UInt8} {tk:Tok} (hg:goes ops n T ⟨dd,.convert t u x,ty,pos,es,gd⟩=some d)
  (hx:ev st T x=some (.view 1 (l.map brow8) tk)) (h:AOps P n ops rest K E ((d,.str l)::T) st):AOps P n ops (⟨dd,.convert t u x,ty,pos,es,gd⟩::rest) K E T st:=by
 obtain ⟨hw,hd,hok⟩:=goes_some hg
 simp only at hd
 subst hd
 refine AOps.pure hw hok _ (fun g w a hs hk=>?_) h
 have h1:=ev_R hs hk hx
 generalize hux:a.eval x=ux at h1
 have hex:∀ v,(convert t u ux).run P w=.ok v w→(execOp a.eval ⟨some d,.convert t u x,ty,pos,es,gd⟩).run P w=.ok (.value v) w:=by
  intro v hv
  simp only [execOp,hux,Sem.run_bind,hv,Result.andThen_ok,Sem.run_pure]
 generalize hr:l.map brow8=rows at h1
 have hlen:rows.length=l.length:=by rw [← hr]; simp
 cases h1 with
 | vnil =>
  have:l=[]:=List.eq_nil_of_length_eq_zero (by simpa using hlen.symm)
  subst this
  exact ⟨_,hex _ (run_convert_bytes_nil w t e hut.out hue.out 0 0 u huu.out),.str []⟩
 | vemp _ _ ad =>
  have:l=[]:=List.eq_nil_of_length_eq_zero (by simpa using hlen.symm)
  subst this
  exact ⟨_,hex _ (run_convert_bytes_back w t u e ad 0 [] hut.out hue.out huu.out (fun j hj=>by simp at hj)),.str []⟩
 | view _ _ _ b off cap f hc hm hsz h1' ht himm hh =>
  have:=run_convert_bytes_back (P:=P) w t u e ⟨b,off,none⟩ cap l hut.out hue.out huu.out (fun j hj=>by
   have h2:=(himm j 0 (by omega) (by omega)).2
   rw [Nat.mul_one,Nat.add_zero] at h2
   rw [addr_add,h2]
   have hrow:rows[j]?=some (brow8 l[j]):=by rw [← hr]; simp [hj]
   have h3:=hh j 0 _ _ hrow rfl
   generalize f j 0=q at h3
   cases h3
   rfl)
  rw [← hlen] at this
  exact ⟨_,hex _ this,.str l⟩

theorem ixg {t e:TypeId} {td:TypeDesc} {len sz by_:Nat} {zz:Value} {cs:List AV} {k:IntKind} {i:Int} {m:Nat} {v:AV} [hu:Und P t (.array len e)] [hq:Und P e td] [hi:Inf P e sz by_ zz]
  (hg:goes ops n T ⟨dd,.index t x y,ty,pos,es,gd⟩=some d) (ha:aggD td=false) (hx:ev st T x=some (.agg cs)) (hy:ev st T y=some (.int k i)) (hm:i=m) (hlt:m < len) (hv:cs[m * sz]?=some v)
  (h:AOps P n ops rest K E ((d,v)::T) st):AOps P n ops (⟨dd,.index t x y,ty,pos,es,gd⟩::rest) K E T st:=by
 obtain ⟨hw,hd,hok⟩:=goes_some hg
 simp only at hd
 subst hd
 refine AOps.pure hw hok v (fun g w a hs hk=>?_) h
 have h1:=ev_R hs hk hx
 have h2:=ev_R hs hk hy
 generalize hux:a.eval x=ux at h1
 generalize huy:a.eval y=uy at h2
 subst hm
 cases h2
 cases h1 with
 | agg _ us hl h1' hh =>
  have hlt':m * sz < us.size:=hl ▸ (List.getElem?_eq_some_iff.1 hv).1
  refine ⟨us[m * sz],?_,hh _ v _ hv (by simp [hlt'])⟩
  simp [execOp,hux,huy,Instr.index,asIntOf,run_und (P:=P) (t:=t) w,hlt,run_size (P:=P) (t:=e) w,part,run_isAgg (P:=P) (t:=e) w,ha,hlt']

end
end Go.AM
namespace Go.AM
open Go.RowKit (Below)

section
variable {P:Program} {n:Nat} {K:Post} {E:EPost} {T:Tmps} {st:St} {ops:Array Oper} {rest:List Oper}
variable {d:Tmp} {dd:Option Tmp} {x y z:Operand} {ty:TypeId} {pos:String} {es:Array Edge} {gd:Option (Nat × Bool)}

/-! maps -/

end
end Go.AM
namespace Go.AM
open Go.RowKit (Below)

inductive Sh where
 | kI (k:IntKind)
 | kB
 | kS

def flatFields (P:Program) (F:TypeId→Option (List Sh)):Nat→List Field→Option (List Sh)
 | _,[]=>some []
 | off,f::fs=>match F f.type,(P.info? f.type).map (·.size) with
  | some sh, some sz => bif Nat.beq f.offset off && Nat.beq sz sh.length && f.name != "_" then (flatFields P F (off + sh.length) fs).map (sh ++ ·) else none
  | _,_=>none

def flatTy (P:Program):Nat→TypeId→Option (List Sh)
 | 0,_=>none
 | d + 1,t=>match P.underlying t with
  | some (.int k)=>some [.kI k]
  | some .bool=>some [.kB]
  | some .string=>some [.kS]
  | some (.struct fs)=>bif P.stoodInHeld t then none else flatFields P (flatTy P d) 0 fs.toList
  | some (.array n e)=>match flatTy P d e,(P.info? e).map (·.size) with
   | some sh,some sz=>bif Nat.beq sz sh.length then some (List.replicate n sh).flatten else none
   | _,_=>none
  | _=>none

def fit1:Sh→AV→Bool
 | .kI k,.int k' _=>kindEq k k'
 | .kB,.bool _=>true
 | .kS,.str _=>true
 | _,_=>false
def fits:List Sh→List AV→Bool
 | [],[]=>true
 | s::ss,c::cs=>fit1 s c && fits ss cs
 | _,_=>false

def avEq:AV→AV→Bool
 | .int _ a,.int _ b=>decide (a=b)
 | .bool a,.bool b=>a == b
 | .str a,.str b=>decide (a=b)
 | _,_=>false
def cellsEq:List AV→List AV→Bool
 | [],[]=>true
 | a::avs,b::bs=>avEq a b && cellsEq avs bs
 | _,_=>false

theorem fits_length:∀ {ss:List Sh} {cs:List AV},fits ss cs=true→cs.length=ss.length
 | [],[],_=>rfl
 | [],_::_,h=>by cases h
 | _::_,[],h=>by cases h
 | s::ss,c::cs,h=>by
  simp only [fits,Bool.and_eq_true] at h
  simp [fits_length h.2]

theorem fits_append:∀ {s1 s2:List Sh} {cs:List AV},fits (s1++s2) cs=true→fits s1 (cs.take s1.length)=true∧fits s2 (cs.drop s1.length)=true
 | [],s2,cs,h=>⟨by simp [fits],h⟩
 | s::s1,s2,[],h=>by cases h
 | s::s1,s2,c::cs,h=>by
  simp only [List.cons_append,fits,Bool.and_eq_true] at h
  obtain ⟨h1,h2⟩:=fits_append h.2
  exact ⟨by simp [fits,h.1,h1],by simpa using h2⟩

theorem cellsEq_split:∀ (n:Nat) (cs ds:List AV),cs.length=ds.length→cellsEq cs ds=(cellsEq (cs.take n) (ds.take n) && cellsEq (cs.drop n) (ds.drop n))
 | 0,cs,ds,_=>by simp [cellsEq]
 | n + 1,[],[],_=>rfl
 | n + 1,[],d::ds,h=>by simp at h
 | n + 1,c::cs,[],h=>by simp at h
 | n + 1,c::cs,d::ds,h=>by
  simp only [List.take_succ_cons,List.drop_succ_cons,cellsEq,Bool.and_assoc]
  rw [cellsEq_split n cs ds (by simpa using h)]

section
variable {P:Program}

def mkV (P:Program) (t:TypeId) (vs:List Value):Value :=
 match P.underlying t with
 | some (.struct _)|some (.array _ _)=>.agg vs.toArray
 | _=>vs.headD undef

def Rl (g:G) (w:World) (cs:List AV) (vs:List Value):Prop:=cs.length=vs.length∧∀ (i:Nat) c v,cs[i]?=some c→vs[i]?=some v→R g w c v

theorem Rl.take {g:G} {w:World} {cs:List AV} {vs:List Value} (h:Rl g w cs vs) (n:Nat):Rl g w (cs.take n) (vs.take n) :=
 ⟨by simp [h.1],fun i c v hc hv=>by
  rw [List.getElem?_take] at hc hv
  split at hc
  ·rename_i hi
   rw [if_pos hi] at hv
   exact h.2 i c v hc hv
  ·cases hc⟩
theorem Rl.drop {g:G} {w:World} {cs:List AV} {vs:List Value} (h:Rl g w cs vs) (n:Nat):Rl g w (cs.drop n) (vs.drop n) :=
 ⟨by simp [h.1],fun i c v hc hv=>by
  rw [List.getElem?_drop] at hc hv
  exact h.2 _ c v hc hv⟩

theorem run_part (w:World) {t:TypeId} {d:Nat} {sh:List Sh} (hf:flatTy P d t=some sh) (hsz:(P.info? t).map (·.size)=some sh.length) (vs:List Value) (off:Nat) (hl:off + sh.length≤vs.length) :
  (part t vs.toArray off).run P w=.ok (mkV P t ((vs.drop off).take sh.length)) w:=by
 obtain ⟨inf,hi,hs⟩:=Option.map_eq_some_iff.1 hsz
 have hsize:(sizeOf t).run P w=.ok sh.length w:=by simp [sizeOf,typeInfo,hi,hs]
 have hagg:∀ fs,(P.underlying t=some (.struct fs)∨∃ n e,P.underlying t=some (.array n e))→(isAgg t).run P w=.ok true w:=by
  intro fs h
  rcases h with h|⟨n,e,h⟩ <;> simp [isAgg,run_underlying h]
 cases d with
 | zero=>cases hf
 | succ d =>
  unfold flatTy at hf
  unfold mkV
  have one:∀ td,P.underlying t=some td→aggD td=false→sh.length=1→(part t vs.toArray off).run P w=.ok (((vs.drop off).take sh.length).headD undef) w:=by
   intro td hu ha h1
   have hag:(isAgg t).run P w=.ok false w:=by
    haveI:Und P t td:=⟨hu⟩
    rw [run_isAgg w,ha]
   have hlt:off < vs.length:=by omega
   have hget:vs.toArray[off]?=some vs[off]:=by simp [hlt]
   have hd:((vs.drop off).take sh.length).headD undef=vs[off]:=by
    rw [h1,List.drop_eq_getElem_cons hlt]
    rfl
   rw [hd]
   simp [part,hag,hget]
  have many:(isAgg t).run P w=.ok true w→(part t vs.toArray off).run P w=.ok (.agg ((vs.drop off).take sh.length).toArray) w:=by
   intro ha
   simp [part,ha,hsize]
  split at hf
  ·rename_i k hu; cases hf; rw [hu]; exact one _ hu rfl rfl
  ·rename_i hu; cases hf; rw [hu]; exact one _ hu rfl rfl
  ·rename_i hu; cases hf; rw [hu]; exact one _ hu rfl rfl
  ·rename_i fs hu; rw [hu]; exact many (hagg fs (.inl hu))
  ·rename_i n e hu; rw [hu]; exact many (hagg #[] (.inr ⟨n,e,hu⟩))
  ·cases hf

theorem avEq_run (w:World) {d:Nat} {t:TypeId} {s:Sh} (hf:flatTy P (d + 1) t=some [s]) (hu:∀ fs,P.underlying t≠some (.struct fs)) (hu':∀ n e,P.underlying t≠some (.array n e)) {g:G} {a b:AV} {x y:Value} (hx:R g w a x) (hy:R g w b y) (ha:fit1 s a=true) (hb:fit1 s b=true) :
  (Op.equalIn (d + 1) t x y).run P w=.ok (avEq a b) w:=by
 unfold flatTy at hf
 split at hf
 ·rename_i k h
  cases hf
  cases a <;> simp only [fit1,Bool.false_eq_true] at ha
  cases b <;> simp only [fit1,Bool.false_eq_true] at hb
  have e1:=kindEq_eq ha
  have e2:=kindEq_eq hb
  subst e1 e2
  cases hx
  cases hy
  rw [run_equalIn_int w d t _ _ _ _ h]
  simp only [avEq]
  congr 1
 ·rename_i h
  cases hf
  cases a <;> simp only [fit1,Bool.false_eq_true] at ha
  cases b <;> simp only [fit1,Bool.false_eq_true] at hb
  cases hx
  cases hy
  rw [run_equalIn_bool' w d t _ _ h]
  rfl
 ·rename_i h
  cases hf
  cases a <;> simp only [fit1,Bool.false_eq_true] at ha
  cases b <;> simp only [fit1,Bool.false_eq_true] at hb
  cases hx
  cases hy
  rw [run_equalIn_string w d t _ _ h]
  simp only [avEq,ByteArray.toList_mk]
  congr 1
  rw [Bool.eq_iff_iff]
  simp
 ·rename_i fs h; exact absurd h (hu fs)
 ·rename_i n e h; exact absurd h (hu' n e)
 ·cases hf

theorem eqFields_run (w:World) {d:Nat} {g:G} (ih:∀ t sh,flatTy P d t=some sh→∀ (cs ds:List AV) (xs ys:List Value),Rl g w cs xs→Rl g w ds ys→fits sh cs=true→fits sh ds=true→(Op.equalIn d t (mkV P t xs) (mkV P t ys)).run P w=.ok (cellsEq cs ds) w)
  {cs ds:List AV} {xs ys:List Value} (hx:Rl g w cs xs) (hy:Rl g w ds ys) (hcd:cs.length=ds.length):∀ (fs:List Field) (off:Nat) (sh:List Sh),flatFields P (flatTy P d) off fs=some sh→off≤cs.length→fits sh (cs.drop off)=true→fits sh (ds.drop off)=true →
  (Op.eqFields d xs.toArray ys.toArray fs).run P w=.ok (cellsEq (cs.drop off) (ds.drop off)) w
 | [],off,sh,h,_,h1,h2=>by
  cases h
  have e1:=List.eq_nil_of_length_eq_zero (fits_length h1)
  have e2:=List.eq_nil_of_length_eq_zero (fits_length h2)
  rw [e1,e2]
  rfl
 | f::fs,off,sh,h,hoff,h1,h2=>by
  unfold flatFields at h
  cases hF:flatTy P d f.type with
  | none=>rw [hF] at h; cases h
  | some s1 =>
   cases hS:(P.info? f.type).map (·.size) with
   | none=>rw [hF,hS] at h; cases h
   | some sz =>
    simp only [hF,hS] at h
    cases hc : (Nat.beq f.offset off && Nat.beq sz s1.length && f.name != "_") with
    | false=>rw [hc] at h; cases h
    | true =>
     rw [hc,cond_true] at h
     simp only [Bool.and_eq_true] at hc
     obtain ⟨⟨c1,c2⟩,c3⟩:=hc
     have c1:=Nat.eq_of_beq_eq_true c1
     have c2:=Nat.eq_of_beq_eq_true c2
     have c3 : f.name ≠ "_" := by simpa using c3
     obtain ⟨s2,hs2,rfl⟩:=Option.map_eq_some_iff.1 h
     obtain ⟨p1,p2⟩:=fits_append h1
     obtain ⟨q1,q2⟩:=fits_append h2
     rw [List.drop_drop] at p2 q2
     have hl1:=fits_length p1
     have hl:=fits_length h1
     simp only [List.length_take,List.length_drop,List.length_append] at hl hl1
     have hp1:=run_part (P:=P) w hF (c2 ▸ hS) xs off (by rw [← hx.1]; omega)
     have hp2:=run_part (P:=P) w hF (c2 ▸ hS) ys off (by rw [← hy.1]; omega)
     have he:=ih _ _ hF _ _ _ _ ((hx.drop off).take s1.length) ((hy.drop off).take s1.length) p1 q1
     have hr:=eqFields_run w ih hx hy hcd fs (off + s1.length) s2 hs2 (by omega) p2 q2
     rw [cellsEq_split s1.length (cs.drop off) (ds.drop off) (by simp [hcd])]
     rw [List.drop_drop,List.drop_drop]
     simp only [Op.eqFields,c3,ne_eq,not_false_eq_true,if_true,c1,Sem.run_bind,hp1,hp2,he,Result.andThen_ok]
     cases hb:cellsEq ((cs.drop off).take s1.length) ((ds.drop off).take s1.length) with
     | false=>simp
     | true=>simpa using hr

theorem eqItems_run (w:World) {d:Nat} {g:G} {e:TypeId} {s1:List Sh} (hF:flatTy P d e=some s1) (hS:(P.info? e).map (·.size)=some s1.length) (ih:∀ (cs ds:List AV) (xs ys:List Value),Rl g w cs xs→Rl g w ds ys→fits s1 cs=true→fits s1 ds=true→(Op.equalIn d e (mkV P e xs) (mkV P e ys)).run P w=.ok (cellsEq cs ds) w)
  {cs ds:List AV} {xs ys:List Value} (hx:Rl g w cs xs) (hy:Rl g w ds ys) (hcd:cs.length=ds.length):∀ (j k:Nat),k * s1.length≤cs.length→fits (List.replicate j s1).flatten (cs.drop (k * s1.length))=true→fits (List.replicate j s1).flatten (ds.drop (k * s1.length))=true →
  (Op.eqItems d e s1.length xs.toArray ys.toArray (List.range' k j)).run P w=.ok (cellsEq (cs.drop (k * s1.length)) (ds.drop (k * s1.length))) w
 | 0,k,_,h1,h2=>by
  have e1:=List.eq_nil_of_length_eq_zero (fits_length h1)
  have e2:=List.eq_nil_of_length_eq_zero (fits_length h2)
  rw [e1,e2]
  rfl
 | j + 1,k,hk,h1,h2=>by
  rw [List.replicate_succ,List.flatten_cons] at h1 h2
  obtain ⟨p1,p2⟩:=fits_append h1
  obtain ⟨q1,q2⟩:=fits_append h2
  rw [List.drop_drop] at p2 q2
  have e:k * s1.length + s1.length=(k + 1) * s1.length:=by rw [Nat.add_mul,Nat.one_mul]
  rw [e] at p2 q2
  have hl1:=fits_length p1
  have hl:=fits_length h1
  simp only [List.length_take,List.length_drop,List.length_append] at hl hl1
  have hp1:=run_part (P:=P) w hF hS xs (k * s1.length) (by rw [← hx.1]; omega)
  have hp2:=run_part (P:=P) w hF hS ys (k * s1.length) (by rw [← hy.1]; omega)
  have he:=ih _ _ _ _ ((hx.drop (k * s1.length)).take s1.length) ((hy.drop (k * s1.length)).take s1.length) p1 q1
  have hr:=eqItems_run w hF hS ih hx hy hcd j (k + 1) (by omega) p2 q2
  rw [cellsEq_split s1.length (cs.drop (k * s1.length)) (ds.drop (k * s1.length)) (by simp [hcd])]
  rw [List.drop_drop,List.drop_drop,e]
  simp only [List.range'_succ,Op.eqItems,Sem.run_bind,hp1,hp2,he,Result.andThen_ok]
  cases hb:cellsEq ((cs.drop (k * s1.length)).take s1.length) ((ds.drop (k * s1.length)).take s1.length) with
  | false=>simp
  | true=>simpa using hr

theorem flat_eq:∀ (d:Nat) (t:TypeId) (sh:List Sh),flatTy P d t=some sh→∀ (g:G) (w:World) (cs ds:List AV) (xs ys:List Value),Rl g w cs xs→Rl g w ds ys→fits sh cs=true→fits sh ds=true →
  (Op.equalIn d t (mkV P t xs) (mkV P t ys)).run P w=.ok (cellsEq cs ds) w
 | 0,t,sh,h=>by cases h
 | d + 1,t,sh,h=>by
  intro g w cs ds xs ys hx hy h1 h2
  have h0:=h
  unfold flatTy at h
  have one:∀ s,sh=[s]→(∀ fs,P.underlying t≠some (.struct fs))→(∀ n e,P.underlying t≠some (.array n e))→(Op.equalIn (d + 1) t (mkV P t xs) (mkV P t ys)).run P w=.ok (cellsEq cs ds) w:=by
   intro s hs hu hu'
   subst hs
   match cs,fits_length h1,h1 with
   | [a],_,h1 =>
    match ds,fits_length h2,h2 with
    | [b],_,h2 =>
     have hxl:xs.length=1:=hx.1.symm
     have hyl:ys.length=1:=hy.1.symm
     match xs,hxl with
     | [x],_ =>
      match ys,hyl with
      | [y],_ =>
       have e:∀ v,mkV P t [v]=v:=by
        intro v
        unfold mkV
        split
        ·rename_i fs h; exact absurd h (hu fs)
        ·rename_i n e h; exact absurd h (hu' n e)
        ·rfl
       rw [e,e]
       simp only [fits,Bool.and_true] at h1 h2
       rw [avEq_run w h0 hu hu' (hx.2 0 a x rfl rfl) (hy.2 0 b y rfl rfl) h1 h2]
       simp [cellsEq]
  split at h
  ·rename_i k hu; cases h; exact one _ rfl (by simp [hu]) (by simp [hu])
  ·rename_i hu; cases h; exact one _ rfl (by simp [hu]) (by simp [hu])
  ·rename_i hu; cases h; exact one _ rfl (by simp [hu]) (by simp [hu])
  ·rename_i fs hu
   cases hst:P.stoodInHeld t with
   | true=>rw [hst] at h; cases h
   | false =>
    rw [hst,cond_false] at h
    have hfs:P.fieldsOf t=fs:=by simp [Program.fieldsOf,hu]
    have hmk:∀ vs,mkV P t vs=.agg vs.toArray:=fun vs=>by unfold mkV; rw [hu]
    rw [hmk,hmk,run_equalIn_struct w d t _ _ (by rw [hfs]; exact hu) hst,hfs]
    exact eqFields_run w (fun t sh hf cs ds xs ys=>flat_eq d t sh hf g w cs ds xs ys) hx hy (by rw [fits_length h1,fits_length h2]) fs.toList 0 sh h (Nat.zero_le _) h1 h2
  ·rename_i n e hu
   cases hF:flatTy P d e with
   | none=>rw [hF] at h; cases h
   | some s1 =>
    cases hS:(P.info? e).map (·.size) with
    | none=>rw [hF,hS] at h; cases h
    | some sz =>
     simp only [hF,hS] at h
     cases hc:Nat.beq sz s1.length with
     | false=>rw [hc] at h; cases h
     | true =>
      rw [hc,cond_true] at h
      cases h
      have hc:=Nat.eq_of_beq_eq_true hc
      subst hc
      have hmk:∀ vs,mkV P t vs=.agg vs.toArray:=fun vs=>by unfold mkV; rw [hu]
      obtain ⟨inf,hi,hs⟩:=Option.map_eq_some_iff.1 hS
      have hco:P.cellsOf e=s1.length:=by simp [Program.cellsOf,hi,hs]
      rw [hmk,hmk,run_equalIn_array w d _ _ hu hi,hco,List.range_eq_range']
      have:=eqItems_run w hF hS (fun cs ds xs ys=>flat_eq d e s1 hF g w cs ds xs ys) hx hy (by rw [fits_length h1,fits_length h2]) n 0 (by simp) (by simpa using h1) (by simpa using h2)
      simpa using this
  ·cases h

class FlatT (P:Program) (t:TypeId) (sh:outParam (List Sh)):Prop where
 out:flatTy P 10000 t=some sh
 guard:P.eqGuardType P.depth t=false
 agg:(match P.underlying t with|some (.struct _)|some (.array _ _)=>true|_=>false)=true

variable {n:Nat} {K:Post} {E:EPost} {T:Tmps} {st:St} {ops:Array Oper} {rest:List Oper}
variable {d:Tmp} {dd:Option Tmp} {x y z:Operand} {ty:TypeId} {pos:String} {es:Array Edge} {gd:Option (Nat × Bool)}

theorem flat_run {t:TypeId} {sh:List Sh} [h:FlatT P t sh] {g:G} {w:World} {cs ds:List AV} {xs ys:Array Value} (hx:R g w (.agg cs) (.agg xs)) (hy:R g w (.agg ds) (.agg ys)) (h1:fits sh cs=true) (h2:fits sh ds=true) :
  (Op.equalIn 10000 t (.agg xs) (.agg ys)).run P w=.ok (cellsEq cs ds) w:=by
 have hmk:∀ vs:Array Value,mkV P t vs.toList=.agg vs:=fun vs=>by
  have:=h.agg
  unfold mkV
  split at this
  ·simp
  ·simp
  ·cases this
 have:=flat_eq 10000 t sh h.out g w cs ds xs.toList ys.toList (by
  cases hx with
  | agg _ _ hl _ hh=>exact ⟨by simpa using hl,fun i c v hc hv=>hh i c v hc (by simpa using hv)⟩) (by
  cases hy with
  | agg _ _ hl _ hh=>exact ⟨by simpa using hl,fun i c v hc hv=>hh i c v hc (by simpa using hv)⟩) h1 h2
 rwa [hmk,hmk] at this

theorem eqA {t u:TypeId} {sh:List Sh} [h:FlatT P t sh] {cs ds:List AV} (hg:goes ops n T ⟨dd,.binOp .eql t x y u,ty,pos,es,gd⟩=some d) (hx:ev st T x=some (.agg cs)) (hy:ev st T y=some (.agg ds))
  (h1:fits sh cs=true) (h2:fits sh ds=true) (k:AOps P n ops rest K E ((d,.bool (cellsEq cs ds))::T) st):AOps P n ops (⟨dd,.binOp .eql t x y u,ty,pos,es,gd⟩::rest) K E T st:=by
 obtain ⟨hw,hd,hok⟩:=goes_some hg
 simp only at hd
 subst hd
 refine AOps.pure hw hok _ (fun g w a hs hk=>?_) k
 have q1:=ev_R hs hk hx
 have q2:=ev_R hs hk hy
 generalize hux:a.eval x=ux at q1
 generalize huy:a.eval y=uy at q2
 cases q1 with
 | agg _ xs hl1 ho1 hh1 =>
  cases q2 with
  | agg _ ys hl2 ho2 hh2 =>
   have:=flat_run (P:=P) (t:=t) (.agg _ _ hl1 ho1 hh1) (.agg _ _ hl2 ho2 hh2) h1 h2
   refine ⟨.bool (cellsEq cs ds),?_,.bool _⟩
   simp only [execOp,hux,huy,Sem.run_bind,run_eqGuard_agg w .eql t x y xs ys h.guard,run_eql_struct,this,Result.andThen_ok,Sem.run_pure]
theorem neA {t u:TypeId} {sh:List Sh} [h:FlatT P t sh] {cs ds:List AV} (hg:goes ops n T ⟨dd,.binOp .neq t x y u,ty,pos,es,gd⟩=some d) (hx:ev st T x=some (.agg cs)) (hy:ev st T y=some (.agg ds))
  (h1:fits sh cs=true) (h2:fits sh ds=true) (k:AOps P n ops rest K E ((d,.bool (!cellsEq cs ds))::T) st):AOps P n ops (⟨dd,.binOp .neq t x y u,ty,pos,es,gd⟩::rest) K E T st:=by
 obtain ⟨hw,hd,hok⟩:=goes_some hg
 simp only at hd
 subst hd
 refine AOps.pure hw hok _ (fun g w a hs hk=>?_) k
 have q1:=ev_R hs hk hx
 have q2:=ev_R hs hk hy
 generalize hux:a.eval x=ux at q1
 generalize huy:a.eval y=uy at q2
 cases q1 with
 | agg _ xs hl1 ho1 hh1 =>
  cases q2 with
  | agg _ ys hl2 ho2 hh2 =>
   have:=flat_run (P:=P) (t:=t) (.agg _ _ hl1 ho1 hh1) (.agg _ _ hl2 ho2 hh2) h1 h2
   refine ⟨.bool (!cellsEq cs ds),?_,.bool _⟩
   simp only [execOp,hux,huy,Sem.run_bind,run_eqGuard_agg w .neq t x y xs ys h.guard,run_neq_struct,this,Result.andThen_ok,Sem.run_pure]

end
end Go.AM
namespace Go.AM
abbrev fOf {P:Program} {t:TypeId} {fs:Array Field} (_:P.underlying t=some (.struct fs)):Array Field:=fs

section
variable {P:Program} {n:Nat} {K:Post} {E:EPost} {T:Tmps} {st:St} {ops:Array Oper} {rest:List Oper}
variable {d:Tmp} {dd:Option Tmp} {x y z:Operand} {ty:TypeId} {pos:String} {es:Array Edge} {gd:Option (Nat × Bool)}

structure CharAt (l:List UInt8) (ps:Nat) (c:UInt8) (r w:Nat):Prop where
 pos:1≤w
 le:ps + w≤l.length
 low:c.toNat < 128→r=c.toNat∧w=1
 high:128≤c.toNat→128≤r∧∀ j,ps≤j→j < ps + w→∃ b,l[j]?=some b∧128≤b.toNat

end
end Go.AM
namespace Go.AM
theorem St.set_inner {st:St} {o2 o3:Nat} (h:o3≠o2) (a a' b:AObj):((st.set o2 a).set o3 b).set o2 a'=(st.set o2 a').set o3 b:=by
 rw [St.set_comm (st.set o2 a) h,St.set_set]

theorem St.obj_under {st:St} {o o':Nat} (h:o'≠o) (c d:AObj):((st.set o c).set o' d).obj o=some c:=(St.obj_set_ne (fun e=>h e.symm)).trans (St.obj_set _ _ _)
theorem St.new_ne {st:St} {o o':Nat} {c:AObj} (h:(st.set o c).obj o'=none):o'≠o:=by rintro rfl; rw [St.obj_set] at h; cases h
theorem St.new_old {st:St} {o o':Nat} {c:AObj} (h:(st.set o c).obj o'=none):st.obj o'=none:=by rwa [St.obj_set_ne (St.new_ne h)] at h

end Go.AM
namespace Go.AM
open Go.RowKit (Below)
variable {P:Program} {n:Nat} {K:Post} {E:EPost} {T:Tmps} {st:St} {ops:Array Oper} {rest:List Oper}
variable {d:Tmp} {dd:Option Tmp} {x y z:Operand} {ty:TypeId} {pos:String} {es:Array Edge} {gd:Option (Nat × Bool)}

theorem freeze_other (w:World) (b off n k:Nat) (h:k≠b):(w.freeze ⟨b,off,none⟩ n).heap[k]?=w.heap[k]?:=by
 unfold World.freeze
 split
 ·rfl
 ·simp only [Array.getElem?_modify]
  rw [if_neg (fun e=>h e.symm)]

theorem freeze_same {w:World} {b off n:Nat} {cur:Array Value} {e:TypeId} {fr:Nat × Nat} (hb:w.heap[b]?=some (.cells cur e fr)):∃ fr',(w.freeze ⟨b,off,none⟩ n).heap[b]?=some (.cells cur e fr'):=by
 unfold World.freeze
 split
 ·exact ⟨fr,hb⟩
 ·obtain ⟨lo,hi⟩:=fr
  simp only [Array.getElem?_modify,if_true,hb,Option.map_some]
  exact ⟨_,rfl⟩

theorem freeze_size (w:World) (b off n:Nat):(w.freeze ⟨b,off,none⟩ n).heap.size=w.heap.size:=by
 unfold World.freeze
 split
 ·rfl
 ·simp

theorem freeze_rest (w:World) (b off n:Nat):(w.freeze ⟨b,off,none⟩ n).os=w.os∧(w.freeze ⟨b,off,none⟩ n).tape=w.tape∧(w.freeze ⟨b,off,none⟩ n).output=w.output:=by
 unfold World.freeze
 split <;> exact ⟨rfl,rfl,rfl⟩

theorem StLe.untok_add {tk:Nat} (h:st.tok tk=false):StLe ((st.addTok tk).untok tk) st :=
 ⟨fun _ _ h=>h,fun t ht=>by
  simp only [St.addTok,St.untok]
  by_cases h2:t=tk
  ·subst h2; rw [h] at ht; cases ht
  ·simp [h2,ht],rfl⟩

theorem Sim.mark {g:G} {w:World} (hs:Sim g w st) (b off n:Nat) (cur:Array Value) (e:TypeId) (fr:Nat × Nat) (hb:w.heap[b]?=some (.cells cur e fr)) (hbase:g.base≤b)
  (htoks:∀ t b' r,st.tok t=true→g.tok t=some (some b',r)→b'≠b) (hobjs:∀ o c b' m,st.obj o=some c→g.obj o=some (b',m)→b'≠b):Ext g w g (w.freeze ⟨b,off,none⟩ n)∧Sim g (w.freeze ⟨b,off,none⟩ n) st:=by
 have hoth:∀ k,k≠b→(w.freeze ⟨b,off,none⟩ n).heap[k]?=w.heap[k]?:=fun k hk=>freeze_other w b off n k hk
 obtain ⟨fr',hb'⟩:=freeze_same (off:=off) (n:=n) hb
 have hsz:=freeze_size w b off n
 obtain ⟨f1,f2,f3⟩:=freeze_rest w b off n
 have he:Ext g w g (w.freeze ⟨b,off,none⟩ n):=by
  refine ⟨rfl,Nat.le_refl _,fun _ _ h=>h,fun b' i h=>?_,fun _ _ h=>h,fun _ _ h=>h,⟨f1,f2,f3,by omega,fun j hj=>hoth j (by omega)⟩,fun _ _ _ h=>h⟩
  by_cases hbb:b'=b
  ·subst hbb
   rw [cell_of_row _ b' i cur e fr' hb',cell_of_row w b' i cur e fr hb]
  ·exact World.cell?_of_block (w:=w) (hoth b' hbb)
 refine ⟨he,by rw [hsz]; exact hs.base,fun o c hc=>?_,hs.inj,fun t ht=>?_,hs.tobj,hs.tinj,fun b i h=>by rw [hsz]; exact hs.immlt b i h,fun o b m h=>by rw [hsz]; exact hs.objlt o b m h,fun t b r h=>by rw [hsz]; exact hs.toklt t b r h,hs.fresh,fun gi row h=>(hs.globs gi row h).ext he⟩
 ·obtain ⟨b',m,h1,h2,h3,h4⟩:=hs.objs o c hc
  exact ⟨b',m,h1,h2,h3.mono he (hoth b' (hobjs o c b' m hc h1)),h4⟩
 ·obtain ⟨⟨b',len,cap,e',size⟩,h1,h2⟩:=hs.toks t ht
  refine ⟨_,h1,?_⟩
  cases b' with
  | none=>exact h2
  | some b' =>
   obtain ⟨a1,a2,a3,a4,⟨cur',a5,a6⟩,a7⟩:=h2
   exact ⟨a1,a2,a3,a4,⟨cur',(hoth b' (htoks t b' _ ht h1)).trans a5,a6⟩,a7⟩

theorem cvm {t e:TypeId} [hut:Und P t (.slice e)] [hue:Und P e (.int .u8)] {sz:Nat} {rows:List (List AV)} {tk:Nat} (hg:goes ops n T ⟨dd,.convert t t x,ty,pos,es,gd⟩=some d)
  (hx:ev st T x=some (.view sz rows (.own tk e))) (htk:st.tok tk=true) (hne:rows≠[])
  (h:AOps P n ops rest K E ((d,.view sz rows .shared)::T) (st.untok tk)):AOps P n ops (⟨dd,.convert t t x,ty,pos,es,gd⟩::rest) K E T st:=by
 refine AOps.stepAny hg fun g w a hs hk=>?_
 have h1:=ev_R hs hk hx
 generalize hux:a.eval x=ux at h1
 have hsu:Sim g w (st.untok tk):=hs.le (StLe.untok tk)
 cases h1 with
 | vnil=>exact absurd rfl hne
 | vemp=>exact absurd rfl hne
 | view _ _ _ b off cap f hc hm hsz h1' ht himm hh =>
  obtain ⟨h0,sz',hs1,htok⟩:=ht
  subst h0
  have hth:=hs.tokOf htk htok
  obtain ⟨a1,a2,a3,a4,⟨cur,a5,a6⟩,a7⟩:=hth
  have hm1:=Sim.mark hsu b cur.size 1 cur e (0,0) a5 a1 (fun t' b' r h1 h2 e'=>by
   subst e'
   simp only [St.untok] at h1
   split at h1
   ·cases h1
   ·rename_i hne'
    exact hne' (hs.tinj t' tk b' r _ h1 htk h2 htok)) (fun o c b' m h1 h2 e'=>by
   subst e'
   exact hs.tobj tk o c b' _ m htk h1 htok h2)
  obtain ⟨he,hs'⟩:=hm1
  have hrun:(execOp a.eval ⟨dd,.convert t t x,ty,pos,es,gd⟩).run P w=.ok (.value (.slice (some ⟨b,0,none⟩) rows.length cap)) (w.freeze ⟨b,cur.size,none⟩ 1):=by
   have hshape:w.shape? b=some (e,cur.size):=by
    unfold World.shape?
    rw [a5]
   simp [execOp,convert,hux,run_und (P:=P) (t:=t) w,run_und (P:=P) (t:=e) w,markStringish,hshape]
  refine ⟨_,g,_,.view sz rows .shared,st.untok tk,hrun,he,hs',?_,h⟩
  exact R.view sz rows .shared b 0 cap f hc hm hsz h1' trivial (fun i j hi hj=>⟨(himm i j hi hj).1,by rw [he.cell _ _ (himm i j hi hj).1]; exact (himm i j hi hj).2⟩) (fun i j row c hr hcc=>(hh i j row c hr hcc).ext he)
end Go.AM
namespace Go.AM
open Go.RowKit (Below)

section
variable {P:Program} {n:Nat} {K:Post} {E:EPost} {T:Tmps} {st:St}

def EffI (P:Program) (n:Nat) (I:St→Prop) (T:Tmps) (o:Oper) (Q:AV→Prop):Prop :=
 ∀ st g w a (K':Act→World→Prop) (Q':Exit→Act→World→Prop),I st→Sim g w st→Known g w T a→a.tmps.size=n →
  (∀ rv g' w' v st1,Ext g w g' w'→Sim g' w' st1→R g' w' v rv→Q v→I st1→K' (a.put o.dst rv) w')→o.wp P a w K' Q'

def StepI (P:Program) (n:Nat) (I:St→Prop) (ops:Array Oper) (T:Tmps) (o:Oper) (Q:AV→Prop):Prop :=
 (wantedA ops T o=some true∧EffI P n I T o Q)∨(wantedA ops T o=some false∧Q (.lit undef))

def DRunI (P:Program) (n:Nat) (I:St→Prop) (ops:Array Oper):List Oper→List (AV→Prop)→Tmps→(Tmps→St→Prop)→Prop
 | [],[],T,k=>∀ st,I st→k T st
 | o::r,Q::Qs,T,k=>∃ d,o.dst=some d∧Nat.blt d n=true∧(∃ u,Q u)∧StepI P n I ops (see ops o T) o Q∧∀ u,Q u→DRunI P n I ops r Qs ((d,u)::T) k
 | _,_,_,_=>False

def ents (l:List Oper) (us:Nat→AV):Nat→Tmps
 | 0=>[]
 | i + 1=>match (l[i]?).bind (·.dst) with
  | some d=>(d,us i)::ents l us i
  | none=>ents l us i

theorem DRunI.out {I:St→Prop} {ops:Array Oper} {k:Tmps→St→Prop} (us:Nat→AV) (l:List Oper):∀ (r:List Oper) (Qs:List (AV→Prop)) (i0:Nat),(∀ (i:Nat) (o:Oper),r[i]?=some o→l[i0 + i]?=some o)→(∀ (i:Nat) (Q:AV→Prop),Qs[i]?=some Q→Q (us (i0 + i))) →
  DRunI P n I ops r Qs (ents l us i0++T) k→Qs.length=r.length∧(∀ st,I st→k (ents l us (i0 + r.length)++T) st) ∧
   ∀ i o,r[i]?=some o→∃ d Q,o.dst=some d∧d < n∧Qs[i]?=some Q∧StepI P n I ops (see ops o (ents l us (i0 + i)++T)) o Q
 | [],[],i0,_,_,h=>⟨rfl,h,fun i o ho=>by simp at ho⟩
 | [],_::_,_,_,_,h=>h.elim
 | _::_,[],_,_,_,h=>h.elim
 | o::r,Q::Qs,i0,hl,hq,h=>by
  obtain ⟨d,h1,h2,_,h4,h5⟩:=h
  have h6:=h5 (us i0) (hq 0 Q rfl)
  have hl0:l[i0]?=some o:=by simpa using hl 0 o rfl
  have he:(d,us i0)::(ents l us i0++T)=ents l us (i0 + 1)++T:=by
   rw [ents,hl0]
   simp only [Option.bind_some,h1,List.cons_append]
  rw [he] at h6
  obtain ⟨a1,a2,a3⟩:=DRunI.out us l r Qs (i0 + 1) (fun i o' ho'=>by have:=hl (i + 1) o' (by simpa using ho'); rwa [show i0 + (i + 1)=i0 + 1 + i by omega] at this) (fun i Q' hQ'=>by have:=hq (i + 1) Q' (by simpa using hQ'); rwa [show i0 + (i + 1)=i0 + 1 + i by omega] at this) h6
  refine ⟨by simp [a1],by rw [List.length_cons,show i0 + (r.length + 1)=i0 + 1 + r.length by omega]; exact a2,fun i o' ho'=>?_⟩
  cases i with
  | zero =>
   simp only [List.getElem?_cons_zero,Option.some.injEq] at ho'
   subst ho'
   exact ⟨d,Q,h1,by simpa using h2,rfl,h4⟩
  | succ i =>
   obtain ⟨d',Q',b1,b2,b3,b4⟩:=a3 i o' (by simpa using ho')
   exact ⟨d',Q',b1,b2,by simpa using b3,by rwa [show i0 + 1 + i=i0 + (i + 1) by omega] at b4⟩

theorem DRunI.fits {I:St→Prop} {ops:Array Oper} {k:Tmps→St→Prop}:∀ (r:List Oper) (Qs:List (AV→Prop)) (T:Tmps),DRunI P n I ops r Qs T k→∀ (i:Nat) (Q:AV→Prop),Qs[i]?=some Q→∃ u,Q u
 | [],[],_,_,i,Q,h=>by simp at h
 | [],_::_,_,h,_,_,_=>h.elim
 | _::_,[],_,h,_,_,_=>h.elim
 | o::r,Q0::Qs,T,h,i,Q,hq=>by
  obtain ⟨d,h1,h2,⟨u,hu⟩,h4,h5⟩:=h
  cases i with
  | zero=>simp at hq; subst hq; exact ⟨u,hu⟩
  | succ i=>exact DRunI.fits r Qs _ (h5 u hu) i Q (by simpa using hq)

theorem ents_get {l:List Oper} {us:Nat→AV}:∀ (i:Nat) (t:Nat) (v:AV),Tmps.get (ents l us i) t=some v→∃ j,j < i∧(l[j]?).bind (·.dst)=some t∧v=us j
 | 0,t,v,h=>by cases h
 | i + 1,t,v,h=>by
  unfold ents at h
  cases hd:(l[i]?).bind (·.dst) with
  | none =>
   rw [hd] at h
   obtain ⟨j,h1,h2,h3⟩:=ents_get i t v h
   exact ⟨j,by omega,h2,h3⟩
  | some d =>
   rw [hd] at h
   simp only at h
   rw [Tmps.get_cons] at h
   by_cases hdt:d=t
   ·rw [if_pos hdt] at h
    cases h
    exact ⟨i,by omega,by rw [hd,hdt],rfl⟩
   ·rw [if_neg hdt] at h
    obtain ⟨j,h1,h2,h3⟩:=ents_get i t v h
    exact ⟨j,by omega,h2,h3⟩

theorem ents_none {l:List Oper} {us:Nat→AV}:∀ (i:Nat) (t:Nat),Tmps.get (ents l us i) t=none→∀ j,j < i→(l[j]?).bind (·.dst)≠some t
 | 0,t,_,j,h=>by omega
 | i + 1,t,h,j,hj=>by
  unfold ents at h
  cases hd:(l[i]?).bind (·.dst) with
  | none =>
   rw [hd] at h
   rcases Nat.lt_or_ge j i with h1|h1
   ·exact ents_none i t h j h1
   ·have:j=i:=by omega
    subst this
    rw [hd]
    simp
  | some d =>
   rw [hd] at h
   simp only at h
   rw [Tmps.get_cons] at h
   by_cases hdt:d=t
   ·rw [if_pos hdt] at h; cases h
   ·rw [if_neg hdt] at h
    rcases Nat.lt_or_ge j i with h1|h1
    ·exact ents_none i t h j h1
    ·have:j=i:=by omega
     subst this
     rw [hd]
     simpa using hdt

end
end Go.AM
namespace Go.AM
open Go.RowKit (Below)
section
variable {P:Program} {n:Nat} {K:Post} {E:EPost} {T:Tmps} {st:St} {ops:Array Oper} {rest:List Oper}
variable {ty:TypeId} {pos:String} {es:Array Edge} {gd:Option (Nat × Bool)} {d:Tmp} {x y:Operand} {dd:Option Tmp}
theorem shl_ {t u:TypeId} {k k':IntKind} {a c:Int} {b:Nat} (hg:goes ops n T ⟨dd,.binOp .shl t x y u,ty,pos,es,gd⟩=some d)
  (hx:ev st T x=some (.int k a)) (hy:ev st T y=some (.int k' (b:Int))) (hc:k.wrap (a * 2 ^ (min b k.bits))=c)
  (h:AOps P n ops rest K E ((d,.int k c)::T) st):AOps P n ops (⟨dd,.binOp .shl t x y u,ty,pos,es,gd⟩::rest) K E T st:=by
 obtain ⟨hw,hd,hok⟩:=goes_some hg
 simp only at hd
 subst hd
 refine AOps.pure hw hok _ (fun g w a' hs hk=>?_) h
 have h1:=ev_R hs hk hx
 have h2:=ev_R hs hk hy
 generalize hu:a'.eval x=u1 at h1
 generalize hv:a'.eval y=u2 at h2
 cases h1
 cases h2
 subst hc
 refine ⟨_,?_,.int k _⟩
 have hb:¬ (b:Int) < 0:=by omega
 simp [execOp,hu,hv,eqGuard_at_int,binOp,Op.shift,hb]
theorem shr_ {t u:TypeId} {k k':IntKind} {a c:Int} {b:Nat} (hg:goes ops n T ⟨dd,.binOp .shr t x y u,ty,pos,es,gd⟩=some d)
  (hx:ev st T x=some (.int k a)) (hy:ev st T y=some (.int k' (b:Int))) (hc:a.fdiv (2 ^ (min b k.bits))=c)
  (h:AOps P n ops rest K E ((d,.int k c)::T) st):AOps P n ops (⟨dd,.binOp .shr t x y u,ty,pos,es,gd⟩::rest) K E T st:=by
 obtain ⟨hw,hd,hok⟩:=goes_some hg
 simp only at hd
 subst hd
 refine AOps.pure hw hok _ (fun g w a' hs hk=>?_) h
 have h1:=ev_R hs hk hx
 have h2:=ev_R hs hk hy
 generalize hu:a'.eval x=u1 at h1
 generalize hv:a'.eval y=u2 at h2
 cases h1
 cases h2
 subst hc
 refine ⟨_,?_,.int k _⟩
 have hb:¬ (b:Int) < 0:=by omega
 simp [execOp,hu,hv,eqGuard_at_int,binOp,Op.shift,hb]
theorem btk {bo:BinOp} {t u:TypeId} {k:IntKind} {a b c:Int} (hbo:bo=.and∨bo=.or∨bo=.xor) (hg:goes ops n T ⟨dd,.binOp bo t x y u,ty,pos,es,gd⟩=some d)
  (hx:ev st T x=some (.int k a)) (hy:ev st T y=some (.int k b)) (hc:bits bo k a b=c)
  (h:AOps P n ops rest K E ((d,.int k c)::T) st):AOps P n ops (⟨dd,.binOp bo t x y u,ty,pos,es,gd⟩::rest) K E T st:=by
 obtain ⟨hw,hd,hok⟩:=goes_some hg
 simp only at hd
 subst hd
 exact AOps.bits hbo hw hok hx hy hc h
end
end Go.AM
namespace Go.AM
open Go.RowKit (Below)
class PureFn (P:Program) (f:FuncId) (args:List AV) (X:outParam AV):Prop where
 out:∀ st,ACalls P f args st (fun v st'=>v=X∧st'=st) (fun _ _=>False)
section
variable {P:Program} {n:Nat} {K:Post} {E:EPost} {T:Tmps} {st:St} {ops:Array Oper} {rest:List Oper}
variable {ty:TypeId} {pos:String} {es:Array Edge} {gd:Option (Nat × Bool)} {d:Tmp} {x y:Operand} {dd:Option Tmp}
theorem clp {f:FuncId} [hf:GoFun P f] {args:Array Operand} {tys:Array TypeId} {avs:List AV} {X:AV}
  (hg:goes ops n T ⟨dd,.call ⟨.value (.func f),args,tys⟩,ty,pos,es,gd⟩=some d) (ha:evs st T args.toList=some avs)
  (hc:PureFn P f avs X) (h:AOps P n ops rest K E ((d,X)::T) st) :
  AOps P n ops (⟨dd,.call ⟨.value (.func f),args,tys⟩,ty,pos,es,gd⟩::rest) K E T st:=cle hg ha (hc.out st) h
theorem Tmps.tell {v v':AV} {t:Nat} (ht:T.get t=some v) (he:v=v') (h:AOps P n ops rest K E ((t,v')::T) st):AOps P n ops rest K E T st :=
 AOps.weaken (TLe.consE ht he (.refl _)) (.refl _) h
def gtmp (ops:Array Oper) (T:Tmps) (o:Oper):Option (Nat × Bool) :=
 match o.guard with
 | some (j,_)=>match (ops[j]?).bind (·.dst) with
  | some t=>match T.get t with
   | some (.bool b)=>some (t,b)
   | _=>none
  | none=>none
 | none=>none
theorem gtmp_some {o:Oper} {t:Nat} {b:Bool} (h:gtmp ops T o=some (t,b)):T.get t=some (.bool b):=by
 unfold gtmp at h
 split at h
 ·split at h
  ·split at h
   ·simp only [Option.some.injEq,Prod.mk.injEq] at h
    obtain ⟨rfl,rfl⟩:=h
    assumption
   ·cases h
  ·cases h
 ·cases h
theorem gB {o:Oper} {t:Nat} {b:Bool} (b':Bool) (h:gtmp ops T o=some (t,b)) (hb:b=b') (k:AOps P n ops (o::rest) K E ((t,.bool b')::T) st):AOps P n ops (o::rest) K E T st :=
 Tmps.tell (gtmp_some h) (by rw [hb]) k
theorem cT {c:Operand} {x y:Code} {b:Bool} (hc:ev st T c=some (.bool b)) (hb:b=true) (h:AWP P n x K E T st):AWP P n (.cond c x y) K E T st:=by
 subst hb; exact AWP.cond_true hc h
theorem cF {c:Operand} {x y:Code} {b:Bool} (hc:ev st T c=some (.bool b)) (hb:b=false) (h:AWP P n y K E T st):AWP P n (.cond c x y) K E T st:=by
 subst hb; exact AWP.cond_false hc h
end
end Go.AM
namespace Go.AM
open Go.RowKit (Below)
section
variable {P:Program} {n:Nat} {K:Post} {E:EPost} {T:Tmps} {st:St}
def EffJ (P:Program) (n:Nat) (I I':St→Prop) (T:Tmps) (o:Oper) (Q:AV→Prop):Prop :=
 ∀ st g w a (K':Act→World→Prop) (Q':Exit→Act→World→Prop),I st→Sim g w st→Known g w T a→a.tmps.size=n →
  (∀ rv g' w' v st1,Ext g w g' w'→Sim g' w' st1→R g' w' v rv→Q v→I' st1→K' (a.put o.dst rv) w')→o.wp P a w K' Q'
def StepS (P:Program) (n:Nat) (I:Nat→St→Prop) (Es:List Nat) (i:Nat) (ops:Array Oper) (T:Tmps) (o:Oper) (Q:AV→Prop):Prop :=
 (wantedA ops T o=some true∧(Es.contains i=false→∀ j,EffJ P n (I j) (I j) T o Q)∧∀ j,Es[j]?=some i→EffJ P n (I j) (I (j + 1)) T o Q)∨(wantedA ops T o=some false∧Q (.lit undef)∧Es.contains i=false)
def DRunS (P:Program) (n:Nat) (I:Nat→St→Prop) (Es:List Nat) (ops:Array Oper):Nat→List Oper→List (AV→Prop)→Tmps→(Tmps→St→Prop)→Prop
 | _,[],[],T,k=>∀ st,I Es.length st→k T st
 | i,o::r,Q::Qs,T,k=>(∃ u,Q u)∧dstOk o.dst n=true∧StepS P n I Es i ops (see ops o T) o Q∧∀ u,Q u→DRunS P n I Es ops (i + 1) r Qs (T.put o.dst u) k
 | _,_,_,_,_=>False
theorem DRunS.out {I:Nat→St→Prop} {Es:List Nat} {ops:Array Oper} {k:Tmps→St→Prop} (us:Nat→AV) (l:List Oper):∀ (r:List Oper) (Qs:List (AV→Prop)) (i0:Nat),(∀ (i:Nat) (o:Oper),r[i]?=some o→l[i0 + i]?=some o)→(∀ (i:Nat) (Q:AV→Prop),Qs[i]?=some Q→Q (us (i0 + i))) →
  DRunS P n I Es ops i0 r Qs (ents l us i0++T) k→Qs.length=r.length∧(∀ st,I Es.length st→k (ents l us (i0 + r.length)++T) st) ∧
   ∀ i o,r[i]?=some o→∃ Q,dstOk o.dst n=true∧Qs[i]?=some Q∧StepS P n I Es (i0 + i) ops (see ops o (ents l us (i0 + i)++T)) o Q
 | [],[],i0,_,_,h=>⟨rfl,h,fun i o ho=>by simp at ho⟩
 | [],_::_,_,_,_,h=>h.elim
 | _::_,[],_,_,_,h=>h.elim
 | o::r,Q::Qs,i0,hl,hq,h=>by
  obtain ⟨_,h2,h4,h5⟩:=h
  have h6:=h5 (us i0) (hq 0 Q rfl)
  have hl0:l[i0]?=some o:=by simpa using hl 0 o rfl
  have he:(ents l us i0++T).put o.dst (us i0)=ents l us (i0 + 1)++T:=by
   rw [ents,hl0]
   simp only [Option.bind_some]
   cases o.dst <;> rfl
  rw [he] at h6
  obtain ⟨a1,a2,a3⟩:=DRunS.out us l r Qs (i0 + 1) (fun i o' ho'=>by have:=hl (i + 1) o' (by simpa using ho'); rwa [show i0 + (i + 1)=i0 + 1 + i by omega] at this) (fun i Q' hQ'=>by have:=hq (i + 1) Q' (by simpa using hQ'); rwa [show i0 + (i + 1)=i0 + 1 + i by omega] at this) h6
  refine ⟨by simp [a1],by rw [List.length_cons,show i0 + (r.length + 1)=i0 + 1 + r.length by omega]; exact a2,fun i o' ho'=>?_⟩
  cases i with
  | zero =>
   simp only [List.getElem?_cons_zero,Option.some.injEq] at ho'
   subst ho'
   exact ⟨Q,h2,rfl,h4⟩
  | succ i =>
   obtain ⟨Q',b1,b2,b3⟩:=a3 i o' (by simpa using ho')
   exact ⟨Q',b1,by simpa using b2,by rwa [show i0 + 1 + i=i0 + (i + 1) by omega] at b3⟩
theorem DRunS.fits {I:Nat→St→Prop} {Es:List Nat} {ops:Array Oper} {k:Tmps→St→Prop}:∀ (r:List Oper) (Qs:List (AV→Prop)) (i0:Nat) (T:Tmps),DRunS P n I Es ops i0 r Qs T k→∀ (i:Nat) (Q:AV→Prop),Qs[i]?=some Q→∃ u,Q u
 | [],[],_,_,_,i,Q,h=>by simp at h
 | [],_::_,_,_,h,_,_,_=>h.elim
 | _::_,[],_,_,h,_,_,_=>h.elim
 | o::r,Q0::Qs,i0,T,h,i,Q,hq=>by
  obtain ⟨⟨u,hu⟩,h2,h4,h5⟩:=h
  cases i with
  | zero=>simp at hq; subst hq; exact ⟨u,hu⟩
  | succ i=>exact DRunS.fits r Qs _ _ (h5 u hu) i Q (by simpa using hq)
end
end Go.AM
namespace Go.AM
open Go.RowKit (Below)
section
variable {P:Program} {n:Nat} {K:Post} {E:EPost} {T:Tmps} {st base:St} {ops:Array Oper} {sts:List St} {Es:List Nat}
theorem ev_glob {s s':St} (h:s.glob=s'.glob) (T:Tmps) (x:Operand):ev s T x=ev s' T x:=by
 cases x <;> simp [ev,St.row,h]
theorem valA_glob {s s':St} (h:s.glob=s'.glob) (T:Tmps) (o:Op):valA s T o=valA s' T o:=by
 unfold valA
 simp only [ev_glob h]
theorem step1_glob {s s':St} (h:s.glob=s'.glob) (T:Tmps) (o:Oper):step1 ops n s T o=step1 ops n s' T o:=by
 unfold step1
 rw [valA_glob h]
end
end Go.AM
namespace Go.AM
open Go.RowKit (Below)
theorem Sim.grown {g:G} {w w':World} {st:St} (hs:Sim g w st) (os:Array Obj) (hh:w'.heap=w.heap++os) (h1:w'.os=w.os) (h2:w'.tape=w.tape) (h3:w'.output=w.output):Ext g w g w'∧Sim g w' st:=by
 have hb:∀ k,k < w.heap.size→w'.heap[k]?=w.heap[k]?:=fun k hk=>by rw [hh,Array.getElem?_append,if_pos hk]
 have hsz:w.heap.size≤w'.heap.size:=by rw [hh,Array.size_append]; omega
 have he:Ext g w g w':=⟨rfl,Nat.le_refl _,fun _ _ h=>h,fun b i h=>by simp only [World.cell?,hb b (hs.immlt b i h)],fun _ _ h=>h,fun _ _ h=>h,⟨h1,h2,h3,hsz,fun k hk=>hb k (Nat.lt_of_lt_of_le hk hs.base)⟩,fun _ _ _ h=>h⟩
 refine ⟨he,Nat.le_trans hs.base hsz,fun o c hc=>?_,hs.inj,fun t ht=>?_,hs.tobj,hs.tinj,fun b i h=>Nat.lt_of_lt_of_le (hs.immlt b i h) hsz,fun o b m h=>Nat.lt_of_lt_of_le (hs.objlt o b m h) hsz,fun t b r h=>Nat.lt_of_lt_of_le (hs.toklt t b r h) hsz,hs.fresh,fun gi row h=>(hs.globs gi row h).ext he⟩
 ·obtain ⟨b,m,h1,h2,h3,h4⟩:=hs.objs o c hc
  exact ⟨b,m,h1,h2,h3.mono he (hb b (hs.objlt o b m h1)),h4⟩
 ·obtain ⟨⟨b',len,cap,e,size⟩,h1,h2⟩:=hs.toks t ht
  refine ⟨_,h1,?_⟩
  cases b' with
  | none=>exact h2
  | some b' =>
   obtain ⟨a1,a2,a3,a4,⟨cur,a5,a6⟩,a7⟩:=h2
   exact ⟨a1,a2,a3,a4,⟨cur,(hb b' (hs.toklt t b' _ h1)).trans a5,a6⟩,a7⟩
theorem ACalls.grown {P:Program} {f:FuncId} {args:List AV} {st:St} {X:AV}
  (h:∀ g w (rargs:Array Value),Sim g w st→args.length=rargs.size→(∀ (i:Nat) c v,args[i]?=some c→rargs[i]?=some v→R g w c v) →
   Calls P f rargs w fun e w'=>∃ rv,e=.returned rv∧(∀ g w,R g w X rv)∧∃ os,w'.heap=w.heap++os∧w'.os=w.os∧w'.tape=w.tape∧w'.output=w.output) :
  ACalls P f args st (fun v st'=>v=X∧st'=st) (fun _ _=>False):=by
 intro g w rargs hs hl hr
 refine (h g w rargs hs hl hr).mono fun e w' ⟨rv,he,hR,os,a1,a2,a3,a4⟩=>?_
 obtain ⟨hx,hs'⟩:=hs.grown os a1 a2 a3 a4
 refine ⟨g,st,hx,hs',?_⟩
 subst he
 exact ⟨X,hR g w',rfl,rfl⟩
theorem globs_cells {g:G} {w:World} {st:St} (hs:Sim g w st) {gi:Nat} {row:List AV} (h:(gi,row) ∈ st.glob):∀ (j:Nat) c,row[j]?=some c→∃ v,w.cell? ⟨gi,j,none⟩=some v∧R g w c v:=by
 have hR:=(hs.globs gi row h).rel
 generalize hp:Value.pointer (some ⟨gi,0,none⟩)=pv at hR
 cases hR with
 | eptr _ _ _ _ b off f hsz h1 himm hh =>
  intro j c hj
  have hjl:=(List.getElem?_eq_some_iff.1 hj).1
  simp only [Value.pointer.injEq,Option.some.injEq,Addr.mk.injEq] at hp
  obtain ⟨rfl,hoff,_⟩:=hp
  have h2:=(himm 0 j (by simp) hjl).2
  refine ⟨f 0 j,?_,hh 0 j row c rfl hj⟩
  rw [← h2]
  congr 2
  omega
theorem tabIs {P:Program} {g:G} {w:World} {st:St} (hs:Sim g w st) {name:String} {gi:Nat} {k:IntKind} {zs:List Int} (hg:P.globalNamed name=some gi) (h:(gi,zs.map fun z=>AV.int k z) ∈ st.glob):Lib.TabIs P w name k zs:=by
 obtain ⟨cs,ty,fr,h1,h2⟩:=(hs.globs gi _ h).arr
 have hc:=globs_cells hs h
 unfold Lib.TabIs World.var?
 rw [hg]
 simp only [Option.bind_some,h1,Option.some.injEq]
 apply Array.ext_getElem?
 intro j
 rcases Nat.lt_or_ge j zs.length with hj|hj
 ·obtain ⟨v,hv,hR⟩:=hc j (.int k zs[j]) (by simp [hj])
  cases hR
  have hv':cs[j]?=some (.int k zs[j]):=by
   have:w.cell? ⟨gi,j,none⟩=cs[j]?:=by simp [World.cell?,h1]
   rw [← this]; exact hv
  rw [hv']
  simp [hj]
 ·rw [Array.getElem?_eq_none (by rw [h2]; simpa using hj)]
  simp [hj]
end Go.AM
namespace Go.AM
open Go.RowKit (Below)
variable {P:Program} {n:Nat} {K:Post} {E:EPost} {T:Tmps} {st:St}
end Go.AM
namespace Go.AM
def FitW1:Sh→AV→Prop
 | .kI k,c=>∃ x,c=.int k x∧(Lit.int k x).wf=true
 | .kB,c=>∃ b,c=.bool b
 | .kS,c=>∃ l:List UInt8,c=.str l∧l.length≤maxLen
def FitsW:List Sh→List AV→Prop
 | [],[]=>True
 | s::ss,c::cs=>FitW1 s c∧FitsW ss cs
 | _,_=>False
theorem FitsW.append:∀ {s1 s2:List Sh} {c1 c2:List AV},FitsW s1 c1→FitsW s2 c2→FitsW (s1++s2) (c1++c2)
 | [],_,[],_,_,h2=>h2
 | _::_,_,_::_,_,h1,h2=>⟨h1.1,h1.2.append h2⟩
 | [],_,_::_,_,h1,_=>h1.elim
 | _::_,_,[],_,h1,_=>h1.elim
section
variable {P:Program} {n:Nat} {K:Post} {E:EPost} {T:Tmps} {st:St} {ops:Array Oper} {rest:List Oper}
variable {ty ty2:TypeId} {pos pos2:String} {es es2:Array Edge} {gd:Option (Nat × Bool)} {d:Tmp} {y:Operand} {dd:Option Tmp}
theorem alN {t:TypeId} {sz by_:Nat} {z:Value} [hi:Inf P t sz by_ z] {v:AV} (hg:goes ops n T ⟨dd,.alloc t,ty,pos,es,gd⟩=some d) (hz:zok sz z=true) (hy:∀ o,ev (st.set o (.cells t sz [zrow z])) ((d,.cptr o sz 0 0)::T) y=some v)
  (hv:storable v=true) (hsz:Nat.beq v.cells.length sz=true)
  (k:AOps P n ops rest K E ((d,.eptr sz [v.cells] 0 0)::T) st) :
  AOps P n ops (⟨dd,.alloc t,ty,pos,es,gd⟩::⟨none,.store t (.tmp d) y,ty2,pos2,es2,none⟩::rest) K E T st:=by
 refine al hg hz fun o ho=>?_
 have hzl:=(zok_spec hz).2.2.1
 refine soN d rfl ?_ (hy o) hv hsz ?_ ho ?_
 ·simp [Tmps.get_cons]
 ·rw [Nat.eq_of_beq_eq_true hsz,hzl]; exact nbeq_self sz
 ·refine AOps.weaken ?_ (.refl _) k
  intro i v' h
  rw [Tmps.get_cons] at h
  by_cases e:d=i
  ·subst e
   rw [if_pos rfl] at h
   cases h
   exact ⟨_,by rw [Tmps.get_cons,if_pos rfl],.refl _⟩
  ·rw [if_neg e] at h
   exact ⟨v',by rw [Tmps.get_cons,if_neg e,Tmps.get_cons,if_neg e]; exact h,.refl _⟩
end
end Go.AM
namespace Go.AM
section
variable {P:Program} {n:Nat} {K:Post} {E:EPost} {T:Tmps} {st:St} {ops:Array Oper} {rest:List Oper}
variable {ty ty2:TypeId} {pos pos2:String} {es es2:Array Edge} {gd:Option (Nat × Bool)} {d:Tmp} {x y:Operand} {dd:Option Tmp}
theorem ZA {o:Oper} {d:Tmp} {v:AV} (h:step1 ops n st T o=some (d,v):=by exact rfl) (z:AOps P n ops rest K E ((d,v)::T) st):AOps P n ops (o::rest) K E T st:=sm h z
theorem ZB {o:Oper} {d:Tmp} (h:step0 ops n T o=some d:=by exact rfl) (z:AOps P n ops rest K E ((d,.lit undef)::T) st):AOps P n ops (o::rest) K E T st:=uw h z
theorem ZC {t ft:TypeId} {f off:Nat} [hf:Fld P t f off ft] {sz by_:Nat} {zz:Value} [hi:Inf P ft (sz + 1) by_ zz] {q:AV} (hg:goes ops n T ⟨dd,.fieldAddr t x f,ty,pos,es,gd⟩=some d:=by exact rfl)
  (hx:ptrA off (ev st T x)=some q:=by exact rfl)
  (z:AOps P n ops rest K E ((d,q)::T) st):AOps P n ops (⟨dd,.fieldAddr t x f,ty,pos,es,gd⟩::rest) K E T st:=fa hg hx z
theorem ZD {t:TypeId} {td:TypeDesc} [hu:Und P t td] {sz by_:Nat} {zz:Value} [hi:Inf P t sz by_ zz] {s:Nat} {rows:List (List AV)} {i:Nat} {row:List AV}
  (hg:goes ops n T ⟨dd,.load t x,ty,pos,es,gd⟩=some d:=by exact rfl) (ha:aggD td=true:=by exact rfl) (hx:ev st T x=some (.eptr s rows i 0):=by exact rfl) (hr:rows[i]?=some row:=by first|exact rfl|assumption) (hl:Nat.beq sz row.length=true:=by exact rfl)
  (z:AOps P n ops rest K E ((d,.agg row)::T) st):AOps P n ops (⟨dd,.load t x,ty,pos,es,gd⟩::rest) K E T st:=leW hg ha hx hr hl z
theorem ZF {t:TypeId} {td:TypeDesc} [hu:Und P t td] {sz by_:Nat} {zz:Value} [hi:Inf P t sz by_ zz] {s:Nat} {rows:List (List AV)} {i off:Nat} {row:List AV} {v:AV}
  (hg:goes ops n T ⟨dd,.load t x,ty,pos,es,gd⟩=some d:=by exact rfl) (hx:ev st T x=some (.eptr s rows i off):=by exact rfl) (hr:rows[i]?=some row:=by first|exact rfl|assumption) (hv:sel (aggD td) sz row off=some v:=by exact rfl)
  (z:AOps P n ops rest K E ((d,v)::T) st):AOps P n ops (⟨dd,.load t x,ty,pos,es,gd⟩::rest) K E T st:=le hg hx hr hv z
theorem ZH {t:TypeId} {td:TypeDesc} [hu:Und P t td] {sz by_:Nat} {zz:Value} [hi:Inf P t sz by_ zz] {o s:Nat} {rows:List (List AV)} {i off:Nat} {row:List AV} {v:AV} {oty:TypeId}
  (hg:goes ops n T ⟨dd,.load t x,ty,pos,es,gd⟩=some d:=by exact rfl) (hx:ev st T x=some (.cptr o s i off):=by exact rfl) (ho:st.obj o=some (.cells oty s rows):=by first|exact St.obj_set _ _ _|assumption|(rename_i hle; exact hle.obj _ _ (St.obj_set _ _ _))|(rename_i hle; exact hle.obj _ _ (by assumption))) (hr:rows[i]?=some row:=by first|exact rfl|assumption) (hv:sel (aggD td) sz row off=some v:=by exact rfl)
  (z:AOps P n ops rest K E ((d,v)::T) st):AOps P n ops (⟨dd,.load t x,ty,pos,es,gd⟩::rest) K E T st:=lc hg hx ho hr hv z
theorem ZJ {t u:TypeId} {e:TypeId} [hu:Und P t (.slice e)] {sz:Nat} {rows:List (List AV)} {tk:Tok}
  (hg:goes ops n T ⟨dd,.call ⟨.builtin .len,#[x],#[t]⟩,u,pos,es,gd⟩=some d:=by exact rfl) (hx:ev st T x=some (.view sz rows tk):=by exact rfl)
  (z:AOps P n ops rest K E ((d,.int .i64 rows.length)::T) st):AOps P n ops (⟨dd,.call ⟨.builtin .len,#[x],#[t]⟩,u,pos,es,gd⟩::rest) K E T st:=lnv hg hx z
theorem ZK {t u:TypeId} {e:TypeId} [hu:Und P t (.slice e)] {o sz lo len:Nat}
  (hg:goes ops n T ⟨dd,.call ⟨.builtin .len,#[x],#[t]⟩,u,pos,es,gd⟩=some d:=by exact rfl) (hx:ev st T x=some (.msl o sz lo len):=by exact rfl)
  (z:AOps P n ops rest K E ((d,.int .i64 len)::T) st):AOps P n ops (⟨dd,.call ⟨.builtin .len,#[x],#[t]⟩,u,pos,es,gd⟩::rest) K E T st:=lnm hg hx z
theorem ZM {t e:TypeId} [hu:Und P t (.slice e)] {sz by_:Nat} {zz:Value} [hi:Inf P e sz by_ zz] {rows:List (List AV)} {tk:Tok} {k:IntKind} {i:Int} {m:Nat}
  (hg:goes ops n T ⟨dd,.indexAddr t x y,ty,pos,es,gd⟩=some d:=by exact rfl) (hx:ev st T x=some (.view sz rows tk):=by exact rfl) (hy:ev st T y=some (.int k i):=by exact rfl)
  (hm:i=m:=by first|exact rfl|exact (rfl:(0:Int)=((0:Nat):Int))|exact (rfl:(1:Int)=((1:Nat):Int))|exact (rfl:(2:Int)=((2:Nat):Int))|exact (rfl:(3:Int)=((3:Nat):Int))|exact (rfl:(4:Int)=((4:Nat):Int))|exact (rfl:(5:Int)=((5:Nat):Int))|exact (rfl:(6:Int)=((6:Nat):Int)))
  (hlt:m < rows.length:=by first|assumption|exact of_decide_eq_true rfl)
  (z:AOps P n ops rest K E ((d,.eptr sz rows m 0)::T) st):AOps P n ops (⟨dd,.indexAddr t x y,ty,pos,es,gd⟩::rest) K E T st:=ix hg hx hy hm hlt z
theorem ZN {t e:TypeId} [hu:Und P t (.slice e)] {sz by_:Nat} {zz:Value} [hi:Inf P e sz by_ zz] {o lo len:Nat} {k:IntKind} {i:Int} {m:Nat}
  (hg:goes ops n T ⟨dd,.indexAddr t x y,ty,pos,es,gd⟩=some d:=by exact rfl) (hx:ev st T x=some (.msl o sz lo len):=by exact rfl) (hy:ev st T y=some (.int k i):=by exact rfl) (hm:i=m:=by exact rfl) (hlt:m < len:=by assumption)
  (z:AOps P n ops rest K E ((d,.cptr o sz (lo + m) 0)::T) st):AOps P n ops (⟨dd,.indexAddr t x y,ty,pos,es,gd⟩::rest) K E T st:=ixm hg hx hy hm hlt z
theorem ZO {t u:TypeId} {a:Nat} (hg:goes ops n T ⟨dd,.binOp .add t x y u,ty,pos,es,gd⟩=some d:=by exact rfl)
  (hx:ev st T x=some (.int .i64 (a:Int)):=by exact rfl) (hy:ev st T y=some (.int .i64 1):=by exact rfl) (hc:a < 9223372036854775807:=by omega)
  (z:AOps P n ops rest K E ((d,.int .i64 ((a + 1:Nat):Int))::T) st):AOps P n ops (⟨dd,.binOp .add t x y u,ty,pos,es,gd⟩::rest) K E T st:=inc hg hx hy hc z
theorem ZQ {t e:TypeId} {esz eby:Nat} {ez:Value} {v:AV} [hu:Und P t (.slice e)] [hie:Inf P e (esz + 1) eby ez] (hg:goes ops n T ⟨dd,.buildSlice t 1 #[(0,x)],ty,pos,es,gd⟩=some d:=by exact rfl)
  (hz:zok (esz + 1) ez=true:=by exact rfl) (hsm:Nat.ble (1 * (esz + 1)) 16777216=true:=by exact rfl) (hx:ev st T x=some v:=by exact rfl) (hl:Nat.beq v.cells.length (esz + 1)=true:=by exact rfl) (hv:storable v=true:=by exact rfl)
  (z:AOps P n ops rest K E ((d,.view (esz + 1) [v.cells] .shared)::T) st):AOps P n ops (⟨dd,.buildSlice t 1 #[(0,x)],ty,pos,es,gd⟩::rest) K E T st:=bs1 hg hz hsm hx hl hv z
theorem ZR {t:TypeId} {v:AV} {sz:Nat} (hg:goes ops n T ⟨dd,.box t x,ty,pos,es,gd⟩=some d:=by exact rfl) (hx:ev st T x=some v:=by exact rfl) (hv:storable v=true:=by exact rfl) (hsz:v.cells.length=sz:=by exact rfl)
  (z:AOps P n ops rest K E ((d,.eptr sz [v.cells] 0 0)::T) st):AOps P n ops (⟨dd,.box t x,ty,pos,es,gd⟩::rest) K E T st:=bxe hg hx hv hsz z
theorem ZU {t u:TypeId} [hu:Und P t .bool] {p q:Bool}
  (hg:goes ops n T ⟨dd,.binOp .neq t x y u,ty,pos,es,gd⟩=some d:=by exact rfl) (hx:ev st T x=some (.bool p):=by exact rfl) (hy:ev st T y=some (.bool q):=by exact rfl)
  (z:AOps P n ops rest K E ((d,.bool (!(p == q)))::T) st):AOps P n ops (⟨dd,.binOp .neq t x y u,ty,pos,es,gd⟩::rest) K E T st:=neb hg hx hy z
theorem YA {t:TypeId} {sz by_:Nat} {zz:Value} [hi:Inf P t sz by_ zz] {v:AV} (hg:goes ops n T ⟨dd,.alloc t,ty,pos,es,gd⟩=some d:=by exact rfl) (hz:zok sz zz=true:=by exact rfl) (hy:∀ o,ev (st.set o (.cells t sz [zrow zz])) ((d,.cptr o sz 0 0)::T) y=some v:=by exact fun _=>rfl)
  (hv:storable v=true:=by exact rfl) (hsz:Nat.beq v.cells.length sz=true:=by exact rfl)
  (z:AOps P n ops rest K E ((d,.eptr sz [v.cells] 0 0)::T) st) :
  AOps P n ops (⟨dd,.alloc t,ty,pos,es,gd⟩::⟨none,.store t (.tmp d) y,ty2,pos2,es2,none⟩::rest) K E T st:=alN hg hz hy hv hsz z
theorem YC {f:FuncId} [hf:GoFun P f] {args:Array Operand} {tys:Array TypeId} {avs:List AV} {X:AV}
  (hg:goes ops n T ⟨dd,.call ⟨.value (.func f),args,tys⟩,ty,pos,es,gd⟩=some d:=by exact rfl) (ha:evs st T args.toList=some avs:=by exact rfl)
  (hc:PureFn P f avs X:=by exact inferInstance) (z:AOps P n ops rest K E ((d,X)::T) st) :
  AOps P n ops (⟨dd,.call ⟨.value (.func f),args,tys⟩,ty,pos,es,gd⟩::rest) K E T st:=clp hg ha hc z
theorem YD {o:Oper} {t:Nat} {b:Bool} (h:gtmp ops T o=some (t,b):=by exact rfl) (hb:b=true:=by (fail_if_success rfl); first|assumption|exact decide_eq_true (by assumption)|exact decide_eq_true rfl|exact decide_eq_true (by omega)) (z:AOps P n ops (o::rest) K E ((t,.bool true)::T) st):AOps P n ops (o::rest) K E T st:=gB true h hb z
theorem YE {o:Oper} {t:Nat} {b:Bool} (h:gtmp ops T o=some (t,b):=by exact rfl) (hb:b=false:=by (fail_if_success rfl); first|assumption|exact decide_eq_false (by assumption)|exact decide_eq_false (by omega)) (z:AOps P n ops (o::rest) K E ((t,.bool false)::T) st):AOps P n ops (o::rest) K E T st:=gB false h hb z
theorem YH {c:Operand} {x y:Code} {b:Bool} (hc:ev st T c=some (.bool b):=by exact rfl) (hb:b=true:=by first|exact rfl|assumption|exact decide_eq_true (by assumption)|exact decide_eq_true rfl|exact decide_eq_true (by omega)) (z:AWP P n x K E T st):AWP P n (.cond c x y) K E T st:=cT hc hb z
theorem YI {c:Operand} {x y:Code} {b:Bool} (hc:ev st T c=some (.bool b):=by exact rfl) (hb:b=false:=by first|exact rfl|assumption|exact decide_eq_false (by assumption)|exact decide_eq_false (by omega)) (z:AWP P n y K E T st):AWP P n (.cond c x y) K E T st:=cF hc hb z
theorem nz {v:AV}:AOps P n ops [] (fun T' st''=>∃ u,T'=(d,u)::T∧(u=v∧st''=st)) E ((d,v)::T) st:=nl ⟨_,rfl,rfl,rfl⟩
theorem dp {e:Nat} {Φ:AV→St→Prop} {i:Nat} {o:Oper} {r:List Oper} {d:Tmp} {v:AV} {k:Tmps→Prop} (hi:Nat.beq i e=false:=by exact rfl) (hd:dstA n o.dst=some d:=by exact rfl) (hw:wantedA ops (see ops o T) o=some true:=by exact rfl)
  (h:∀ st',StLe st' st.notok→AOps P n ops [o] (fun T' st''=>∃ u,T'=(d,u)::see ops o T∧(u=v∧st''=st')) (fun _ _ _=>False) (see ops o T) st')
  (z:DRun P n st ops e Φ (i + 1) r ((d,v)::T) k):DRun P n st ops e Φ i (o::r) T k:=dq hi hd hw h z
end
end Go.AM
namespace Go.AM
section
variable {P:Program} {n:Nat} {T:Tmps} {I:St→Prop} {ops:Array Oper} {Qs:List (AV→Prop)}
end
end Go.AM
namespace Go.AM
open Go.RowKit (Below)
def mayBe (S:List Nat) (Es:List Nat) (i:Nat) (bs:List Bool):Bool :=
 (Es.zip bs).all fun p=>bif p.2 then !(Nat.beq p.1 i) && !((S.getD p.1 0).testBit i) else !((S.getD i 0).testBit p.1)
def setBit (Es:List Nat) (i:Nat) (bs:List Bool):List Bool:=(Es.zip bs).map fun p=>p.2 || Nat.beq p.1 i
def segOk (l:List Oper) (k k':Nat) (Es:List Nat):Bool :=
 let S:=predSets l []
 Nat.ble k k' && Nat.ble k' l.length && ((List.range l.length).all fun i =>
  match l[i]? with
  | none=>false
  | some o=>(edgesOf o).all (fun x=>Nat.blt x i) &&
   (bif Nat.blt i k then true
   else bif Nat.blt i k' then
    (o.dst.isSome || Es.contains i) && (List.range' k (k' - k)).all (fun j=>match l[j]? with
     | none=>false
     | some p=>(bif Nat.beq i j then true else (match o.dst,p.dst with|some a,some b=>!(Nat.beq a b)|_,_=>true)) &&
      (match p.dst with
       | some t=>bif (o.looksAt l.toArray).contains t then (S.getD i 0).testBit j else true
       | none=>true))
   else (List.range' k (k' - k)).all fun j=>(S.getD i 0).testBit j)) &&
 Es.all fun e=>Nat.ble k e && Nat.blt e k'
section
variable {P:Program} {n:Nat} {K:Post} {E:EPost} {T:Tmps} {st:St}
theorem preds_listed {l:List Oper} {listed:Array Bool} (hc:Closed l listed) {i:Nat} {o:Oper} (ho:l[i]?=some o) (he:∀ x ∈ edgesOf o,listed.getD x false=true) {j:Nat} (hj:((predSets l []).getD i 0).testBit j=true):listed.getD j false=true :=
 predSets_spec l listed hc l [] (fun j=>by simp) (fun i o hi=>by simp at hi) i o (by rw [predSets_length]; simpa using (List.getElem?_eq_some_iff.1 ho).1) ho he j hj
theorem segOk_spec {l:List Oper} {k k':Nat} {Es:List Nat} (h:segOk l k k' Es=true):k≤k'∧k'≤l.length∧(∀ i o,l[i]?=some o→∀ x ∈ edgesOf o,x < i) ∧
  (∀ i o,l[i]?=some o→k≤i→i < k'→(o.dst=none→Es.contains i=true)∧∀ j p,k≤j→j < k'→l[j]?=some p→(i≠j→∀ a b,o.dst=some a→p.dst=some b→a≠b) ∧
   (∀ t,p.dst=some t→(o.looksAt l.toArray).contains t=true→((predSets l []).getD i 0).testBit j=true)) ∧
  (∀ i o,k'≤i→l[i]?=some o→∀ j,k≤j→j < k'→((predSets l []).getD i 0).testBit j=true)∧∀ e ∈ Es,k≤e∧e < k':=by
 simp only [segOk,Bool.and_eq_true] at h
 obtain ⟨⟨⟨h0,h00⟩,hall⟩,hE⟩:=h
 have hat:∀ i o,l[i]?=some o→((edgesOf o).all (fun x=>Nat.blt x i)=true ∧
   (bif Nat.blt i k then true
   else bif Nat.blt i k' then
    (o.dst.isSome || Es.contains i) && (List.range' k (k' - k)).all (fun j=>match l[j]? with
     | none=>false
     | some p=>(bif Nat.beq i j then true else (match o.dst,p.dst with|some a,some b=>!(Nat.beq a b)|_,_=>true)) &&
      (match p.dst with
       | some t=>bif (o.looksAt l.toArray).contains t then ((predSets l []).getD i 0).testBit j else true
       | none=>true))
   else (List.range' k (k' - k)).all fun j=>((predSets l []).getD i 0).testBit j)=true):=by
  intro i o ho
  have hi:=(List.getElem?_eq_some_iff.1 ho).1
  have:=List.all_eq_true.1 hall i (List.mem_range.2 hi)
  simp only [ho,Bool.and_eq_true] at this
  exact this
 have hkk:=Nat.ble_le h0
 have hr:∀ j,k≤j→j < k'→j ∈ List.range' k (k' - k):=fun j h1 h2=>List.mem_range'_1.2 ⟨h1,by omega⟩
 refine ⟨hkk,Nat.ble_le h00,fun i o ho x hx=>?_,fun i o ho hik hik'=>?_,fun i o hik ho j hj1 hj2=>?_,fun e he=>?_⟩
 ·have:=List.all_eq_true.1 (hat i o ho).1 x hx
  simpa [Nat.blt_eq] using this
 ·have h2:=(hat i o ho).2
  rw [show Nat.blt i k=false by rw [Bool.eq_false_iff,Ne,Nat.blt_eq]; omega,cond_false,show Nat.blt i k'=true by simpa [Nat.blt_eq] using hik',cond_true,Bool.and_eq_true] at h2
  refine ⟨fun hd=>?_,fun j p hj1 hj2 hp=>?_⟩
  ·rw [hd] at h2
   simpa using h2.1
  ·have h3:=List.all_eq_true.1 h2.2 j (hr j hj1 hj2)
   simp only [hp,Bool.and_eq_true] at h3
   refine ⟨fun hij a b ha hb=>?_,fun t ht hlook=>?_⟩
   ·have h4:=h3.1
    rw [nbeq_ne hij,cond_false,ha,hb] at h4
    intro e
    rw [e] at h4
    simp at h4
   ·have h4:=h3.2
    rw [ht] at h4
    simpa only [hlook,cond_true] using h4
 ·have h2:=(hat i o ho).2
  rw [show Nat.blt i k=false by rw [Bool.eq_false_iff,Ne,Nat.blt_eq]; omega,cond_false,show Nat.blt i k'=false by rw [Bool.eq_false_iff,Ne,Nat.blt_eq]; omega,cond_false] at h2
  exact List.all_eq_true.1 h2 j (hr j hj1 hj2)
 ·have h2:=List.all_eq_true.1 hE e he
  simp only [Bool.and_eq_true] at h2
  exact ⟨Nat.ble_le h2.1,by simpa [Nat.blt_eq] using h2.2⟩
def AAny (P:Program) (n:Nat) (l:List Oper) (i:Nat) (K:Post) (E:EPost) (T:Tmps) (st:St):Prop :=
 ∀ g0 w0 ds g w a (m:Nat) (listed:Array Bool),Ext g0 w0 g w→Sim g w st→Known g w T a→a.tmps.size=n→a.defers=ds→l.length≤i + m→listed.size=l.length→(∀ j,j < l.length→listed.getD j true=decide (j < i))→Closed l listed →
  wpAny P .any l.toArray (QOf n ds g0 w0 K E) m listed a w
theorem AWP.any {l:List Oper} {id:Nat} (hm:P.follows .mixedOrders=true) (h:AAny P n l 0 K E T st):AWP P n (.region id l.toArray true) K E T st:=by
 intro g0 w0 a0 hs0 hk0 hn0
 refine wp_region_any hm ?_
 obtain ⟨hed,hsd⟩:=hs0.draw
 refine h g0 w0 _ g0 _ a0 _ _ hed hsd (hk0.ext hed) hn0 rfl (by simp) (by simp) (fun j hj=>?_) (fun i o ho hi=>?_)
 ·rw [Array.getD_eq_getD_getElem?,Array.getElem?_replicate,if_pos (by simpa using hj)]
  simp
 ·rw [Array.getD_eq_getD_getElem?,Array.getElem?_replicate] at hi
  split at hi <;> cases hi
def textOk (l:List Oper) (i:Nat):Bool :=
 let S:=predSets l []
 Nat.ble i l.length && (List.range l.length).all fun j =>
  match l[j]? with
  | none=>false
  | some o=>(edgesOf o).all (fun x=>Nat.blt x j) && (bif Nat.blt j i then true else (List.range j).all fun q=>(S.getD j 0).testBit q)
theorem AAny.text {l:List Oper} {i:Nat} (hok:textOk l i=true) (h:AOps P n l.toArray (l.drop i) K E T st):AAny P n l i K E T st:=by
 simp only [textOk,Bool.and_eq_true] at hok
 obtain ⟨h0,hall⟩:=hok
 have hat:∀ j o,l[j]?=some o→((edgesOf o).all (fun x=>Nat.blt x j)=true∧(bif Nat.blt j i then true else (List.range j).all fun q=>((predSets l []).getD j 0).testBit q)=true):=by
  intro j o ho
  have:=List.all_eq_true.1 hall j (List.mem_range.2 (List.getElem?_eq_some_iff.1 ho).1)
  simp only [ho,Bool.and_eq_true] at this
  exact this
 intro g0 w0 ds g w a m listed he hs hk hn hd hm hsz hli hc
 refine wpAny_tail (fun j o ho x hx=>?_) i (fun j o hij ho listed' hc' he' q hq=>?_) m i listed a w (Nat.le_refl _) (Nat.ble_le h0) hm hsz hli hc ?_
 ·have:=List.all_eq_true.1 (hat j o ho).1 x hx
  simpa [Nat.blt_eq] using this
 ·have h2:=(hat j o ho).2
  rw [show Nat.blt j i=false by rw [Bool.eq_false_iff,Ne,Nat.blt_eq]; omega,cond_false] at h2
  exact preds_listed hc' ho he' (List.all_eq_true.1 h2 q (List.mem_range.2 hq))
 ·subst hd
  exact wpList_mono (fun _ _ _ q=>QOf.ext he q) _ _ _ (h g w a hs hk hn)
theorem getD_ft {listed:Array Bool} {j:Nat} (h:j < listed.size):listed.getD j false=listed.getD j true:=by
 rw [Array.getD_eq_getD_getElem?,Array.getD_eq_getD_getElem?,Array.getElem?_eq_getElem h]
 rfl
theorem AAny.one {l:List Oper} {i:Nat} {o:Oper} {d:Tmp} (hok:segOk l i (i + 1) []=true) (ho:l[i]?=some o) (hd:dstA n o.dst=some d) (hw:wantedA l.toArray T o=some true)
  (h:AOps P n l.toArray [o] (fun T' st'=>∃ u,T'=(d,u)::T∧AAny P n l (i + 1) K E ((d,u)::T) st') (fun _ _ _=>False) T st):AAny P n l i K E T st:=by
 obtain ⟨_,hile,hedge,_,htail,_⟩:=segOk_spec hok
 obtain ⟨hd1,hd2⟩:=dstA_some hd
 have hdn:d < n:=dstOk_lt hd2 d hd1
 intro g0 w0 ds g w a m listed he hs hk hn hds hm hsz hli hc
 have hil:i < l.length:=by omega
 obtain ⟨m,rfl⟩:∃ m',m=m' + 1:=⟨m - 1,by omega⟩
 have hready:i ∈ Region.ready .any l.toArray listed:=ready_of_edges (by rw [hli i hil]; simp) ho (fun e he=>by
  have hlt:=hedge i _ ho e he
  rw [getD_ft (by omega),hli e (by omega),decide_eq_true hlt])
 refine ⟨fun h0=>(by rw [h0] at hready; cases hready),fun j hj=>?_⟩
 obtain ⟨h1,o',h2,h3⟩:=ready_edges hj
 have hjl:=(List.getElem?_eq_some_iff.1 h2).1
 have hji:j=i:=by
  rw [hli j hjl] at h1
  have hge:i≤j:=by simpa using h1
  rcases Nat.eq_or_lt_of_le hge with h'|h'
  ·exact h'.symm
  ·have h4:=preds_listed hc h2 h3 (htail j o' h' h2 i (Nat.le_refl _) (by omega))
   rw [getD_ft (by omega),hli i hil] at h4
   simp at h4
 subst hji
 rw [ho] at h2
 cases h2
 unfold wpOp
 simp only [List.getElem?_toArray,ho]
 rw [wanted_of hk hw,if_pos rfl]
 left
 have hlist':∀ q,q < l.length→(listed.setIfInBounds j true).getD q true=decide (q < j + 1):=fun q hq=>by
  by_cases hqj:j=q
  ·subst hqj
   rw [Array.getD_eq_getD_getElem?,Array.getElem?_setIfInBounds_self_of_lt (by omega)]
   simp
  ·rw [getD_set_ne true hqj,hli q hq]
   congr 1
   rw [eq_iff_iff]
   omega
 refine AOps.single hd1 hdn (v:=fun u st'=>AAny P n l (j + 1) K E ((d,u)::T) st') h hw hs hk _ _ (fun rv g' w' u st' he' hs' hR hv=>?_) hn
 refine hv g0 w0 ds g' w' _ m _ (he.trans he') hs' ?_ (by rw [Act.size_put]; exact hn) (by rw [Act.defers_put]; exact hds) (by omega) (by simpa using hsz) hlist' (hc.set ho h3)
 have:=(hk.ext he').put (d:=o.dst) (fun t ht=>by rw [hd1] at ht; cases ht; rw [hn]; exact hdn) hR
 rwa [hd1] at this ⊢
def StepG (P:Program) (n:Nat) (I:List Bool→St→Prop) (S Es:List Nat) (i:Nat) (ops:Array Oper) (T:Tmps) (o:Oper) (Q:AV→Prop):Prop :=
 (wantedA ops T o=some true∧∀ bs,bs.length=Es.length→mayBe S Es i bs=true→EffJ P n (I bs) (I (setBit Es i bs)) T o Q)∨(wantedA ops T o=some false∧Q (.lit undef)∧Es.contains i=false)
def DRunG (P:Program) (n:Nat) (I:List Bool→St→Prop) (S Es:List Nat) (ops:Array Oper):Nat→List Oper→List (AV→Prop)→Tmps→(Tmps→St→Prop)→Prop
 | _,[],[],T,k=>∀ st,I (Es.map fun _=>true) st→k T st
 | i,o::r,Q::Qs,T,k=>(∃ u,Q u)∧dstOk o.dst n=true∧StepG P n I S Es i ops (see ops o T) o Q∧∀ u,Q u→DRunG P n I S Es ops (i + 1) r Qs (T.put o.dst u) k
 | _,_,_,_,_=>False
theorem DRunG.out {I:List Bool→St→Prop} {S Es:List Nat} {ops:Array Oper} {k:Tmps→St→Prop} (b:Nat) (us:Nat→AV) (l:List Oper):∀ (r:List Oper) (Qs:List (AV→Prop)) (i0:Nat),(∀ (i:Nat) (o:Oper),r[i]?=some o→l[i0 + i]?=some o)→(∀ (i:Nat) (Q:AV→Prop),Qs[i]?=some Q→Q (us (i0 + i))) →
  DRunG P n I S Es ops (b + i0) r Qs (ents l us i0++T) k→Qs.length=r.length∧(∀ st,I (Es.map fun _=>true) st→k (ents l us (i0 + r.length)++T) st) ∧
   ∀ i o,r[i]?=some o→∃ Q,dstOk o.dst n=true∧Qs[i]?=some Q∧StepG P n I S Es (b + (i0 + i)) ops (see ops o (ents l us (i0 + i)++T)) o Q
 | [],[],i0,_,_,h=>⟨rfl,h,fun i o ho=>by simp at ho⟩
 | [],_::_,_,_,_,h=>h.elim
 | _::_,[],_,_,_,h=>h.elim
 | o::r,Q::Qs,i0,hl,hq,h=>by
  obtain ⟨_,h2,h4,h5⟩:=h
  have h6:=h5 (us i0) (hq 0 Q rfl)
  have hl0:l[i0]?=some o:=by simpa using hl 0 o rfl
  have he:(ents l us i0++T).put o.dst (us i0)=ents l us (i0 + 1)++T:=by
   rw [ents,hl0]
   simp only [Option.bind_some]
   cases o.dst <;> rfl
  rw [he,Nat.add_assoc] at h6
  obtain ⟨a1,a2,a3⟩:=DRunG.out b us l r Qs (i0 + 1) (fun i o' ho'=>by have:=hl (i + 1) o' (by simpa using ho'); rwa [show i0 + (i + 1)=i0 + 1 + i by omega] at this) (fun i Q' hQ'=>by have:=hq (i + 1) Q' (by simpa using hQ'); rwa [show i0 + (i + 1)=i0 + 1 + i by omega] at this) h6
  refine ⟨by simp [a1],by rw [List.length_cons,show i0 + (r.length + 1)=i0 + 1 + r.length by omega]; exact a2,fun i o' ho'=>?_⟩
  cases i with
  | zero =>
   simp only [List.getElem?_cons_zero,Option.some.injEq] at ho'
   subst ho'
   exact ⟨Q,h2,rfl,h4⟩
  | succ i =>
   obtain ⟨Q',b1,b2,b3⟩:=a3 i o' (by simpa using ho')
   exact ⟨Q',b1,by simpa using b2,by rwa [show i0 + 1 + i=i0 + (i + 1) by omega] at b3⟩
theorem DRunG.fits {I:List Bool→St→Prop} {S Es:List Nat} {ops:Array Oper} {k:Tmps→St→Prop}:∀ (r:List Oper) (Qs:List (AV→Prop)) (i0:Nat) (T:Tmps),DRunG P n I S Es ops i0 r Qs T k→∀ (i:Nat) (Q:AV→Prop),Qs[i]?=some Q→∃ u,Q u
 | [],[],_,_,_,i,Q,h=>by simp at h
 | [],_::_,_,_,h,_,_,_=>h.elim
 | _::_,[],_,_,h,_,_,_=>h.elim
 | o::r,Q0::Qs,i0,T,h,i,Q,hq=>by
  obtain ⟨⟨u,hu⟩,h2,h4,h5⟩:=h
  cases i with
  | zero=>simp at hq; subst hq; exact ⟨u,hu⟩
  | succ i=>exact DRunG.fits r Qs _ _ (h5 u hu) i Q (by simpa using hq)
theorem may_of {l:List Oper} {listed:Array Bool} (hc:Closed l listed) (hsz:listed.size=l.length) {i:Nat} {o:Oper} (ho:l[i]?=some o) (he:∀ x ∈ edgesOf o,listed.getD x false=true) (hun:listed.getD i false=false) (Es:List Nat) :
  mayBe (predSets l []) Es i (Es.map fun e=>listed.getD e false)=true:=by
 unfold mayBe
 rw [List.all_eq_true]
 intro p hp
 have hp2:p.1 ∈ Es∧p.2=listed.getD p.1 false:=by
  obtain ⟨q,hq⟩:=List.getElem?_of_mem hp
  rw [List.getElem?_zip_eq_some] at hq
  obtain ⟨h1,h2⟩:=hq
  rw [List.getElem?_map,h1,Option.map_some,Option.some.injEq] at h2
  exact ⟨List.mem_of_getElem? h1,h2.symm⟩
 obtain ⟨e,b⟩:=p
 simp only at hp2 ⊢
 obtain ⟨h1,h2⟩:=hp2
 cases hb:b with
 | true =>
  rw [hb] at h2
  have hel:e < l.length:=by
   rcases Nat.lt_or_ge e l.length with h|h
   ·exact h
   ·rw [Array.getD_eq_getD_getElem?,Array.getElem?_eq_none (by omega)] at h2; cases h2
  rw [cond_true,Bool.and_eq_true]
  refine ⟨?_,?_⟩
  ·cases hei:Nat.beq e i with
   | false=>rfl
   | true=>rw [Nat.eq_of_beq_eq_true hei,hun] at h2; cases h2
  ·cases ht:((predSets l []).getD e 0).testBit i with
   | false=>rfl
   | true =>
    have:=preds_listed hc (List.getElem?_eq_getElem hel) (fun x hx=>hc e _ (List.getElem?_eq_getElem hel) h2.symm x hx) ht
    rw [hun] at this
    cases this
 | false =>
  rw [hb] at h2
  rw [cond_false]
  cases ht:((predSets l []).getD i 0).testBit e with
  | false=>rfl
  | true=>rw [preds_listed hc ho he ht] at h2; cases h2
theorem setBit_of {listed:Array Bool} {i:Nat} (hi:i < listed.size):∀ (Es:List Nat),(Es.map fun e=>(listed.setIfInBounds i true).getD e false)=setBit Es i (Es.map fun e=>listed.getD e false)
 | []=>rfl
 | e::Es=>by
  have:=setBit_of hi Es
  unfold setBit at this ⊢
  rw [List.map_cons,List.map_cons,List.zip_cons_cons,List.map_cons,this]
  congr 1
  by_cases h:i=e
  ·subst h
   rw [Array.getD_eq_getD_getElem?,Array.getElem?_setIfInBounds_self_of_lt hi,nbeq_self]
   simp
  ·rw [getD_set_ne false h,nbeq_ne (Ne.symm h)]
   simp
theorem setBit_none {i:Nat}:∀ (Es:List Nat) (bs:List Bool),bs.length=Es.length→Es.contains i=false→setBit Es i bs=bs
 | [],[],_,_=>rfl
 | [],_::_,h,_=>by simp at h
 | _::_,[],h,_=>by simp at h
 | e::Es,b::bs,h,hc=>by
  rw [List.contains_cons,Bool.or_eq_false_iff] at hc
  have:=setBit_none Es bs (by simpa using h) hc.2
  unfold setBit at this ⊢
  rw [List.zip_cons_cons,List.map_cons,this,nbeq_ne (fun h=>by subst h; simp at hc),Bool.or_false]
theorem AAny.seg {l:List Oper} {k:Nat} (k':Nat) (S Es:List Nat) (I:List Bool→St→Prop) (Qs:List (AV→Prop)) (hok:segOk l k k' Es=true) (hS:predSets l []=S) (hI:I (Es.map fun _=>false) st)
  (h:DRunG P n I S Es l.toArray k ((l.drop k).take (k' - k)) Qs T fun T' st'=>AAny P n l k' K E T' st'):AAny P n l k K E T st:=by
 subst hS
 obtain ⟨hkk,hkl,hedge,hbody,htail,hEs⟩:=segOk_spec hok
 have hfits:=DRunG.fits _ _ _ _ h
 have hget:∀ i,i < k' - k→(l.drop k)[i]?=l[k + i]?:=fun i _=>List.getElem?_drop
 have hout:=fun (us:Nat→AV) (hus:∀ (i:Nat) (Q:AV→Prop),Qs[i]?=some Q→Q (us (0 + i)))=>DRunG.out (T:=T) k us (l.drop k) ((l.drop k).take (k' - k)) Qs 0 (fun i o ho=>by
  have hi:i < k' - k:=by have:=(List.getElem?_eq_some_iff.1 ho).1; simp at this; omega
  rw [List.getElem?_take_of_lt hi] at ho
  rwa [Nat.zero_add]) hus h
 have hlk0:((l.drop k).take (k' - k)).length=k' - k:=by simp; omega
 obtain ⟨wit,hwit⟩:∃ wit:Nat→AV,∀ (i:Nat) (Q:AV→Prop),Qs[i]?=some Q→Q (wit i):=by
  have:∀ i:Nat,∃ u:AV,∀ Q:AV→Prop,Qs[i]?=some Q→Q u:=fun i=>by
   cases hq:Qs[i]? with
   | none=>exact ⟨.bool true,fun Q h=>by cases h⟩
   | some Q =>
    obtain ⟨u,hu⟩:=hfits i Q hq
    exact ⟨u,fun Q' h=>by cases h; exact hu⟩
  exact ⟨fun i=>Classical.choose (this i),fun i Q hQ=>Classical.choose_spec (this i) Q hQ⟩
 have hQl:Qs.length=k' - k:=by rw [(hout wit (fun i Q hQ=>by rw [Nat.zero_add]; exact hwit i Q hQ)).1,hlk0]
 intro g0 w0 ds g1 w1 a1 m1 listed1 he1 hs1 hk1 hn1 hd1 hm1 hsz1 hli1 hc1
 let Inv:Array Bool→Act→World→Prop:=fun listed a w=>listed.size=l.length∧Closed l listed∧(∀ j,j < k→listed.getD j true=true)∧(∀ j,k'≤j→j < l.length→listed.getD j true=false)∧a.tmps.size=n∧a.defers=ds ∧
  ∃ g st1,Ext g0 w0 g w∧Sim g w st1∧I (Es.map fun e=>listed.getD e false) st1 ∧
   (∀ t v,Tmps.get T t=some v→(∀ i,i < k' - k→(l[k + i]?).bind (·.dst)=some t→listed.getD (k + i) false=false)→∃ rv,a.tmps[t]?=some rv∧R g w v rv) ∧
   (∀ i d Q,i < k' - k→(l[k + i]?).bind (·.dst)=some d→Qs[i]?=some Q→listed.getD (k + i) false=true→∃ u rv,Q u∧a.tmps[d]?=some rv∧R g w u rv)
 let μ:Array Bool→Nat:=fun listed=>(List.range l.length).countP fun j=>!listed.getD j true
 have hμ:∀ (listed:Array Bool) i,i < l.length→listed.size=l.length→listed.getD i true=false→μ (listed.setIfInBounds i true) + 1≤μ listed:=by
  intro listed i hil hsz hi
  have gen:∀ (A:List Nat),i ∈ A→A.countP (fun j=>!(listed.setIfInBounds i true).getD j true) + 1≤A.countP (fun j=>!listed.getD j true):=by
   have le:∀ (A:List Nat),A.countP (fun j=>!(listed.setIfInBounds i true).getD j true)≤A.countP (fun j=>!listed.getD j true):=fun A=>List.countP_mono_left fun j _ hj=>by
    by_cases hij:i=j
    ·subst hij
     rw [Array.getD_eq_getD_getElem?,Array.getElem?_setIfInBounds_self_of_lt (by omega)] at hj
     simp at hj
    ·rw [getD_set_ne true hij] at hj; exact hj
   intro A
   induction A with
   | nil=>intro h; simp at h
   | cons x A ih =>
    intro h
    rw [List.countP_cons,List.countP_cons]
    by_cases hx:x=i
    ·subst hx
     have h1:(!(listed.setIfInBounds x true).getD x true)=false:=by
      rw [Array.getD_eq_getD_getElem?,Array.getElem?_setIfInBounds_self_of_lt (by omega)]; rfl
     have h2:(!listed.getD x true)=true:=by rw [hi]; rfl
     rw [h1,h2,if_neg (by decide),if_pos rfl]
     have:=le A
     omega
    ·have hm':i ∈ A:=by rcases List.mem_cons.1 h with h|h; exact absurd h.symm hx; exact h
     have:=ih hm'
     have h3:(listed.setIfInBounds i true).getD x true=listed.getD x true:=getD_set_ne true (Ne.symm hx)
     rw [h3]
     omega
  exact gen _ (List.mem_range.2 hil)
 have choose:∀ (listed:Array Bool) (a:Act) (g:G) (w:World),(∀ i d Q,i < k' - k→(l[k + i]?).bind (·.dst)=some d→Qs[i]?=some Q→listed.getD (k + i) false=true→∃ u rv,Q u∧a.tmps[d]?=some rv∧R g w u rv) →
   ∃ us:Nat→AV,(∀ (i:Nat) (Q:AV→Prop),Qs[i]?=some Q→Q (us i))∧∀ i d,i < k' - k→(l[k + i]?).bind (·.dst)=some d→listed.getD (k + i) false=true→∃ rv,a.tmps[d]?=some rv∧R g w (us i) rv:=by
  intro listed a g w hB
  have:∀ i:Nat,∃ u:AV,(∀ Q:AV→Prop,Qs[i]?=some Q→Q u)∧∀ d,i < k' - k→(l[k + i]?).bind (·.dst)=some d→listed.getD (k + i) false=true→∃ rv,a.tmps[d]?=some rv∧R g w u rv:=fun i=>by
   by_cases hc:i < k' - k∧listed.getD (k + i) false=true
   ·obtain ⟨hik,hli⟩:=hc
    cases hd':(l[k + i]?).bind (·.dst) with
    | none=>exact ⟨wit i,hwit i,fun d _ hd2 _=>by cases hd2⟩
    | some d =>
     have hq:Qs[i]?=some (Qs[i]'(by omega)):=List.getElem?_eq_getElem _
     obtain ⟨u,rv,h1,h2,h3⟩:=hB i d _ hik hd' hq hli
     refine ⟨u,fun Q h=>by rw [hq] at h; cases h; exact h1,fun d' _ hd2 _=>?_⟩
     cases hd2
     exact ⟨rv,h2,h3⟩
   ·exact ⟨wit i,hwit i,fun d h1 _ h2=>absurd ⟨h1,h2⟩ hc⟩
  exact ⟨fun i=>Classical.choose (this i),fun i=>(Classical.choose_spec (this i)).1,fun i=>(Classical.choose_spec (this i)).2⟩
 have hentsget:∀ (us:Nat→AV) (i t:Nat) v,i≤k' - k→Tmps.get (ents (l.drop k) us i) t=some v→∃ j,j < i∧(l[k + j]?).bind (·.dst)=some t∧v=us j:=fun us i t v hi hg=>by
  obtain ⟨j,hj,hdj,rfl⟩:=ents_get i t _ hg
  exact ⟨j,hj,by rw [← hget j (by omega)]; exact hdj,rfl⟩
 have hentsnone:∀ (us:Nat→AV) (i t:Nat),i≤k' - k→Tmps.get (ents (l.drop k) us i) t=none→∀ j,j < i→(l[k + j]?).bind (·.dst)≠some t:=fun us i t hi hg j hj=>by
  rw [← hget j (by omega)]
  exact ents_none i t hg j hj
 have done:∀ (m:Nat) (listed:Array Bool) (a:Act) (w:World),Inv listed a w→(∀ j,j < k'→listed.getD j true=true)→l.length≤k' + m→wpAny P .any l.toArray (QOf n ds g0 w0 K E) m listed a w:=by
  intro m listed a w ⟨hsz,hcl,hfst,htl,hn,hd,g,st1,he,hs,hI1,hA,hB⟩ hall hm'
  have hlist:∀ j,j < k'→listed.getD j false=true:=fun j hj=>by
   rw [getD_ft (by omega)]; exact hall j hj
  obtain ⟨us,hus,hus2⟩:=choose listed a g w hB
  obtain ⟨_,hfin,_⟩:=hout us (fun i Q hQ=>by rw [Nat.zero_add]; exact hus i Q hQ)
  rw [hlk0,Nat.zero_add] at hfin
  have hIt:(Es.map fun e=>listed.getD e false)=Es.map fun _=>true:=List.map_congr_left fun e he=>hlist e (hEs e he).2
  rw [hIt] at hI1
  refine hfin st1 hI1 g0 w0 ds g w a m listed he hs (fun t u hu=>?_) hn hd hm' hsz (fun j hj=>?_) hcl
  ·rw [get_append] at hu
   cases hg:Tmps.get (ents (l.drop k) us (k' - k)) t with
   | some u' =>
    rw [hg] at hu
    cases hu
    obtain ⟨j,hj,hdj,rfl⟩:=hentsget us _ t _ (Nat.le_refl _) hg
    exact hus2 j t hj hdj (hlist (k + j) (by omega))
   | none =>
    rw [hg] at hu
    exact hA t u hu fun i hi hit=>absurd hit (hentsnone us _ t (Nat.le_refl _) hg i hi)
  ·by_cases hjk:j < k'
   ·rw [hall j hjk,decide_eq_true hjk]
   ·rw [htl j (by omega) hj,decide_eq_false hjk]
 have step:∀ (K':Act→World→Prop) (listed:Array Bool) (a:Act) (w:World) (q:Nat),Inv listed a w→q < k' - k→k + q ∈ Region.ready .any l.toArray listed→(∀ a' w',Inv (listed.setIfInBounds (k + q) true) a' w'→K' a' w') →
   wpOp P l.toArray (QOf n ds g0 w0 K E) (k + q) K' a w:=by
  intro K' listed a w q ⟨hsz,hcl,hfst,htl,hn,hd,g,st1,he,hs,hI1,hA,hB⟩ hqk hri hK
  obtain ⟨hun,o,ho,hed'⟩:=ready_edges hri
  have hil:=(List.getElem?_eq_some_iff.1 ho).1
  have hunf:listed.getD (k + q) false=false:=by
   rw [getD_ft (by omega)]; exact hun
  have hcl':=hcl.set ho hed'
  have hsz':(listed.setIfInBounds (k + q) true).size=l.length:=by simpa using hsz
  have hfst':∀ j,j < k→(listed.setIfInBounds (k + q) true).getD j true=true:=fun j h1=>by
   rw [getD_set_ne true (by omega)]; exact hfst j h1
  have htl':∀ j,k'≤j→j < l.length→(listed.setIfInBounds (k + q) true).getD j true=false:=fun j h1 h2=>by
   rw [getD_set_ne true (by omega)]; exact htl j h1 h2
  obtain ⟨us,hus,hus2⟩:=choose listed a g w hB
  obtain ⟨_,_,hops⟩:=hout us (fun i Q hQ=>by rw [Nat.zero_add]; exact hus i Q hQ)
  obtain ⟨Q,hdn,hQi,hstep⟩:=hops q o (by rw [List.getElem?_take_of_lt hqk,hget q hqk]; exact ho)
  rw [Nat.zero_add] at hstep
  have hlooked:∀ j,j < k' - k→∀ t,(l[k + j]?).bind (·.dst)=some t→(o.looksAt l.toArray).contains t=true→listed.getD (k + j) false=true∧j < q:=by
   intro j hj t hjt hlook
   have hp:l[k + j]?=some l[k + j]:=List.getElem?_eq_getElem (by omega)
   rw [hp] at hjt
   have h2:=((hbody (k + q) o ho (by omega) (by omega)).2 (k + j) _ (by omega) (by omega) hp).2 t hjt hlook
   refine ⟨preds_listed hcl ho hed' h2,?_⟩
   have hcl2:Closed l (Array.ofFn fun x:Fin l.length=>decide (x.val < k + q)):=by
    intro x ox hx hx' y hy
    have hql:=(List.getElem?_eq_some_iff.1 hx).1
    rw [Array.getD_eq_getD_getElem?,Array.getElem?_ofFn] at hx' ⊢
    simp only [hql,dif_pos,Option.getD_some,decide_eq_true_eq] at hx'
    have hxq:=hedge x ox hx y hy
    simp only [show y < l.length by omega,dif_pos,Option.getD_some,decide_eq_true_eq]
    omega
   have h3:=preds_listed hcl2 ho (fun x hx'=>by
    have hxi:=hedge (k + q) o ho x hx'
    rw [Array.getD_eq_getD_getElem?,Array.getElem?_ofFn]
    simp only [show x < l.length by omega,dif_pos,Option.getD_some,decide_eq_true_eq]
    exact hxi) h2
   rw [Array.getD_eq_getD_getElem?,Array.getElem?_ofFn] at h3
   simp only [show k + j < l.length by omega,dif_pos,Option.getD_some,decide_eq_true_eq] at h3
   omega
  have hknown:Known g w (see l.toArray o (ents (l.drop k) us q++T)) a:=fun t v ht=>by
   obtain ⟨hlook,hgt⟩:=get_filter _ _ _ _ ht
   rw [get_append] at hgt
   cases hg:Tmps.get (ents (l.drop k) us q) t with
   | some u' =>
    rw [hg] at hgt
    cases hgt
    obtain ⟨j,hj,hdj,rfl⟩:=hentsget us q t _ (by omega) hg
    exact hus2 j t (by omega) hdj (hlooked j (by omega) t hdj hlook).1
   | none =>
    rw [hg] at hgt
    refine hA t v hgt fun j hj hjt=>?_
    have h1:=hlooked j hj t hjt hlook
    exact absurd hjt (hentsnone us q t (by omega) hg j h1.2)
  have hother:∀ t,o.dst≠some t→∀ rv',(a.put o.dst rv').tmps[t]?=a.tmps[t]?:=fun t ht rv'=>by
   cases hod:o.dst with
   | none=>rfl
   | some d =>
    simp only [Act.put,Array.getElem?_setIfInBounds]
    rw [if_neg (fun h=>ht (by rw [hod,h]))]
  have hself:∀ d,o.dst=some d→∀ rv',(a.put o.dst rv').tmps[d]?=some rv':=fun d hod rv'=>by
   have hdn':=dstOk_lt hdn d hod
   rw [hod]
   simp only [Act.put,Array.getElem?_setIfInBounds]
   simp [hn,hdn']
  have hdi:∀ d,(l[k + q]?).bind (·.dst)=some d→o.dst=some d:=fun d h=>by rw [ho] at h; exact h
  have after:∀ v rv g' w' st2,Ext g w g' w'→Sim g' w' st2→R g' w' v rv→Q v→I (setBit Es (k + q) (Es.map fun e=>listed.getD e false)) st2→Inv (listed.setIfInBounds (k + q) true) (a.put o.dst rv) w':=by
   intro v rv g' w' st2 he' hs' hR hQv hI2
   refine ⟨hsz',hcl',hfst',htl',by rw [Act.size_put]; exact hn,by rw [Act.defers_put]; exact hd,g',st2,he.trans he',hs',by rw [setBit_of (by omega)]; exact hI2,fun t u ht hwr=>?_,fun j d' Q' hj hjd hjQ hjl=>?_⟩
   ·have htd:o.dst≠some t:=fun htd=>by
     have:=hwr q hqk (by rw [ho]; exact htd)
     rw [Array.getD_eq_getD_getElem?,Array.getElem?_setIfInBounds_self_of_lt (by omega)] at this
     simp at this
    obtain ⟨ru,h1,h2⟩:=hA t u ht fun j hj hjt=>by
     have h3:=hwr j hj hjt
     by_cases hij:q=j
     ·subst hij; exact hunf
     ·rwa [getD_set_ne false (by omega)] at h3
    exact ⟨ru,by rw [hother t htd]; exact h1,h2.ext he'⟩
   ·by_cases hij:q=j
    ·subst hij
     rw [hQi] at hjQ
     cases hjQ
     exact ⟨v,rv,hQv,hself d' (hdi d' hjd) rv,hR⟩
    ·rw [getD_set_ne false (by omega)] at hjl
     obtain ⟨u,ru,h1,h2,h3⟩:=hB j d' Q' hj hjd hjQ hjl
     refine ⟨u,ru,h1,?_,h3.ext he'⟩
     rw [hother d' ?_]
     ·exact h2
     ·have hp:l[k + j]?=some l[k + j]:=List.getElem?_eq_getElem (by omega)
      rw [hp] at hjd
      exact fun hdd=>((hbody (k + q) o ho (by omega) (by omega)).2 (k + j) _ (by omega) (by omega) hp).1 (by omega) d' d' hdd hjd rfl
  unfold wpOp
  simp only [List.getElem?_toArray,ho]
  rcases hstep with ⟨hw,hq1⟩|⟨hw,hq,hni⟩
  ·rw [wanted_of hknown hw,if_pos rfl]
   left
   exact hq1 _ (by simp) (may_of hcl hsz ho hed' hunf Es) st1 g w a K' _ hI1 hs hknown hn fun rv g' w' v st2 he' hs' hR hQv hI2=>hK _ _ (after v rv g' w' st2 he' hs' hR hQv hI2)
  ·rw [wanted_of hknown hw,if_neg (by simp)]
   exact hK _ _ (after _ undef g w st1 (.refl _ _) hs (.lit _) hq (by rw [setBit_none Es _ (by simp) hni]; exact hI1))
 have key:∀ (m:Nat) (listed:Array Bool) (a:Act) (w:World),Inv listed a w→μ listed≤m→wpAny P .any l.toArray (QOf n ds g0 w0 K E) m listed a w:=by
  intro m
  induction m with
  | zero =>
   intro listed a w hi hm0
   have hall:∀ j,j < l.length→listed.getD j true=true:=fun j hj=>by
    cases hv:listed.getD j true with
    | true=>rfl
    | false=>have:=hμ listed j hj hi.1 hv; omega
   have hlk:l.length=k':=by
    rcases Nat.eq_or_lt_of_le hkl with h'|h'
    ·exact h'.symm
    ·have h1:=hall k' h'
     have h2:=hi.2.2.2.1 k' (Nat.le_refl _) h'
     rw [h1] at h2
     cases h2
   exact done 0 listed a w hi (fun j hj=>hall j (by omega)) (by omega)
  | succ m ih =>
   intro listed a w hi hm1
   by_cases hall:∀ j,j < k'→listed.getD j true=true
   ·refine done (m + 1) listed a w hi hall ?_
    have:l.length - k'≤μ listed:=by
     exact countP_range_ge k' _ l.length fun j h1 h2=>by rw [hi.2.2.2.1 j h1 h2]; rfl
    omega
   ·have hex:∃ j,j < k'∧listed.getD j true=false∧∀ q,q < j→listed.getD q true=true:=by
     have:∃ j,j < k'∧listed.getD j true=false:=by
      apply Classical.byContradiction
      intro hno
      apply hall
      intro j hj
      cases hv:listed.getD j true with
      | true=>rfl
      | false=>exact absurd ⟨j,hj,hv⟩ hno
     obtain ⟨j,hj⟩:=this
     induction j using Nat.strongRecOn with
     | _ j ihj =>
      by_cases hq:∀ q,q < j→listed.getD q true=true
      ·exact ⟨j,hj.1,hj.2,hq⟩
      ·simp only [Classical.not_forall] at hq
       obtain ⟨q,hqj,hq⟩:=hq
       exact ihj q hqj ⟨by omega,by simpa using hq⟩
    obtain ⟨j0,hj0,hv0,hmin⟩:=hex
    have hsz:=hi.1
    have hjl:j0 < l.length:=by omega
    have hkj:k≤j0:=by
     rcases Nat.lt_or_ge j0 k with h'|h'
     ·rw [hi.2.2.1 j0 h'] at hv0; cases hv0
     ·exact h'
    have hready:j0 ∈ Region.ready .any l.toArray listed:=ready_of_edges hv0 (List.getElem?_eq_getElem hjl) (fun x hx=>by
     have hxj:=hedge j0 _ (List.getElem?_eq_getElem hjl) x hx
     rw [getD_ft (by omega)]
     exact hmin x hxj)
    refine ⟨fun h0=>(by rw [h0] at hready; cases hready),fun i hri=>?_⟩
    obtain ⟨hun,o,ho,hed'⟩:=ready_edges hri
    have hil:=(List.getElem?_eq_some_iff.1 ho).1
    have hik:i < k':=by
     rcases Nat.lt_or_ge i k' with h'|h'
     ·exact h'
     ·have h1:=preds_listed hi.2.1 ho hed' (htail i o h' ho j0 hkj hj0)
      rw [getD_ft (by omega),hv0] at h1
      cases h1
    have hki:k≤i:=by
     rcases Nat.lt_or_ge i k with h'|h'
     ·rw [hi.2.2.1 i h'] at hun; cases hun
     ·exact h'
    obtain ⟨q,rfl⟩:∃ q,i=k + q:=⟨i - k,by omega⟩
    exact step _ listed a w q hi (by omega) hri fun a' w' hi'=>ih _ a' w' hi' (by have:=hμ listed (k + q) hil hsz hun; omega)
 refine key m1 listed1 a1 w1 ⟨hsz1,hc1,fun j hj=>by rw [hli1 j (by omega),decide_eq_true hj],fun j h1 h2=>by rw [hli1 j h2,decide_eq_false (by omega)],hn1,hd1,g1,st,he1,hs1,?_,fun t v ht _=>hk1 t v ht,fun i d Q hi hdi _ hl=>?_⟩ ?_
 ·have:(Es.map fun e=>listed1.getD e false)=Es.map fun _=>false:=List.map_congr_left fun e he=>by
   obtain ⟨h1,h2⟩:=hEs e he
   rw [getD_ft (by omega),hli1 e (by omega),decide_eq_false (by omega)]
  rw [this]
  exact hI
 ·rw [getD_ft (by omega),hli1 (k + i) (by omega),decide_eq_false (by omega)] at hl
  cases hl
 ·have h2:μ listed1=(List.range l.length).countP fun j=>!decide (j < k):=List.countP_congr fun j hj=>by rw [hli1 j (List.mem_range.1 hj)]
  rw [h2]
  have h3:∀ N,(List.range N).countP (fun j=>!decide (j < k))≤N - k:=by
   intro N
   induction N with
   | zero=>simp
   | succ N ih =>
    rw [List.range_succ,List.countP_append,List.countP_singleton]
    by_cases hN:N < k
    ·simp only [hN,decide_true,Bool.not_true,Bool.false_eq_true,if_false]; omega
    ·simp only [hN,decide_false,Bool.not_false,if_true]; omega
  have:=h3 l.length
  omega
def IG (sts:List Bool→Option St) (F:St→St→Prop) (base:St) (bs:List Bool) (s:St):Prop:=∃ s0,sts bs=some s0∧F s0 s∧StLe s base
variable {sts:List Bool→Option St} {F:St→St→Prop} {base:St} {S Es:List Nat} {ops:Array Oper} {Qs:List (AV→Prop)}
theorem dqY {i:Nat} {o:Oper} {r:List Oper} {d:Tmp} {v:AV} {k:Tmps→St→Prop} (hi:Es.contains i=false:=by exact rfl) (hd:dstA n o.dst=some d:=by exact rfl) (hw:wantedA ops (see ops o T) o=some true:=by exact rfl)
  (h:∀ st',StLe st' base→AOps P n ops [o] (fun T' st''=>∃ u,T'=(d,u)::see ops o T∧(u=v∧st''=st')) (fun _ _ _=>False) (see ops o T) st')
  (z:DRunG P n (IG sts F base) S Es ops (i + 1) r Qs ((d,v)::T) k):DRunG P n (IG sts F base) S Es ops i (o::r) ((fun u=>u=v)::Qs) T k:=by
 obtain ⟨hd',hdn⟩:=dstA_some hd
 refine ⟨⟨v,rfl⟩,hdn,.inl ⟨hw,fun bs hl _=>?_⟩,fun u hu=>?_⟩
 ·rw [setBit_none Es bs hl hi]
  intro s g w a K' Q' ⟨s0,h1,h2,hle⟩ hs hk hn hK
  refine AOps.single hd' (dstOk_lt hdn d hd') (h s hle) hw hs hk K' Q' (fun rv g' w' u st' he hs' hR ⟨hu,hst⟩=>?_) hn
  subst hu hst
  exact hK rv g' w' u st' he hs' hR rfl ⟨s0,h1,h2,hle⟩
 ·subst hu
  rw [hd']
  exact z
theorem dsY {i:Nat} {o:Oper} {r:List Oper} {d:Tmp} {v:AV} {k:Tmps→St→Prop} (hi:Es.contains i=false:=by exact rfl) (hs:step1 ops n base (see ops o T) o=some (d,v):=by exact rfl)
  (z:DRunG P n (IG sts F base) S Es ops (i + 1) r Qs ((d,v)::T) k):DRunG P n (IG sts F base) S Es ops i (o::r) ((fun u=>u=v)::Qs) T k:=by
 have hg:goes ops n (see ops o T) o=some d:=by
  unfold step1 at hs
  split at hs
  ·rename_i h1 h2
   cases hs
   exact h1
  ·cases hs
 obtain ⟨hw,hd,hok⟩:=goes_some hg
 have hda:dstA n o.dst=some d:=by
  unfold goes at hg
  rw [hw] at hg
  exact hg
 exact dqY hi hda hw (fun st' hle=>sm ((step1_glob (n:=n) (ops:=ops) hle.glob (see ops o T) o).symm.trans hs) (nl ⟨v,rfl,rfl,rfl⟩)) z
def BAll:List (List Bool)→(List Bool→Prop)→Prop
 | [],_=>True
 | b::r,p=>p b∧BAll r p
theorem BAll.get {p:List Bool→Prop}:∀ {L:List (List Bool)},BAll L p→∀ bs ∈ L,p bs
 | b::r,h,bs,hb=>by
  rcases List.mem_cons.1 hb with hb|hb
  ·subst hb; exact h.1
  ·exact BAll.get h.2 bs hb
theorem AAny.segQ {l:List Oper} {k:Nat} (k':Nat) {Qs:List (AV→Prop)} (hok:segOk l k k' []=true)
  (h:DRunG P n (IG (fun _=>some st) (fun a b=>b=a) st) (predSets l []) [] l.toArray k ((l.drop k).take (k' - k)) Qs T fun T' st'=>AAny P n l k' K E T' st'):AAny P n l k K E T st :=
 AAny.seg k' _ [] _ Qs hok rfl ⟨st,rfl,rfl,.refl _⟩ h
theorem dnQ {i:Nat} {k:Tmps→St→Prop} (h:k T st):DRunG P n (IG (fun _=>some st) (fun a b=>b=a) st) S [] ops i [] [] T k:=by
 intro s ⟨s0,h1,h2,_⟩
 cases h1
 cases h2
 exact h
end
end Go.AM
namespace Go.AM
open Go.RowKit (Below)
section
variable {P:Program} {n:Nat} {K:Post} {E:EPost} {T:Tmps} {st:St} {ops:Array Oper} {rest:List Oper}
variable {ty:TypeId} {pos:String} {es:Array Edge} {gd:Option (Nat × Bool)} {d:Tmp} {x y:Operand} {dd:Option Tmp}
theorem append_nil_msl {g:G} {w:World} (hs:Sim g w st) {t e:TypeId} {sz by_:Nat} {ez:Value} [hu:Und P t (.slice e)] [hie:Inf P e sz by_ ez] (hz:zok sz ez=true) {ty:TypeId} {rows2:List (List AV)} {uy:Value}
  (h2:Src g w sz rows2 uy) (h0:rows2≠[]) (hb:rows2.length * by_≤140737488355328) (hm:rows2.length≤maxLen) :
  ∃ v w' g' o',(Builtin.append_ #[t,t] ty #[.slice none 0 0,uy]).run P w=.ok v w'∧Ext g w g' w'∧Sim g' w' (st.set o' (.cells e sz rows2))∧R g' w' (.msl o' sz 0 rows2.length) v∧st.obj o'=none:=by
 obtain ⟨z1,z2,z3,z4⟩:=zok_spec hz
 obtain ⟨inf,i1,i2,i3,i4⟩:=hie.out
 obtain ⟨base2,cap2,f2,rfl,hnil2,hR2,hl2,h12,hcell2,hone2⟩:=h2
 have hpos:0 < rows2.length:=List.length_pos_iff.2 h0
 have hm64:rows2.length≤9223372036854775807:=by simp only [maxLen] at hm; omega
 obtain ⟨ad,rfl⟩:∃ ad,base2=some ad:=by
  cases base2 with
  | none=>exact absurd (hnil2 rfl).1 h0
  | some ad=>exact ⟨ad,rfl⟩
 subst i2
 have hr:=run_append_nil (P:=P) w t ty e inf ez hu.out i1 i4 ad rows2.length cap2 (flatV f2 rows2.length inf.size) (flatV_length _ _ _) (hcell2 ad rfl) hpos (by omega)
  (by rw [i3]; omega)
 have hge:=grownCap_ge w rows2.length 0 e
 have hgm:=grownCap_le_maxLen w rows2.length 0 e hm
 obtain ⟨hed,hsd⟩:=hs.draw
 generalize hcp:grownCap w rows2.length 0 e=cp at hr hge hgm
 generalize harr:(flatV f2 rows2.length inf.size).toArray++Builtin.zeroCells ez.cells (cp - rows2.length)=arr' at hr
 have hsize':arr'.size=cp * inf.size:=by
  rw [← harr]
  simp only [Array.size_append,List.size_toArray,flatV_length,size_zeroCells,z1,← Nat.add_mul]
  congr 1
  omega
 obtain ⟨g',he,hs',hob',hnone⟩:=hsd.newObj (.cells arr' e) (.cells e inf.size rows2) (cp * inf.size) (fun g' he=>by
  refine ⟨arr',heap_alloc_new _ _,hsize',Nat.mul_le_mul_right _ hge,hl2,h12,fun i j row c hr hcj=>?_⟩
  have hi:i < rows2.length:=(List.getElem?_eq_some_iff.1 hr).1
  have hj:j < inf.size:=by rw [← hl2 row (List.mem_of_getElem? hr)]; exact (List.getElem?_eq_some_iff.1 hcj).1
  have hlt:=mul_add_lt hi hj
  refine ⟨f2 i j,?_,((hR2 i j row c hr hcj).ext hed).ext he⟩
  rw [← harr,← Array.getElem?_toList]
  simp only [Array.toList_append]
  rw [List.getElem?_append_left (by rw [flatV_length]; exact hlt),flatV_at f2 hi hj])
 refine ⟨_,_,g',g.next,hr,hed.trans he,hs',?_,hnone⟩
 have:=R.msl (g:=g') (w:=w.drew.alloc (.cells arr' e)) g.next inf.size 0 rows2.length cp w.drew.heap.size (cp * inf.size) hob' hge hgm (by simp)
 simpa using this
theorem Sim.frzIn {g:G} {w:World} (hs:Sim g w st) {o o' s i j sz lo len:Nat} {oty oty':TypeId} {rows rows':List (List AV)} {row:List AV} (hne:o≠o') (ho:st.obj o=some (.cells oty s rows)) (hr:rows[i]?=some row) (hj:row[j]?=some (.msl o' sz lo len))
  (ho':st.obj o'=some (.cells oty' sz rows')) (hl:lo + len≤rows'.length) :
  ∃ g',Ext g w g' w∧Sim g' w ((st.drop o').set o (.cells oty s (rows.set i (row.set j (.view sz ((rows'.drop lo).take len) .shared))))):=by
 obtain ⟨b,m,hb,_,_,_⟩:=hs.objs o _ ho
 obtain ⟨_,⟨arr,ha,hasz,hml,hlr,h1,hc⟩,_⟩:=hs.objOf ho hb
 obtain ⟨v0,hv0,hR0⟩:=hc i j row _ hr hj
 obtain ⟨g',he,hs',hRv⟩:=hR0.frozen hs ho' hl
 have hoo:(st.drop o').obj o=some (.cells oty s rows):=by rw [St.obj_drop_ne hne]; exact ho
 have hb':=he.obj o _ hb
 have hil:i < rows.length:=(List.getElem?_eq_some_iff.1 hr).1
 have hjl:j < row.length:=(List.getElem?_eq_some_iff.1 hj).1
 obtain ⟨_,⟨arr2,ha2,hasz2,hml2,hlr2,h12,hc2⟩,_⟩:=hs'.objOf hoo hb'
 rw [ha] at ha2
 cases ha2
 obtain ⟨he2,hs2⟩:=hs'.write (c':=.cells oty s (rows.set i (row.set j (.view sz ((rows'.drop lo).take len) .shared)))) hoo hb' w rfl rfl rfl rfl (fun _ _=>rfl) (fun _=>by
  refine ⟨arr,ha,hasz,by simpa using hml,fun r hm=>?_,fun r hm=>?_,fun i' j' r c hr' hc'=>?_⟩
  ·rcases List.mem_or_eq_of_mem_set hm with h|h
   ·exact hlr r h
   ·rw [h,List.length_set]; exact hlr row (List.mem_of_getElem? hr)
  ·rcases List.mem_or_eq_of_mem_set hm with h|h
   ·exact h1 r h
   ·subst h
    intro c hcm
    rcases List.mem_or_eq_of_mem_set hcm with h2|h2
    ·exact h1 row (List.mem_of_getElem? hr) c h2
    ·subst h2; rfl
  ·by_cases hi:i'=i
   ·subst hi
    rw [List.getElem?_set_self hil] at hr'
    cases hr'
    by_cases hjj:j'=j
    ·subst hjj
     rw [List.getElem?_set_self hjl] at hc'
     cases hc'
     exact ⟨v0,hv0,hRv⟩
    ·rw [List.getElem?_set_ne (Ne.symm hjj)] at hc'
     exact hc2 i' j' row c hr hc'
   ·rw [List.getElem?_set_ne (Ne.symm hi)] at hr'
    exact hc2 i' j' r c hr' hc')
 exact ⟨g',he,hs2⟩
theorem AWP.frzIn {c:Code} {o o' s i j sz lo len:Nat} {oty oty':TypeId} {rows rows':List (List AV)} {row:List AV} (hne:o≠o') (ho:st.obj o=some (.cells oty s rows)) (hr:rows[i]?=some row) (hj:row[j]?=some (.msl o' sz lo len))
  (ho':st.obj o'=some (.cells oty' sz rows')) (hl:lo + len≤rows'.length)
  (h:AWP P n c K E T ((st.drop o').set o (.cells oty s (rows.set i (row.set j (.view sz ((rows'.drop lo).take len) .shared)))))):AWP P n c K E T st :=
 AWP.ghost fun g w a hs hk=>by
  obtain ⟨g',he,hs'⟩:=hs.frzIn hne ho hr hj ho' hl
  exact ⟨g',T,_,he,hs',hk.ext he,h⟩
def St.bareOf (s:St):St:={ obj:=fun _=>none,tok:=fun _=>false,glob:=s.glob }
theorem StLe.bare {s s':St} (h:s'.glob=s.glob):StLe s' s.bareOf:=⟨fun _ _ h=>(by cases h),fun _ h=>(by cases h),h.symm⟩
end
end Go.AM
namespace Go.AM
open Go.RowKit (Below)
section
variable {P:Program} {n:Nat} {K:Post} {E:EPost} {T:Tmps} {st:St}
def setV (Es:List Nat) (i:Nat) (v:AV) (vs:List (Option AV)):List (Option AV):=(Es.zip vs).map fun p=>bif Nat.beq p.1 i then some v else p.2
def LinkV (Es:List Nat) (i:Nat) (vals:Nat→AV) (vs:List (Option AV)):Prop:=∀ p ∈ Es.zip vs,p.1 < i→∀ u,p.2=some u→u=vals p.1
def StepV (P:Program) (n:Nat) (I:List (Option AV)→St→Prop) (S Es:List Nat) (i:Nat) (ops:Array Oper) (T:Tmps) (vals:Nat→AV) (o:Oper) (Q:AV→Prop):Prop :=
 (wantedA ops T o=some true∧∀ vs:List (Option AV),vs.length=Es.length→mayBe S Es i (vs.map Option.isSome)=true→LinkV Es i vals vs →
  ∀ st g w a (K':Act→World→Prop) (Q':Exit→Act→World→Prop),I vs st→Sim g w st→Known g w T a→a.tmps.size=n →
   (∀ rv g' w' v st1,Ext g w g' w'→Sim g' w' st1→R g' w' v rv→Q v→I (setV Es i v vs) st1→K' (a.put o.dst rv) w')→o.wp P a w K' Q')∨(wantedA ops T o=some false∧Q (.lit undef)∧Es.contains i=false)
def DRunV (P:Program) (n:Nat) (I:List (Option AV)→St→Prop) (S Es:List Nat) (ops:Array Oper):Nat→List Oper→List (AV→Prop)→Tmps→(Nat→AV)→(Tmps→St→Prop)→Prop
 | _,[],[],T,vals,k=>∀ st,I (Es.map fun e=>some (vals e)) st→k T st
 | i,o::r,Q::Qs,T,vals,k=>(∃ u,Q u)∧dstOk o.dst n=true∧StepV P n I S Es i ops (see ops o T) vals o Q∧∀ u,Q u→DRunV P n I S Es ops (i + 1) r Qs (T.put o.dst u) (fun j=>bif Nat.beq j i then u else vals j) k
 | _,_,_,_,_,_=>False
theorem DRunV.out {I:List (Option AV)→St→Prop} {S Es:List Nat} {ops:Array Oper} {k:Tmps→St→Prop} (b:Nat) (us:Nat→AV) (l:List Oper):∀ (r:List Oper) (Qs:List (AV→Prop)) (i0:Nat) (vals:Nat→AV),(∀ (i:Nat) (o:Oper),r[i]?=some o→l[i0 + i]?=some o)→(∀ (i:Nat) (Q:AV→Prop),Qs[i]?=some Q→Q (us (b + (i0 + i)))) →
  (∀ j,b≤j→j < b + i0→vals j=us j)→(∀ e ∈ Es,b≤e∧e < b + i0 + r.length) →
  DRunV P n I S Es ops (b + i0) r Qs (ents l (fun i=>us (b + i)) i0++T) vals k→Qs.length=r.length∧(∀ st,I (Es.map fun e=>some (us e)) st→k (ents l (fun i=>us (b + i)) (i0 + r.length)++T) st) ∧
   ∀ i o,r[i]?=some o→∃ Q,dstOk o.dst n=true∧Qs[i]?=some Q∧StepV P n I S Es (b + (i0 + i)) ops (see ops o (ents l (fun i=>us (b + i)) (i0 + i)++T)) us o Q
 | [],[],i0,vals,_,_,hv,hE,h=>⟨rfl,fun st hI=>by
   have e:(Es.map fun e=>some (vals e))=Es.map fun e=>some (us e):=List.map_congr_left fun e he=>by
    obtain ⟨h1,h2⟩:=hE e he
    rw [hv e h1 (by simpa using h2)]
   have h':∀ st,I (Es.map fun e=>some (vals e)) st→k (ents l (fun i=>us (b + i)) i0++T) st:=h
   rw [e] at h'
   exact h' st hI,fun i o ho=>by simp at ho⟩
 | [],_::_,_,_,_,_,_,_,h=>h.elim
 | _::_,[],_,_,_,_,_,_,h=>h.elim
 | o::r,Q::Qs,i0,vals,hl,hq,hv,hE,h=>by
  obtain ⟨_,h2,h4,h5⟩:=h
  have h6:=h5 (us (b + i0)) (hq 0 Q rfl)
  have hl0:l[i0]?=some o:=by simpa using hl 0 o rfl
  have he:(ents l (fun i=>us (b + i)) i0++T).put o.dst (us (b + i0))=ents l (fun i=>us (b + i)) (i0 + 1)++T:=by
   rw [ents,hl0]
   simp only [Option.bind_some]
   cases o.dst <;> rfl
  rw [he,Nat.add_assoc] at h6
  obtain ⟨a1,a2,a3⟩:=DRunV.out b us l r Qs (i0 + 1) _ (fun i o' ho'=>by have:=hl (i + 1) o' (by simpa using ho'); rwa [show i0 + (i + 1)=i0 + 1 + i by omega] at this) (fun i Q' hQ'=>by have:=hq (i + 1) Q' (by simpa using hQ'); rwa [show i0 + (i + 1)=i0 + 1 + i by omega] at this)
   (fun j h1 h2=>by
    by_cases hj:j=b + i0
    ·subst hj; rw [nbeq_self]; rfl
    ·rw [nbeq_ne hj]; exact hv j h1 (by omega)) (fun e he=>by have:=hE e he; simp only [List.length_cons] at this; omega) h6
  refine ⟨by simp [a1],by rw [List.length_cons,show i0 + (r.length + 1)=i0 + 1 + r.length by omega]; exact a2,fun i o' ho'=>?_⟩
  cases i with
  | zero =>
   simp only [List.getElem?_cons_zero,Option.some.injEq] at ho'
   subst ho'
   refine ⟨Q,h2,rfl,?_⟩
   rcases h4 with ⟨hw,h4⟩|h4
   ·exact .inl ⟨hw,fun vs hl hm hlk=>h4 vs hl hm fun p hp hlt u hu=>by
     have hpe:p.1 ∈ Es:=(List.of_mem_zip hp).1
     rw [hv p.1 (hE p.1 hpe).1 hlt]
     exact hlk p hp hlt u hu⟩
   ·exact .inr h4
  | succ i =>
   obtain ⟨Q',b1,b2,b3⟩:=a3 i o' (by simpa using ho')
   exact ⟨Q',b1,by simpa using b2,by rwa [show i0 + 1 + i=i0 + (i + 1) by omega] at b3⟩
theorem DRunV.fits {I:List (Option AV)→St→Prop} {S Es:List Nat} {ops:Array Oper} {k:Tmps→St→Prop}:∀ (r:List Oper) (Qs:List (AV→Prop)) (i0:Nat) (T:Tmps) (vals:Nat→AV),DRunV P n I S Es ops i0 r Qs T vals k→∀ (i:Nat) (Q:AV→Prop),Qs[i]?=some Q→∃ u,Q u
 | [],[],_,_,_,_,i,Q,h=>by simp at h
 | [],_::_,_,_,_,h,_,_,_=>h.elim
 | _::_,[],_,_,_,h,_,_,_=>h.elim
 | o::r,Q0::Qs,i0,T,vals,h,i,Q,hq=>by
  obtain ⟨⟨u,hu⟩,h2,h4,h5⟩:=h
  cases i with
  | zero=>simp at hq; subst hq; exact ⟨u,hu⟩
  | succ i=>exact DRunV.fits r Qs _ _ _ (h5 u hu) i Q (by simpa using hq)
def valsOf (Es:List Nat) (listed:Array Bool) (us:Nat→AV):List (Option AV):=Es.map fun e=>bif listed.getD e false then some (us e) else none
theorem valsOf_some (Es:List Nat) (listed:Array Bool) (us:Nat→AV):(valsOf Es listed us).map Option.isSome=Es.map fun e=>listed.getD e false:=by
 unfold valsOf
 rw [List.map_map]
 refine List.map_congr_left fun e _=>?_
 show Option.isSome (bif listed.getD e false then some (us e) else none)=_
 cases listed.getD e false <;> rfl
theorem setV_of {listed:Array Bool} {i:Nat} (hi:i < listed.size) (us:Nat→AV) (v:AV):∀ (Es:List Nat),valsOf Es (listed.setIfInBounds i true) (fun j=>bif Nat.beq j i then v else us j)=setV Es i v (valsOf Es listed us)
 | []=>rfl
 | e::Es=>by
  have:=setV_of hi us v Es
  unfold setV valsOf at this ⊢
  rw [List.map_cons,List.map_cons,List.zip_cons_cons,List.map_cons,this]
  congr 1
  by_cases h:i=e
  ·subst h
   rw [Array.getD_eq_getD_getElem?,Array.getElem?_setIfInBounds_self_of_lt hi]
   simp only [nbeq_self,Option.getD_some,cond_true]
  ·rw [getD_set_ne false h]
   simp only [nbeq_ne (Ne.symm h),cond_false]
theorem setV_none {i:Nat} {v:AV}:∀ (Es:List Nat) (vs:List (Option AV)),vs.length=Es.length→Es.contains i=false→setV Es i v vs=vs
 | [],[],_,_=>rfl
 | [],_::_,h,_=>by simp at h
 | _::_,[],h,_=>by simp at h
 | e::Es,b::bs,h,hc=>by
  rw [List.contains_cons,Bool.or_eq_false_iff] at hc
  have:=setV_none (v:=v) Es bs (by simpa using h) hc.2
  unfold setV at this ⊢
  rw [List.zip_cons_cons,List.map_cons,this,nbeq_ne (fun h=>by subst h; simp at hc),cond_false]
variable {J:List (Option AV)→St→Prop} {base:St} {S Es:List Nat} {ops:Array Oper} {Qs:List (AV→Prop)} {vals:Nat→AV}
variable {rest:List Oper} {ty:TypeId} {pos:String} {es:Array Edge} {gd:Option (Nat × Bool)} {d:Tmp} {x y:Operand} {dd:Option Tmp}
theorem bs0 {t e:TypeId} {sz eby:Nat} {ez:Value} [hu:Und P t (.slice e)] [hie:Inf P e sz eby ez] (hg:goes ops n T ⟨dd,.buildSlice t 0 #[],ty,pos,es,gd⟩=some d:=by exact rfl)
  (z:AOps P n ops rest K E ((d,.view sz [] .full)::T) st):AOps P n ops (⟨dd,.buildSlice t 0 #[],ty,pos,es,gd⟩::rest) K E T st:=by
 refine AOps.stepAny hg fun g w a hs hk=>?_
 have hrun:(Instr.buildSlice t 0 #[]).run P w=.ok (.slice (some ⟨w.heap.size,0,none⟩) 0 0) (w.alloc (.cells #[] e)) :=
  run_buildSlice (P:=P) (e:=e) (len:=0) (sz:=sz) (eby:=eby) (ez:=ez) (by simp) #[] #[] w (by rw [Nat.zero_mul,show Array.map (fun x=>ez.cells[x % ez.cells.size]!) (Array.range 0)=#[] by simp]; rfl)
 obtain ⟨g',he,hs',_,_,_,_,_⟩:=hs.newImm (.cells #[] e) (fun _=>False)
 exact ⟨.slice (some ⟨w.heap.size,0,none⟩) 0 0,g',w.alloc (.cells #[] e),.view sz [] .full,st,by simp [execOp,hrun],he,hs',.vemp _ _ _ (fun h=>by cases h) (show (0:Nat)=0 from rfl),z⟩
end
end Go.AM
namespace Go.AM
section
variable {P:Program} {n:Nat} {K:Post} {E:EPost} {T:Tmps} {st:St} {ops:Array Oper} {rest:List Oper} {d:Tmp} {dd:Option Tmp} {x y:Operand} {ty:TypeId} {pos:String} {es:Array Edge} {gd:Option (Nat × Bool)}
theorem ixgA {t e:TypeId} {td:TypeDesc} {len sz by_:Nat} {zz:Value} {cs:List AV} {k:IntKind} {i:Int} {m:Nat} {row:List AV} [hu:Und P t (.array len e)] [hq:Und P e td] [hi:Inf P e sz by_ zz]
  (hg:goes ops n T ⟨dd,.index t x y,ty,pos,es,gd⟩=some d) (ha:aggD td=true) (hx:ev st T x=some (.agg cs)) (hy:ev st T y=some (.int k i)) (hm:i=m) (hlt:m < len) (hle:m * sz + sz≤cs.length) (hrow:(cs.drop (m * sz)).take sz=row)
  (h:AOps P n ops rest K E ((d,.agg row)::T) st):AOps P n ops (⟨dd,.index t x y,ty,pos,es,gd⟩::rest) K E T st:=by
 obtain ⟨hw,hd,hok⟩:=goes_some hg
 simp only at hd
 subst hd
 refine AOps.pure hw hok _ (fun g w a hs hk=>?_) h
 have h1:=ev_R hs hk hx
 have h2:=ev_R hs hk hy
 generalize hux:a.eval x=ux at h1
 generalize huy:a.eval y=uy at h2
 subst hm
 cases h2
 subst hrow
 cases h1 with
 | agg _ us hl h1' hh =>
  have hle':m * sz + sz≤us.size:=hl ▸ hle
  refine ⟨.agg (us.extract (m * sz) (m * sz + sz)),?_,?_⟩
  ·simp [execOp,hux,huy,Instr.index,asIntOf,run_und (P:=P) (t:=t) w,hlt,run_size (P:=P) (t:=e) w,part,run_isAgg (P:=P) (t:=e) w,ha]
  ·refine .agg _ _ (by simp; omega) (fun c hc=>h1' c (List.mem_of_mem_drop (List.mem_of_mem_take hc))) ?_
   intro i c rv hc hv
   have hi:i < sz:=by
    have:=(List.getElem?_eq_some_iff.1 hc).1
    simp at this
    omega
   refine hh (m * sz + i) c rv ?_ ?_
   ·rw [List.getElem?_take_of_lt hi,List.getElem?_drop] at hc
    exact hc
   ·rw [Array.getElem?_extract] at hv
    split at hv
    ·exact hv
    ·cases hv
end
section
variable {P:Program} {n:Nat} {T:Tmps} {base:St} {ops:Array Oper} {sts:List St} {Es:List Nat}
end
end Go.AM
namespace Go.AM
open Go.RowKit (Below shut_bool)
open Go.ChangeShapes Go.WideShapes Go.ChangeAt

def HasTyW (P:Program):Nat→TypeId→List AV→Prop
 | 0,_,_=>False
 | n + 1,t,cs=>match P.underlying t with
  | some .bool=>∃ b,cs=[.bool b]
  | some (.int k)=>∃ x,cs=[.int k x]∧(Lit.int k x).wf=true
  | some .string=>∃ l:List UInt8,cs=[.str l]∧l.length≤reachBytes
  | some (.slice e)=>∃ rows:List (List AV),cs=[.view (P.cellsOf e) rows .shared]∧rows.length * P.bytesOf e≤reachBytes∧∀ row ∈ rows,HasTyW P n e row
  | some (.struct fs)=>cs.length=P.cellsOf t∧∀ f ∈ fs.toList,HasTyW P n f.type ((cs.drop f.offset).take (P.cellsOf f.type))
  | some (.array m e)=>cs.length=P.cellsOf t∧∀ i,i < m→HasTyW P n e ((cs.drop (i * P.cellsOf e)).take (P.cellsOf e))
  | _=>False
section
variable {H:Type} {enc:TypeId × Value→H} {P:Program}
theorem weightsAll_get {e:TypeId} {p:Nat→Bool}:∀ {l:List (DataW H)},(DataW.weightsAll P e l).all p=true→∀ d ∈ l,(d.weights P e).all p=true
 | d0::r,h,d,hd=>by
  unfold DataW.weightsAll at h
  rw [List.all_append,Bool.and_eq_true] at h
  rcases List.mem_cons.1 hd with rfl|hd
  ·exact h.1
  ·exact weightsAll_get h.2 d hd
theorem trodAll_len {W:World} {sp:Nat→Bool} {held:Bool}:∀ {ts:List TypeId} {vs:List Value} {ds:List (DataW H)} {p:List MemPlace},DataW.TrodAll enc P W 0 sp held ts vs ds p→ts.length=vs.length∧ds.length=ts.length
 | [],[],[],_,_=>⟨rfl,rfl⟩
 | t::ts,v::vs,d::ds,p,h=>by
  obtain ⟨p1,q1,k1,k2,_⟩:=h
  obtain ⟨h1,h2⟩:=trodAll_len k2
  exact ⟨by simp [h1],by simp [h2]⟩
 | [],_::_,_,_,h=>h.elim
 | [],[],_::_,_,h=>h.elim
 | _::_,[],_,_,h=>h.elim
 | _::_,_::_,[],_,h=>h.elim
theorem choose_args {A:Nat→AV→Prop}:∀ (n:Nat),(∀ i,i < n→∃ a,A i a)→∃ avs:List AV,avs.length=n∧∀ i a,avs[i]?=some a→A i a
 | 0,_=>⟨[],rfl,fun i a h=>by simp at h⟩
 | n + 1,h=>by
  obtain ⟨avs,h1,h2⟩:=choose_args n fun i hi=>h i (by omega)
  obtain ⟨a,ha⟩:=h n (by omega)
  refine ⟨avs++[a],by simp [h1],fun i b hb=>?_⟩
  by_cases hin:i < n
  ·rw [List.getElem?_append_left (by omega)] at hb; exact h2 i b hb
  ·rw [List.getElem?_append_right (by omega)] at hb
   have hi:=(List.getElem?_eq_some_iff.1 hb).1
   simp only [List.length_singleton] at hi
   have:i=n:=by omega
   subst this
   rw [h1,Nat.sub_self] at hb
   cases hb
   exact ha
def ArgTyW (P:Program) (t:TypeId) (a:AV):Prop:=∃ fuel cs,HasTyW P fuel t cs∧((∃ td,P.underlying t=some td∧aggD td=true∧a=.agg cs)∨(∃ td,P.underlying t=some td∧aggD td=false∧cs=[a]))
theorem HasTyW.one {fuel:Nat} {t:TypeId} {cs:List AV} (h:HasTyW P fuel t cs) {td:TypeDesc} (hu:P.underlying t=some td) (ha:aggD td=false):∃ a,cs=[a]∧a.cells=[a]:=by
 cases fuel with
 | zero=>cases h
 | succ n =>
  unfold HasTyW at h
  rw [hu] at h
  cases td <;> simp only [aggD,reduceCtorEq] at ha h
  ·obtain ⟨b,rfl⟩:=h; exact ⟨_,rfl,rfl⟩
  ·obtain ⟨x,rfl,_⟩:=h; exact ⟨_,rfl,rfl⟩
  ·obtain ⟨l,rfl,_⟩:=h; exact ⟨_,rfl,rfl⟩
  ·obtain ⟨rows,rfl,_⟩:=h; exact ⟨_,rfl,rfl⟩
end
end Go.AM
namespace Go.AM
section
variable {P:Program} {t:TypeId} {a:AV} {n:Nat} {cs:List AV}
theorem HasTyW.field (h:HasTyW P (n + 1) t cs) (f:Nat) {off:Nat} {ft:TypeId} [hf:Fld P t f off ft]:HasTyW P n ft ((cs.drop off).take (P.cellsOf ft)):=by
 obtain ⟨fs,fld,h1,h2,h3,h4⟩:=hf.out
 unfold HasTyW at h
 rw [h1] at h
 have hm:fld ∈ fs.toList:=by
  rw [← Array.getElem?_toList] at h2
  exact List.mem_of_getElem? h2
 have:=h.2 fld hm
 rw [h3,h4] at this
 exact this
theorem HasTyW.len {fs:Array Field} (h:HasTyW P (n + 1) t cs) (hu:P.underlying t=some (.struct fs)):cs.length=P.cellsOf t:=by
 unfold HasTyW at h
 rw [hu] at h
 exact h.1
theorem HasTyW.int {k:IntKind} (h:HasTyW P n t cs) (hu:P.underlying t=some (.int k)):∃ x,cs=[.int k x]∧(Lit.int k x).wf=true:=by
 cases n with
 | zero=>cases h
 | succ n =>
  unfold HasTyW at h
  rw [hu] at h
  exact h
theorem HasTyW.str (h:HasTyW P n t cs) (hu:P.underlying t=some .string):∃ l:List UInt8,cs=[.str l]∧l.length≤140737488351232:=by
 cases n with
 | zero=>cases h
 | succ n =>
  unfold HasTyW at h
  rw [hu] at h
  exact h
theorem HasTyW.slice {e:TypeId} (h:HasTyW P n t cs) (hu:P.underlying t=some (.slice e)):∃ m rows,n=m + 1∧cs=[.view (P.cellsOf e) rows .shared]∧rows.length * P.bytesOf e≤140737488351232∧∀ row ∈ rows,HasTyW P m e row:=by
 cases n with
 | zero=>cases h
 | succ n =>
  unfold HasTyW at h
  rw [hu] at h
  obtain ⟨rows,h1,h2,h3⟩:=h
  exact ⟨n,rows,rfl,h1,h2,h3⟩
theorem ArgTyW.one {td:TypeDesc} (h:ArgTyW P t a) (hu:P.underlying t=some td) (ha:aggD td=false):∃ fuel,HasTyW P fuel t [a]:=by
 obtain ⟨fuel,cs,h1,h2⟩:=h
 rcases h2 with ⟨td',hu',ha',_⟩|⟨_,_,_,rfl⟩
 ·rw [hu] at hu'
  cases hu'
  rw [ha] at ha'
  cases ha'
 ·exact ⟨fuel,h1⟩
theorem ArgTyW.agg {td:TypeDesc} (h:ArgTyW P t a) (hu:P.underlying t=some td) (ha:aggD td=true):∃ fuel cs,a=.agg cs∧HasTyW P fuel t cs:=by
 obtain ⟨fuel,cs,h1,h2⟩:=h
 rcases h2 with ⟨td',hu',ha',e⟩|⟨td',hu',ha',_⟩
 ·exact ⟨fuel,cs,e,h1⟩
 ·rw [hu] at hu'
  cases hu'
  rw [ha] at ha'
  cases ha'
end
end Go.AM
namespace Go.AM
open Go.RowKit (Below)
section
variable {P:Program} {n:Nat} {K:Post} {E:EPost} {T:Tmps} {st:St} {ops:Array Oper} {rest:List Oper}
variable {ty:TypeId} {pos:String} {es:Array Edge} {gd:Option (Nat × Bool)} {d:Tmp} {x y:Operand} {dd:Option Tmp}

end

/-! ### A deferred function -/

def ADef (P:Program) (f:FuncId) (caps:List AV) (st:St) (pv:Option AV) (Q:St→Prop):Prop :=
 ∀ g w (rcaps:Array Value),Sim g w st→caps.length=rcaps.size→(∀ (i:Nat) c v,caps[i]?=some c→rcaps[i]?=some v→R g w c v) →
  ∀ u,(match pv with|none=>u=.returning|some pv=>∃ v,u=.panicking [{ v:=v,recovered:=false }]∧R g w pv v) →
  CallsD P f rcaps u w fun e u' w'=>(∃ rv,e=.returned rv)∧settle u'=.returning∧∃ g' st',Ext g w g' w'∧Sim g' w' st'∧Q st'

section
variable {P:Program} {n:Nat}

theorem ADef.of_body {f:FuncId} {fn:Func} {id:Nat} {d1 d2:Tmp} {tys:Array TypeId} {t1 t2:TypeId} {p1 p2:String} {e1 e2:Array Edge} {c:Code} {caps:List AV} {st:St} {pv:Option AV} {Q:St→Prop}
  (hf:P.funcs[f]?=some fn)
  (hb:fn.body=some (.seq (.region id #[⟨some d1,.call ⟨.builtin .recover,#[],tys⟩,t1,p1,e1,none⟩,⟨some d2,.assign (.tmp d1),t2,p2,e2,none⟩] false) c))
  (hn:fn.ntmps=n) (hr:fn.results=#[]) (hl:Nat.ble caps.length n=true) (hd:Nat.blt d1 n=true∧Nat.blt d2 n=true)
  (h:AWP P n c (fun _ st'=>∃ st2,StLe st' st2∧Q st2) (fun e _ st'=>match e with|.ret=>∃ st2,StLe st' st2∧Q st2|_=>False)
   ((d2,pv.getD (.lit .nilIface))::(d1,pv.getD (.lit .nilIface))::zipFrom 0 caps) st):ADef P f caps st pv Q:=by
 intro g w rcaps hs hlen hcap u hu
 have hl':=Nat.ble_le hl
 have hd1:d1 < n:=Nat.lt_of_lt_of_le (Nat.lt_of_succ_le (Nat.ble_le hd.1)) (Nat.le_refl _)
 have hd2:d2 < n:=Nat.lt_of_lt_of_le (Nat.lt_of_succ_le (Nat.ble_le hd.2)) (Nat.le_refl _)
 refine callsD_of_wpS hf hb fun c₀ cs hc₀=>wpS_seq (wpS_region ?_)
 obtain ⟨rv,u',hrec,hset,hRv⟩:∃ rv u',((recoverD (c₀::cs)=some (rv,{ c₀ with mode:=u' }::cs))∨(recoverD (c₀::cs)=none∧rv=.nilIface∧{ c₀ with mode:=u' }=c₀))∧settle u'=.returning ∧
   R g w (pv.getD (.lit .nilIface)) rv:=by
  cases pv with
  | none =>
   simp only at hu
   subst hu
   refine ⟨.nilIface,.returning,.inr ⟨?_,rfl,?_⟩,rfl,.lit _⟩
   ·simp [recoverD,hc₀]
   ·rw [← hc₀]
  | some pv =>
   obtain ⟨v,rfl,hv⟩:=hu
   refine ⟨v,.panicking [{ v:=v,recovered:=true }],.inl ?_,rfl,hv⟩
   simp [recoverD,hc₀]
 have fin:∀ a':Act,a'.tmps.size=n→a'.defers=[]→Known g w ((d2,pv.getD (.lit .nilIface))::(d1,pv.getD (.lit .nilIface))::zipFrom 0 caps) a' →
   c.wpS P (bodyPostS P fn c₀ cs fun e u' w'=>(∃ rv,e=.returned rv)∧settle u'=.returning∧∃ g' st',Ext g w g' w'∧Sim g' w' st'∧Q st') a' ({ c₀ with mode:=u' }::cs) w:=by
  intro a' ha hde hka
  refine wpS_of_wp (Code.wp_mono (fun e a2 w2 hq=>?_) (h g w a' hs hka ha))
  obtain ⟨h1,h2,g',T',st',h3,h4,h5,h6⟩:=hq
  have fin2:(∃ st2,StLe st' st2∧Q st2)→a2.defers=[]∧∃ u'',({ c₀ with mode:=u' }::cs:List Frame)={ c₀ with mode:=u'' }::cs∧∃ v,(results fn a2.tmps).run P w2=.ok v w2 ∧
    ((∃ rv,Ending.returned v=.returned rv)∧settle u''=.returning∧∃ g' st',Ext g w g' w2∧Sim g' w2 st'∧Q st'):=by
   rintro ⟨st2,hle,hQ⟩
   have hres:resA P st' T' fn.results.toList=some []:=by rw [hr]; rfl
   obtain ⟨rv',hrun,_⟩:=results_R (fn:=fn) h4 h5 hres
   exact ⟨h2.trans hde,u',rfl,rv',hrun,⟨_,rfl⟩,hset,g',st2,h3,h4.le hle,hQ⟩
  cases e with
  | normal=>exact fin2 h6
  | ret=>exact fin2 h6
  | panic ch=>obtain ⟨_,_,_,_,hf'⟩:=h6; exact hf'.elim
  | exit id=>exact h6.elim
  | goto l=>exact h6.elim
  | outgrown=>exact h6.elim
 have hk0:Known g w (zipFrom 0 caps) { tmps:=rcaps++Array.replicate (fn.ntmps - rcaps.size) undef,defers:=[] }:=by
  intro i v hv
  obtain ⟨_,h2⟩:=get_zipFrom caps 0 i v hv
  have hi:i < rcaps.size:=by rw [← hlen]; exact (List.getElem?_eq_some_iff.1 h2).1
  refine ⟨rcaps[i],?_,hcap i v _ h2 (by simp [hi])⟩
  rw [Array.getElem?_append_left hi]
  simp [hi]
 have hsz:(rcaps++Array.replicate (fn.ntmps - rcaps.size) undef).size=n:=by simp; omega
 generalize ha0:({ tmps:=rcaps++Array.replicate (fn.ntmps - rcaps.size) undef,defers:=[] }:Act)=a0 at hk0
 have hsz0:a0.tmps.size=n:=by rw [← ha0]; exact hsz
 have hde0:a0.defers=[]:=by rw [← ha0]
 have k1:Known g w ((d1,pv.getD (.lit .nilIface))::zipFrom 0 caps) (a0.put (some d1) rv):=hk0.put (d:=some d1) (fun t ht=>by cases ht; rw [hsz0]; exact hd1) hRv
 have k2:Known g w ((d2,pv.getD (.lit .nilIface))::(d1,pv.getD (.lit .nilIface))::zipFrom 0 caps) ((a0.put (some d1) rv).put (some d2) rv) :=
  k1.put (d:=some d2) (fun t ht=>by cases ht; rw [Act.size_put,hsz0]; exact hd2) hRv
 have last:=fin ((a0.put (some d1) rv).put (some d2) rv) (by rw [Act.size_put,Act.size_put]; exact hsz0) (by rw [Act.defers_put,Act.defers_put]; exact hde0) k2
 have hev:(a0.put (some d1) rv).eval (.tmp d1)=rv:=by
  simp [Act.eval,Act.put,Array.setIfInBounds,hsz0,hd1]
 have hst:∀ cs1,({ c₀ with mode:=u' }::cs:List Frame)=cs1→wpOpsS P #[⟨some d1,.call ⟨.builtin .recover,#[],tys⟩,t1,p1,e1,none⟩,⟨some d2,.assign (.tmp d1),t2,p2,e2,none⟩]
   (Exit.thenS (c.wpS P (bodyPostS P fn c₀ cs fun e u' w'=>(∃ rv,e=.returned rv)∧settle u'=.returning∧∃ g' st',Ext g w g' w'∧Sim g' w' st'∧Q st')) (bodyPostS P fn c₀ cs fun e u' w'=>(∃ rv,e=.returned rv)∧settle u'=.returning∧∃ g' st',Ext g w g' w'∧Sim g' w' st'∧Q st'))
   [1] (a0.put (some d1) rv) cs1 w:=by
  rintro cs1 rfl
  unfold wpOpsS
  have hrun:(execOp (a0.put (some d1) rv).eval ⟨some d2,.assign (.tmp d1),t2,p2,e2,none⟩).run P w=.ok (.value rv) w:=by
   show Result.ok (Next.value ((a0.put (some d1) rv).eval (.tmp d1))) w=_
   rw [hev]
  simp only [List.getElem?_toArray,List.getElem?_cons_succ,List.getElem?_cons_zero,Region.wanted,if_true,hrun,Oper.upon]
  exact last
 show wpOpsS P _ _ [0,1] a0 (c₀::cs) w
 unfold wpOpsS
 have hrun:(execOp a0.eval ⟨some d1,.call ⟨.builtin .recover,#[],tys⟩,t1,p1,e1,none⟩).run P w=.ok .recover w:=by
  simp [execOp,resolve,invoke,builtin]
 simp only [List.getElem?_toArray,List.getElem?_cons_zero,Region.wanted,if_true,hrun]
 rcases hrec with hrec|⟨hrec,rfl,hc0⟩
 ·rw [hrec]
  exact hst _ rfl
 ·rw [hrec]
  exact hst _ (by rw [hc0])


def AD (P:Program) (n:Nat) (f:FuncId) (c:Code) (K:Post) (E:EPost) (Kd:List AV→Post) (Ed:List AV→EPost) (T:Tmps) (st:St):Prop :=
 ∀ g w a,Sim g w st→Known g w T a→a.tmps.size=n→a.defers=[] →
  c.wp P (fun e a' w'=>a'.tmps.size=n∧∃ g' T' st',Ext g w g' w'∧Sim g' w' st'∧Known g' w' T' a' ∧
   ((a'.defers=[]∧Leaves K E g' w' T' st' e) ∨
    ∃ caps rcaps,a'.defers=[{ target:=.fn (.func f) rcaps,args:=#[] }]∧caps.length=rcaps.size∧(∀ (i:Nat) c v,caps[i]?=some c→rcaps[i]?=some v→R g' w' c v) ∧
     Leaves (Kd caps) (Ed caps) g' w' T' st' e)) a w

section
variable {f:FuncId} {K:Post} {E:EPost} {Kd:List AV→Post} {Ed:List AV→EPost} {T:Tmps} {st:St}

theorem AD.seq {x y:Code} (h:AWP P n x (AD P n f y K E Kd Ed) E T st):AD P n f (.seq x y) K E Kd Ed T st:=by
 intro g w a hs hk hn hd
 refine wp_seq (Code.wp_mono (fun e a' w' hq=>?_) (h g w a hs hk hn))
 obtain ⟨h1,h2,g',T',st',h3,h4,h5,h6⟩:=hq
 cases e with
 | normal=>exact Code.wp_mono (fun _ _ _ ⟨q1,g2,T2,st2,q2,q3⟩=>⟨q1,g2,T2,st2,h3.trans q2,q3⟩) (h6 g' w' a' h4 h5 h1 (h2.trans hd))
 | exit id=>exact ⟨h1,g',T',st',h3,h4,h5,.inl ⟨h2.trans hd,h6⟩⟩
 | ret=>exact ⟨h1,g',T',st',h3,h4,h5,.inl ⟨h2.trans hd,h6⟩⟩
 | panic ch=>exact ⟨h1,g',T',st',h3,h4,h5,.inl ⟨h2.trans hd,h6⟩⟩
 | goto l=>exact h6.elim
 | outgrown=>exact h6.elim

end

end
end Go.AM
namespace Go.AM
open Go.RowKit (Below)
section
variable {P:Program} {n:Nat} {K:Post} {E:EPost} {T:Tmps} {st:St}
def StepP (P:Program) (n:Nat) (X:AV→St→Prop) (I:List (Option AV)→St→Prop) (S Es:List Nat) (i:Nat) (ops:Array Oper) (T:Tmps) (vals:Nat→AV) (o:Oper) (Q:AV→Prop):Prop :=
 (wantedA ops T o=some true∧∀ vs:List (Option AV),vs.length=Es.length→mayBe S Es i (vs.map Option.isSome)=true→LinkV Es i vals vs →
  ∀ st g w a (K':Act→World→Prop) (Q':Exit→Act→World→Prop),I vs st→Sim g w st→Known g w T a→a.tmps.size=n →
   (∀ rv g' w' v st1,Ext g w g' w'→Sim g' w' st1→R g' w' v rv→Q v→I (setV Es i v vs) st1→K' (a.put o.dst rv) w') →
   (∀ pv rv g' w' st1,Ext g w g' w'→Sim g' w' st1→R g' w' pv rv→X pv st1→Q' (.panic [{ v:=rv,recovered:=false }]) a w')→o.wp P a w K' Q')∨(wantedA ops T o=some false∧Q (.lit undef)∧Es.contains i=false)
def DRunP (P:Program) (n:Nat) (X:AV→St→Prop) (I:List (Option AV)→St→Prop) (S Es:List Nat) (ops:Array Oper):Nat→List Oper→List (AV→Prop)→Tmps→(Nat→AV)→(Tmps→St→Prop)→Prop
 | _,[],[],T,vals,k=>∀ st,I (Es.map fun e=>some (vals e)) st→k T st
 | i,o::r,Q::Qs,T,vals,k=>(∃ u,Q u)∧dstOk o.dst n=true∧StepP P n X I S Es i ops (see ops o T) vals o Q∧∀ u,Q u→DRunP P n X I S Es ops (i + 1) r Qs (T.put o.dst u) (fun j=>bif Nat.beq j i then u else vals j) k
 | _,_,_,_,_,_=>False
theorem DRunP.out {X:AV→St→Prop} {I:List (Option AV)→St→Prop} {S Es:List Nat} {ops:Array Oper} {k:Tmps→St→Prop} (b:Nat) (us:Nat→AV) (l:List Oper):∀ (r:List Oper) (Qs:List (AV→Prop)) (i0:Nat) (vals:Nat→AV),(∀ (i:Nat) (o:Oper),r[i]?=some o→l[i0 + i]?=some o)→(∀ (i:Nat) (Q:AV→Prop),Qs[i]?=some Q→Q (us (b + (i0 + i)))) →
  (∀ j,b≤j→j < b + i0→vals j=us j)→(∀ e ∈ Es,b≤e∧e < b + i0 + r.length) →
  DRunP P n X I S Es ops (b + i0) r Qs (ents l (fun i=>us (b + i)) i0++T) vals k→Qs.length=r.length∧(∀ st,I (Es.map fun e=>some (us e)) st→k (ents l (fun i=>us (b + i)) (i0 + r.length)++T) st) ∧
   ∀ i o,r[i]?=some o→∃ Q,dstOk o.dst n=true∧Qs[i]?=some Q∧StepP P n X I S Es (b + (i0 + i)) ops (see ops o (ents l (fun i=>us (b + i)) (i0 + i)++T)) us o Q
 | [],[],i0,vals,_,_,hv,hE,h=>⟨rfl,fun st hI=>by
   have e:(Es.map fun e=>some (vals e))=Es.map fun e=>some (us e):=List.map_congr_left fun e he=>by
    obtain ⟨h1,h2⟩:=hE e he
    rw [hv e h1 (by simpa using h2)]
   have h':∀ st,I (Es.map fun e=>some (vals e)) st→k (ents l (fun i=>us (b + i)) i0++T) st:=h
   rw [e] at h'
   exact h' st hI,fun i o ho=>by simp at ho⟩
 | [],_::_,_,_,_,_,_,_,h=>h.elim
 | _::_,[],_,_,_,_,_,_,h=>h.elim
 | o::r,Q::Qs,i0,vals,hl,hq,hv,hE,h=>by
  obtain ⟨_,h2,h4,h5⟩:=h
  have h6:=h5 (us (b + i0)) (hq 0 Q rfl)
  have hl0:l[i0]?=some o:=by simpa using hl 0 o rfl
  have he:(ents l (fun i=>us (b + i)) i0++T).put o.dst (us (b + i0))=ents l (fun i=>us (b + i)) (i0 + 1)++T:=by
   rw [ents,hl0]
   simp only [Option.bind_some]
   cases o.dst <;> rfl
  rw [he,Nat.add_assoc] at h6
  obtain ⟨a1,a2,a3⟩:=DRunP.out b us l r Qs (i0 + 1) _ (fun i o' ho'=>by have:=hl (i + 1) o' (by simpa using ho'); rwa [show i0 + (i + 1)=i0 + 1 + i by omega] at this) (fun i Q' hQ'=>by have:=hq (i + 1) Q' (by simpa using hQ'); rwa [show i0 + (i + 1)=i0 + 1 + i by omega] at this)
   (fun j h1 h2=>by
    by_cases hj:j=b + i0
    ·subst hj; rw [nbeq_self]; rfl
    ·rw [nbeq_ne hj]; exact hv j h1 (by omega)) (fun e he=>by have:=hE e he; simp only [List.length_cons] at this; omega) h6
  refine ⟨by simp [a1],by rw [List.length_cons,show i0 + (r.length + 1)=i0 + 1 + r.length by omega]; exact a2,fun i o' ho'=>?_⟩
  cases i with
  | zero =>
   simp only [List.getElem?_cons_zero,Option.some.injEq] at ho'
   subst ho'
   refine ⟨Q,h2,rfl,?_⟩
   rcases h4 with ⟨hw,h4⟩|h4
   ·exact .inl ⟨hw,fun vs hl hm hlk=>h4 vs hl hm fun p hp hlt u hu=>by
     have hpe:p.1 ∈ Es:=(List.of_mem_zip hp).1
     rw [hv p.1 (hE p.1 hpe).1 hlt]
     exact hlk p hp hlt u hu⟩
   ·exact .inr h4
  | succ i =>
   obtain ⟨Q',b1,b2,b3⟩:=a3 i o' (by simpa using ho')
   exact ⟨Q',b1,by simpa using b2,by rwa [show i0 + 1 + i=i0 + (i + 1) by omega] at b3⟩
theorem DRunP.fits {X:AV→St→Prop} {I:List (Option AV)→St→Prop} {S Es:List Nat} {ops:Array Oper} {k:Tmps→St→Prop}:∀ (r:List Oper) (Qs:List (AV→Prop)) (i0:Nat) (T:Tmps) (vals:Nat→AV),DRunP P n X I S Es ops i0 r Qs T vals k→∀ (i:Nat) (Q:AV→Prop),Qs[i]?=some Q→∃ u,Q u
 | [],[],_,_,_,_,i,Q,h=>by simp at h
 | [],_::_,_,_,_,h,_,_,_=>h.elim
 | _::_,[],_,_,_,h,_,_,_=>h.elim
 | o::r,Q0::Qs,i0,T,vals,h,i,Q,hq=>by
  obtain ⟨⟨u,hu⟩,h2,h4,h5⟩:=h
  cases i with
  | zero=>simp at hq; subst hq; exact ⟨u,hu⟩
  | succ i=>exact DRunP.fits r Qs _ _ _ (h5 u hu) i Q (by simpa using hq)
variable {X:AV→St→Prop} {J:List (Option AV)→St→Prop} {base:St} {S Es:List Nat} {ops:Array Oper} {Qs:List (AV→Prop)} {vals:Nat→AV}
end
end Go.AM
namespace Go.AM
open Go.RowKit (Below)
def brows (l:List UInt8):List (List AV):=l.map fun c=>[.int .u8 (c.toNat:Int)]
theorem brows_len (l:List UInt8):(brows l).length=l.length:=List.length_map ..
theorem brows_get {l:List UInt8} {i:Nat} {row:List AV} (h:(brows l)[i]?=some row):∃ c,l[i]?=some c∧row=[.int .u8 (c.toNat:Int)]:=by
 unfold brows at h
 rw [List.getElem?_map] at h
 cases hc:l[i]? with
 | none=>rw [hc] at h; cases h
 | some c=>rw [hc] at h; cases h; exact ⟨c,rfl,rfl⟩
theorem brows_row {l:List UInt8}:∀ row ∈ brows l,row.length=1∧∀ c ∈ row,c.one=true:=by
 intro row h
 simp only [brows,List.mem_map] at h
 obtain ⟨c,_,rfl⟩:=h
 exact ⟨rfl,fun x hx=>by rw [List.mem_singleton.1 hx]; rfl⟩
section
variable {P:Program} {n:Nat} {K:Post} {E:EPost} {T:Tmps} {st:St} {ops:Array Oper} {rest:List Oper}
variable {ty:TypeId} {pos:String} {es:Array Edge} {gd:Option (Nat × Bool)} {d:Tmp} {x y:Operand} {dd:Option Tmp}
open Go.Lib (strCells strCells_length)
theorem strCells_mk (s:List UInt8):strCells ⟨⟨s⟩⟩=s.map fun b=>Value.int .u8 b.toNat:=rfl
theorem size_mk (s:List UInt8):(⟨⟨s⟩⟩:ByteArray).size=s.length:=rfl
theorem append_nil_str {g:G} {w:World} (hs:Sim g w st) {t u e:TypeId} [hu:Und P t (.slice e)] [hus:Und P u .string] [hie:Inf P e 1 1 (.int .u8 0)] {ty:TypeId} {s:List UInt8} (h0:s≠[]) (hb:s.length≤140737488355328) :
  ∃ v w' g' o',(Builtin.append_ #[t,u] ty #[.slice none 0 0,.string ⟨⟨s⟩⟩]).run P w=.ok v w'∧Ext g w g' w'∧Sim g' w' (st.set o' (.cells e 1 (brows s)))∧R g' w' (.msl o' 1 0 s.length) v∧st.obj o'=none:=by
 obtain ⟨inf,i1,i2,i3,i4⟩:=hie.out
 have hpos:0 < s.length:=List.length_pos_iff.2 h0
 have hm:s.length≤maxLen:=by simp only [maxLen]; omega
 have hr:=run_append_nil_string (P:=P) w t u ty e inf (.int .u8 0) hu.out hus.out i1 i4 ⟨⟨s⟩⟩ hpos (by rw [size_mk]; omega) (by rw [i3,size_mk]; omega)
 rw [size_mk] at hr
 have hge:=grownCap_ge w s.length 0 e
 have hgm:=grownCap_le_maxLen w s.length 0 e hm
 obtain ⟨hed,hsd⟩:=hs.draw
 generalize hcp:grownCap w s.length 0 e=cp at hr hge hgm
 generalize harr:(Array.map (fun b:UInt8=>Value.int .u8 b.toNat) (⟨s⟩:Array UInt8))++Builtin.zeroCells (Value.int IntKind.u8 0).cells (cp - s.length)=arr' at hr
 have hz1:(Value.int IntKind.u8 0).cells.size=1:=rfl
 have hsize':arr'.size=cp * 1:=by
  rw [← harr]
  simp only [Array.size_append,Array.size_map,size_zeroCells,hz1,List.size_toArray]
  omega
 obtain ⟨g',he,hs',hob',hnone⟩:=hsd.newObj (.cells arr' e) (.cells e 1 (brows s)) (cp * 1) (fun g' he=>by
  refine ⟨arr',heap_alloc_new _ _,hsize',by rw [brows_len]; exact Nat.mul_le_mul_right _ hge,fun r hr=>(brows_row r hr).1,fun r hr=>(brows_row r hr).2,fun i j row c hr hcj=>?_⟩
  obtain ⟨ch,hch,rfl⟩:=brows_get hr
  have hi:i < s.length:=(List.getElem?_eq_some_iff.1 hch).1
  match j,hcj with
  | 0,hcj =>
   cases hcj
   refine ⟨.int .u8 ch.toNat,?_,.int _ _⟩
   rw [← harr,Array.getElem?_append_left (by simpa using hi)]
   simp [hch]
  | j + 1,hcj=>simp at hcj)
 refine ⟨_,_,g',g.next,hr,hed.trans he,hs',?_,hnone⟩
 have:=R.msl (g:=g') (w:=w.drew.alloc (.cells arr' e)) g.next 1 0 s.length cp w.drew.heap.size (cp * 1) hob' hge hgm (by simp)
 simpa using this
theorem append_msl_str {g:G} {w:World} (hs:Sim g w st) {t u e:TypeId} [hu:Und P t (.slice e)] [hus:Und P u .string] [hie:Inf P e 1 1 (.int .u8 0)] {ty:TypeId} {o:Nat} {l s:List UInt8} {ux:Value}
  (h1:R g w (.msl o 1 0 l.length) ux) (ho:st.obj o=some (.cells e 1 (brows l))) (hb:l.length + s.length≤140737488355328) :
  ∃ v w' g' o',(Builtin.append_ #[t,u] ty #[ux,.string ⟨⟨s⟩⟩]).run P w=.ok v w'∧Ext g w g' w'∧Sim g' w' ((st.drop o).set o' (.cells e 1 (brows (l++s))))∧R g' w' (.msl o' 1 0 (l++s).length) v∧(o'=o∨st.obj o'=none):=by
 obtain ⟨inf,i1,i2,i3,i4⟩:=hie.out
 have hm:l.length + s.length≤maxLen:=by simp only [maxLen]; omega
 have hll:(brows (l++s)).length=l.length + s.length:=by rw [brows_len,List.length_append]
 have hrow:=fun r hr=>(brows_row (l:=l++s) r hr).1
 have h1row:=fun r hr=>(brows_row (l:=l++s) r hr).2
 cases h1 with
 | msl _ _ _ _ cap b m hob hc hmx hfit0 =>
  obtain ⟨hbase,⟨arr,ha,hasz,hml,hl,h1',hcell⟩,hnimm⟩:=hs.objOf ho hob
  simp only [Nat.zero_add,Nat.mul_one] at hfit0 ⊢
  have hold:∀ (i:Nat) c,l[i]?=some c→arr[i]?=some (.int .u8 (c.toNat:Int)):=by
   intro i c hi
   obtain ⟨v,hv1,hv2⟩:=hcell i 0 [.int .u8 (c.toNat:Int)] (.int .u8 (c.toNat:Int)) (by unfold brows; rw [List.getElem?_map,hi]; rfl) rfl
   cases hv2
   simpa using hv1
  by_cases hroom:l.length + s.length≤cap
  ·have hr:=Lib.run_append_room_string (P:=P) w t u ty e inf hu.out hus.out i1 i2 b l.length cap arr ha ⟨⟨s⟩⟩ hroom (by rw [size_mk]; omega)
   rw [size_mk] at hr
   generalize harr:(arr.toList.take l.length++strCells ⟨⟨s⟩⟩++arr.toList.drop (l.length + s.length)).toArray=arr' at hr
   have hmin:min l.length arr.size=l.length:=by omega
   have hlow:∀ i,i < l.length→arr'[i]?=arr[i]?:=by
    intro i hi
    rw [← harr,List.getElem?_toArray,List.append_assoc,List.getElem?_append_left (by simp; omega),List.getElem?_take_of_lt hi,Array.getElem?_toList]
   have hmid:∀ q c,s[q]?=some c→arr'[l.length + q]?=some (.int .u8 (c.toNat:Int)):=by
    intro q c hq
    have hql:=(List.getElem?_eq_some_iff.1 hq).1
    rw [← harr,List.getElem?_toArray,List.append_assoc,List.getElem?_append_right (by simp; omega)]
    simp only [List.length_take,Array.length_toList,hmin]
    rw [Nat.add_sub_cancel_left,List.getElem?_append_left (by rw [strCells_length]; exact hql),strCells_mk,List.getElem?_map,hq]
    rfl
   have hsize':arr'.size=m:=by
    rw [← harr,← hasz]
    simp only [List.size_toArray,List.length_append,List.length_take,List.length_drop,Array.length_toList,strCells_length,size_mk]
    omega
   obtain ⟨he,hs'⟩:=hs.write (c':=.cells e 1 (brows (l++s))) ho hob (w.setRow b arr') (by simp) rfl rfl rfl (fun k hk=>setRow_other w b k arr' hk) (fun he=>by
    refine ⟨arr',setRow_heap w b arr arr' e (0,0) ha,hsize',by rw [hll]; omega,hrow,h1row,fun i j row c hr hcj=>?_⟩
    obtain ⟨ch,hch,rfl⟩:=brows_get hr
    match j,hcj with
    | 0,hcj =>
     cases hcj
     refine ⟨.int .u8 ch.toNat,?_,.int _ _⟩
     simp only [Nat.mul_one,Nat.add_zero]
     by_cases hi:i < l.length
     ·rw [List.getElem?_append_left hi] at hch
      rw [hlow _ hi]
      exact hold _ _ hch
     ·rw [List.getElem?_append_right (by omega)] at hch
      have:=hmid _ _ hch
      rwa [show l.length + (i - l.length)=i by omega] at this
    | j + 1,hcj=>simp at hcj)
   refine ⟨_,_,g,o,hr,he,by rw [St.drop_set_self]; exact hs',?_,.inl rfl⟩
   have:=R.msl (g:=g) (w:=w.setRow b arr') o 1 0 (l.length + s.length) cap b m hob hroom hmx (by simpa using hfit0)
   rw [List.length_append]
   simpa using this
  ·have holds:∀ (q:Nat) v,(strCells ⟨⟨l⟩⟩)[q]?=some v→w.cell? ((⟨b,0,none⟩:Addr).add q)=some v:=by
    intro q v hq
    rw [strCells_mk,List.getElem?_map] at hq
    cases hc':l[q]? with
    | none=>rw [hc'] at hq; cases hq
    | some c =>
     rw [hc'] at hq
     cases hq
     rw [addr_add,Nat.zero_add,cell_of_row w b _ arr e (0,0) ha]
     exact hold _ _ hc'
   have hr:=Lib.run_append_grow_string (P:=P) w t u ty e inf (.int .u8 0) hu.out hus.out i1 i4 ⟨b,0,none⟩ l.length cap (strCells ⟨⟨l⟩⟩) (by rw [strCells_length,i2,size_mk,Nat.mul_one]) holds ⟨⟨s⟩⟩ (by rw [size_mk]; omega) (by rw [size_mk]; omega)
    (growslice_fits (by rw [size_mk]; omega) (by rw [i3,size_mk]; omega))
   rw [size_mk] at hr
   have hge:=grownCap_ge w (l.length + s.length) cap e
   have hgm:=grownCap_le_maxLen w (l.length + s.length) cap e hm
   obtain ⟨hed,hsd⟩:=hs.draw
   generalize hcp:grownCap w (l.length + s.length) cap e=cp at hr hge hgm
   generalize harr:(strCells ⟨⟨l⟩⟩).toArray++(strCells ⟨⟨s⟩⟩).toArray++Builtin.zeroCells (Value.int IntKind.u8 0).cells (cp - (l.length + s.length))=arr' at hr
   have hz1:(Value.int IntKind.u8 0).cells.size=1:=rfl
   have hsize':arr'.size=cp * 1:=by
    rw [← harr]
    simp only [Array.size_append,List.size_toArray,strCells_length,size_mk,size_zeroCells,hz1]
    omega
   obtain ⟨g',he,hs',hob',hnone⟩:=hsd.newObj (.cells arr' e) (.cells e 1 (brows (l++s))) (cp * 1) (fun g' he=>by
    refine ⟨arr',heap_alloc_new _ _,hsize',by rw [hll]; exact Nat.mul_le_mul_right _ hge,hrow,h1row,fun i j row c hr hcj=>?_⟩
    obtain ⟨ch,hch,rfl⟩:=brows_get hr
    match j,hcj with
    | 0,hcj =>
     cases hcj
     refine ⟨.int .u8 ch.toNat,?_,.int _ _⟩
     simp only [Nat.mul_one,Nat.add_zero]
     have hi:i < (l++s).length:=(List.getElem?_eq_some_iff.1 hch).1
     rw [List.length_append] at hi
     have hap:(strCells ⟨⟨l⟩⟩).toArray++(strCells ⟨⟨s⟩⟩).toArray=(strCells ⟨⟨l⟩⟩++strCells ⟨⟨s⟩⟩).toArray:=by simp
     rw [← harr,hap,Array.getElem?_append_left (by simp only [List.size_toArray,List.length_append,strCells_length,size_mk]; exact hi),List.getElem?_toArray,strCells_mk,strCells_mk,← List.map_append,List.getElem?_map,hch]
     rfl
    | j + 1,hcj=>simp at hcj)
   have hne:g.next≠o:=fun e=>by rw [← e] at ho; rw [ho] at hnone; cases hnone
   refine ⟨_,_,g',g.next,hr,hed.trans he,?_,?_,.inr hnone⟩
   ·rw [St.set_drop hne]
    exact hs'.le (StLe.drop o)
   ·have:=R.msl (g:=g') (w:=w.drew.alloc (.cells arr' e)) g.next 1 0 (l.length + s.length) cp w.drew.heap.size (cp * 1) hob' hge hgm (by simp)
    rw [List.length_append]
    simpa using this
class SameFun (P:Program) (f:FuncId):Prop where
 out : ∃ fn, P.funcs[f]? = some fn ∧ (fn.name == "runtime.NumGoroutine") = false ∧ fn.body.isNone = true ∧ Extern.findNext fn = none ∧ Extern.find fn = some Extern.AbiNoEscape.same
end
end Go.AM
namespace Go.AM
open Go.RowKit (Below)
section
variable {P:Program} {n:Nat} {K:Post} {E:EPost} {T:Tmps} {st:St} {ops:Array Oper} {rest:List Oper}
variable {ty:TypeId} {pos:String} {es:Array Edge} {gd:Option (Nat × Bool)} {d:Tmp} {x y:Operand} {dd:Option Tmp}
end
end Go.AM
namespace Go.AM
theorem new_ne {st:St} {o p:Nat} {a:AObj} (h:(st.set o a).obj p=none):o≠p∧st.obj p=none:=by
 have hne:o≠p:=fun e=>by subst e; rw [St.obj_set] at h; cases h
 exact ⟨hne,by rwa [St.obj_set_ne hne.symm] at h⟩
end Go.AM
namespace Go.AM
structure Hd (R:Prop):Prop where
 out:R
theorem goC {P R:Prop} (z:R) (h:Hd R→P:=by intro z; (repeat (first|refine nl ?_|refine AWP.seq ?_|refine AWP.skip ?_|refine AWP.block ?_)); exact z.out):P:=h ⟨z⟩
theorem goD {P R:Prop} (z:R) (h:Hd R→P:=by intro z; (repeat (first|refine nl ?_|refine AWP.seq ?_|refine rg ?_|refine AWP.skip ?_|refine AWP.block ?_|refine YH (z:=?_)|refine YI (z:=?_)|refine ZA (z:=?_)|refine ZB (z:=?_)|refine ZC (z:=?_)|refine ZD (z:=?_)|refine ZF (z:=?_)|refine ZJ (z:=?_)|refine ZK (z:=?_)|refine ZM (z:=?_)|refine ZN (z:=?_)|refine ZH (z:=?_)|refine ZO (z:=?_)|refine ZQ (z:=?_)|refine ZR (z:=?_)|refine ZU (z:=?_)|refine YA (z:=?_)|refine YC (z:=?_)|refine YD (z:=?_)|refine YE (z:=?_))); exact z.out):P:=h ⟨z⟩
theorem goE {P R:Prop} (z:R) (h:Hd R→P:=by intro z; (repeat (first|refine ZA (z:=?_)|refine ZB (z:=?_)|refine ZC (z:=?_)|refine ZD (z:=?_)|refine ZF (z:=?_)|refine ZJ (z:=?_)|refine ZK (z:=?_)|refine ZM (z:=?_)|refine ZN (z:=?_)|refine ZH (z:=?_)|refine ZO (z:=?_)|refine ZQ (z:=?_)|refine ZR (z:=?_)|refine ZU (z:=?_)|refine YA (z:=?_)|refine YC (z:=?_)|refine YD (z:=?_)|refine YE (z:=?_))); exact z.out):P:=h ⟨z⟩
theorem goG {P R:Prop} (z:R) (h:Hd R→P:=by intro z; (repeat (first|refine dq (v:=.bool true) rfl rfl rfl (fun st1 hle=>sm rfl (nl ⟨_,rfl,congrArg AV.bool (by (fail_if_success rfl); first|assumption|exact decide_eq_true (by assumption)|exact decide_eq_false (by assumption)|exact decide_eq_true rfl|exact decide_eq_true (by omega)|exact decide_eq_false (by omega)),rfl⟩)) ?_|refine dq (v:=.bool false) rfl rfl rfl (fun st1 hle=>sm rfl (nl ⟨_,rfl,congrArg AV.bool (by (fail_if_success rfl); first|assumption|exact decide_eq_true (by assumption)|exact decide_eq_false (by assumption)|exact decide_eq_true rfl|exact decide_eq_true (by omega)|exact decide_eq_false (by omega)),rfl⟩)) ?_|refine ds rfl rfl ?_|refine du rfl rfl rfl ?_|refine dp (h:=fun _ _=>ZD (z:=nz)) (z:=?_)|refine dp (h:=fun _ _=>ZF (z:=nz)) (z:=?_)|refine dp (h:=fun _ _=>ZC (z:=nz)) (z:=?_)|refine dp (h:=fun _ _=>ZJ (z:=nz)) (z:=?_)|refine dp (h:=fun _ _=>ZK (z:=nz)) (z:=?_)|refine dp (h:=fun _ _=>ZM (z:=nz)) (z:=?_)|refine dp (h:=fun _ _=>ZN (z:=nz)) (z:=?_)|refine dp (h:=fun _ _=>ZH (z:=nz)) (z:=?_)|refine dp (h:=fun _ _=>ZQ (z:=nz)) (z:=?_)|refine dp (h:=fun _ _=>ZO (z:=nz)) (z:=?_)|refine dp (h:=fun _ _=>YC (z:=nz)) (z:=?_))); exact z.out):P:=h ⟨z⟩
end Go.AM
namespace Go.Proofs
open Go.AM

instance Tryz.tinf3:Inf Tryz.prog 3 1 8 (.int .i64 0):=⟨by kernel_rfl⟩
instance Tryz.tinf4:Inf Tryz.prog 4 1 1 (.bool false):=⟨by kernel_rfl⟩
instance Tryz.tinf5:Inf Tryz.prog 5 1 1 (.int .u8 0):=⟨by kernel_rfl⟩
instance Tryz.tinf9:Inf Tryz.prog 9 1 16 (.string ⟨#[]⟩):=⟨by kernel_rfl⟩
instance Tryz.tinf22:Inf Tryz.prog 22 1 24 (.slice none 0 0):=⟨by kernel_rfl⟩
instance Tryz.tinf30:Inf Tryz.prog 30 1 24 (.slice none 0 0):=⟨by kernel_rfl⟩
instance Tryz.tinf39:Inf Tryz.prog 39 5 88 (.agg #[.int .i64 0,.int .i64 0,.slice none 0 0,.slice none 0 0,.slice none 0 0]):=⟨by kernel_rfl⟩
instance Tryz.tinf47:Inf Tryz.prog 47 1 24 (.slice none 0 0):=⟨by kernel_rfl⟩
instance Tryz.tinf49:Inf Tryz.prog 49 4 64 (.agg #[.int .i64 0,.int .i64 0,.slice none 0 0,.slice none 0 0]):=⟨by kernel_rfl⟩
instance Tryz.tinf56:Inf Tryz.prog 56 1 24 (.slice none 0 0):=⟨by kernel_rfl⟩
instance Tryz.tinf58:Inf Tryz.prog 58 2 40 (.agg #[.string ⟨#[]⟩,.slice none 0 0]):=⟨by kernel_rfl⟩
instance Tryz.tund3:Und Tryz.prog 3 (.int .i64):=⟨Tryz.underlying3⟩
instance Tryz.tund4:Und Tryz.prog 4 .bool:=⟨Tryz.underlying4⟩
instance Tryz.tund5:Und Tryz.prog 5 (.int .u8):=⟨Tryz.underlying5⟩
instance Tryz.tund9:Und Tryz.prog 9 .string:=⟨Tryz.underlying9⟩
instance Tryz.tund22:Und Tryz.prog 22 (.slice 58):=⟨Tryz.underlying22⟩
instance Tryz.tund30:Und Tryz.prog 30 (.slice 3):=⟨Tryz.underlying30⟩
instance Tryz.tund34:Und Tryz.prog 34 (.slice 5):=⟨Tryz.underlying34⟩
instance Tryz.tund39:Und Tryz.prog 39 (.struct (fOf Tryz.underlying39)):=⟨Tryz.underlying39⟩
instance Tryz.tund47:Und Tryz.prog 47 (.slice 4):=⟨Tryz.underlying47⟩
instance Tryz.tund49:Und Tryz.prog 49 (.struct (fOf Tryz.underlying49)):=⟨Tryz.underlying49⟩
instance Tryz.tund56:Und Tryz.prog 56 (.slice 9):=⟨Tryz.underlying56⟩
instance Tryz.tund58:Und Tryz.prog 58 (.struct (fOf Tryz.underlying58)):=⟨Tryz.underlying58⟩
instance Tryz.tund59:Und Tryz.prog 59 (.int .u64):=⟨Tryz.underlying59⟩
instance Tryz.tund60:Und Tryz.prog 60 (.slice 49):=⟨Tryz.underlying60⟩
instance Tryz.tfld39_2:Fld Tryz.prog 39 2 2 22:=⟨_,_,Tryz.underlying39,rfl,rfl,rfl⟩
instance Tryz.tpl39:Places Tryz.prog  (fOf Tryz.underlying39) [(0,1),(1,1),(2,1),(3,1),(4,1)]:=⟨by kernel_rfl⟩
instance Tryz.tfld49_0:Fld Tryz.prog 49 0 0 3:=⟨_,_,Tryz.underlying49,rfl,rfl,rfl⟩
instance Tryz.tfld49_1:Fld Tryz.prog 49 1 1 3:=⟨_,_,Tryz.underlying49,rfl,rfl,rfl⟩
instance Tryz.tfld49_2:Fld Tryz.prog 49 2 2 47:=⟨_,_,Tryz.underlying49,rfl,rfl,rfl⟩
instance Tryz.tfld49_3:Fld Tryz.prog 49 3 3 30:=⟨_,_,Tryz.underlying49,rfl,rfl,rfl⟩
instance Tryz.tpl49:Places Tryz.prog  (fOf Tryz.underlying49) [(0,1),(1,1),(2,1),(3,1)]:=⟨by kernel_rfl⟩
instance Tryz.tfld58_0:Fld Tryz.prog 58 0 0 9:=⟨_,_,Tryz.underlying58,rfl,rfl,rfl⟩
instance Tryz.tfld58_1:Fld Tryz.prog 58 1 1 56:=⟨_,_,Tryz.underlying58,rfl,rfl,rfl⟩
instance Tryz.tpl58:Places Tryz.prog  (fOf Tryz.underlying58) [(0,1),(1,1)]:=⟨by kernel_rfl⟩
instance Tryz.gofun6:GoFun Tryz.prog 6:=⟨_,Tryz.func6,by kernel_rfl,by kernel_rfl⟩
instance Tryz.gofun8:GoFun Tryz.prog 8:=⟨_,Tryz.func8,by kernel_rfl,by kernel_rfl⟩
instance Tryz.gofun10:GoFun Tryz.prog 10:=⟨_,Tryz.func10,by kernel_rfl,by kernel_rfl⟩
instance Tryz.gofun11:GoFun Tryz.prog 11:=⟨_,Tryz.func11,by kernel_rfl,by kernel_rfl⟩
instance Tryz.gofun12:GoFun Tryz.prog 12:=⟨_,Tryz.func12,by kernel_rfl,by kernel_rfl⟩
instance Tryz.gofun13:GoFun Tryz.prog 13:=⟨_,Tryz.func13,by kernel_rfl,by kernel_rfl⟩
instance Tryz.gofun20:GoFun Tryz.prog 20:=⟨_,Tryz.func20,by kernel_rfl,by kernel_rfl⟩
instance Tryz.gofun21:GoFun Tryz.prog 21:=⟨_,Tryz.func21,by kernel_rfl,by kernel_rfl⟩
instance Tryz.gofun22:GoFun Tryz.prog 22:=⟨_,Tryz.func22,by kernel_rfl,by kernel_rfl⟩
instance Tryz.gofun23:GoFun Tryz.prog 23:=⟨_,Tryz.func23,by kernel_rfl,by kernel_rfl⟩
end Go.Proofs
namespace Go.Proofs
open Go.AM
attribute [local irreducible] AWP AOps ACalls
set_option linter.unusedSimpArgs false

def w64 (n:Int):Prop:=-9223372036854775808≤n∧n < 9223372036854775808
def b01 (b:Bool):Int:=bif b then 1 else 0
end Go.Proofs
namespace Go.Proofs
open Go.AM
attribute [local irreducible] AWP AOps ACalls
set_option linter.unusedSimpArgs false

theorem truth_ok (b:Bool) (st:St):ACalls Tryz.prog 81 [.bool b] st (fun v st'=>v=.int .i64 (b01 b)∧st'=st) (fun _ _=>False):=by
 refine ACalls.ofBody Tryz.func81 rfl Tryz.ntmps81 rfl ?_
 cases b
 ·refine goD ?_
  exact AWP.ret (rets rfl (.refl _) (.refl _) ⟨rfl,rfl⟩)
 ·refine goD ?_
  exact AWP.ret (rets rfl (.refl _) (.refl _) ⟨rfl,rfl⟩)
instance (b:Bool):PureFn Tryz.prog 81 [.bool b] (.int .i64 (b01 b)):=⟨fun st=>truth_ok b st⟩

end Go.Proofs
namespace Go.Proofs
open Go.AM
attribute [local irreducible] AWP AOps ACalls
set_option linter.unusedSimpArgs false

end Go.Proofs
namespace Go.AM
section
variable {P:Program} {n:Nat} {K:Post} {E:EPost} {T:Tmps} {st:St}
def AWPL (P:Program) (n:Nat) (c:Code) (E:EPost):Nat→Tmps→St→Prop
 | 0=>fun _ _=>False
 | m + 1=>fun T st=>AWP P n c (AWPL P n c E m) E T st
theorem AWPL.s {c:Code} {m:Nat} (h:AWP P n c (AWPL P n c E m) E T st):AWPL P n c E (m + 1) T st:=h
theorem AWP.fzM {c:Code} (t:Nat) {o sz lo len:Nat} {oty:TypeId} {rows:List (List AV)} (ht:T.get t=some (.msl o sz lo len)) (ho:st.obj o=some (.cells oty sz rows)) (hl:lo + len≤rows.length)
  (h:AWP P n c K E ((t,.view sz ((rows.drop lo).take len) .shared)::T) (st.drop o)):AWP P n c K E T st :=
 AWP.ghost fun g w a hs hk=>by
  obtain ⟨rv,h1,h2⟩:=hk t _ ht
  obtain ⟨g',he,hs',hR⟩:=h2.frozen hs ho hl
  exact ⟨g',_,_,he,hs',(hk.ext he).cons h1 hR,h⟩
theorem AOps.fzM {ops:Array Oper} {rest:List Oper} (t:Nat) {o sz lo len:Nat} {oty:TypeId} {rows:List (List AV)} (ht:T.get t=some (.msl o sz lo len)) (ho:st.obj o=some (.cells oty sz rows)) (hl:lo + len≤rows.length)
  (h:AOps P n ops rest K E ((t,.view sz ((rows.drop lo).take len) .shared)::T) (st.drop o)):AOps P n ops rest K E T st :=
 AOps.ghost fun g w a hs hk=>by
  obtain ⟨rv,h1,h2⟩:=hk t _ ht
  obtain ⟨g',he,hs',hR⟩:=h2.frozen hs ho hl
  exact ⟨g',_,_,he,hs',(hk.ext he).cons h1 hR,h⟩
end
end Go.AM
namespace Go.Proofs
open Go.AM
attribute [local irreducible] AWP AOps ACalls AWPL
set_option linter.unusedSimpArgs false

theorem _root_.Go.AM.StLe.over {s st:St} {o:Nat} {c:AObj} (h:st.obj o=none) (l:StLe s st):StLe (s.set o c) st :=
 ⟨fun p d hp=>by rw [St.obj_set_ne (fun e=>by subst e; rw [h] at hp; cases hp)]; exact l.obj p d hp,l.tok,l.glob⟩
end Go.Proofs
namespace Go.Proofs
open Go.AM
attribute [local irreducible] AWP AOps ACalls AWPL
set_option linter.unusedSimpArgs false

end Go.Proofs
namespace Go.AX
open Go.AM

/-! A table. -/
inductive Tr (α:Type) where
 | nil
 | node (v:Option α) (l r:Tr α)
section
variable {α:Type}
def Tr.get:Tr α→Nat→Option α
 | .nil,_=>none
 | .node v l r,n=>bif Nat.beq n 0 then v else bif Nat.beq (n % 2) 1 then l.get (n / 2) else r.get (n / 2 - 1)
def Tr.put:Nat→Tr α→Nat→Option α→Tr α
 | 0,t,_,_=>t
 | k + 1,.nil,n,x=>bif Nat.beq n 0 then .node x .nil .nil else bif Nat.beq (n % 2) 1 then .node none (Tr.put k .nil (n / 2) x) .nil else .node none .nil (Tr.put k .nil (n / 2 - 1) x)
 | k + 1,.node v l r,n,x=>bif Nat.beq n 0 then .node x l r else bif Nat.beq (n % 2) 1 then .node v (Tr.put k l (n / 2) x) r else .node v l (Tr.put k r (n / 2 - 1) x)
theorem Tr.get_nil (n:Nat):(Tr.nil:Tr α).get n=none:=by rw [Tr.get]
theorem Tr.get_put:∀ (k:Nat) (t:Tr α) (n m:Nat) (x:Option α),n + 1 < 2 ^ k→(Tr.put k t n x).get m=if m=n then x else t.get m
 | 0,t,n,m,x,h=>by simp at h
 | k + 1,t,n,m,x,h=>by
  have hk:2 ^ (k + 1)=2 * 2 ^ k:=by rw [Nat.pow_succ,Nat.mul_comm]
  have key:∀ (v:Option α) (l r:Tr α) (v':Option α) (l' r':Tr α),(t.get m=bif Nat.beq m 0 then v else bif Nat.beq (m % 2) 1 then l.get (m / 2) else r.get (m / 2 - 1)) →
    Tr.put (k + 1) t n x=(bif Nat.beq n 0 then .node x l r else bif Nat.beq (n % 2) 1 then .node v (Tr.put k l (n / 2) x) r else .node v l (Tr.put k r (n / 2 - 1) x)) →
    (Tr.put (k + 1) t n x).get m=if m=n then x else t.get m:=by
   intro v l r _ _ _ ht hp
   rw [hp,ht]
   by_cases hn:n=0
   ·subst hn
    rw [show Nat.beq 0 0=true from rfl,cond_true,Tr.get]
    by_cases hm:m=0
    ·subst hm; rfl
    ·rw [nbeq_ne hm,cond_false,cond_false,if_neg hm]
   ·rw [nbeq_ne hn,cond_false]
    by_cases ho:n % 2=1
    ·rw [ho,show Nat.beq 1 1=true from rfl,cond_true,Tr.get]
     by_cases hm:m=0
     ·subst hm
      rw [if_neg (Ne.symm hn)]
      rfl
     ·rw [nbeq_ne hm,cond_false,cond_false]
      by_cases hmo:m % 2=1
      ·rw [hmo,show Nat.beq 1 1=true from rfl,cond_true,cond_true,Tr.get_put k l (n / 2) (m / 2) x (by omega)]
       by_cases e:m=n
       ·rw [if_pos e,if_pos (by omega)]
       ·rw [if_neg e,if_neg (by omega)]
      ·rw [nbeq_ne hmo,cond_false,cond_false,if_neg (fun e=>by omega)]
    ·rw [nbeq_ne ho,cond_false,Tr.get]
     by_cases hm:m=0
     ·subst hm
      rw [if_neg (Ne.symm hn)]
      rfl
     ·rw [nbeq_ne hm,cond_false,cond_false]
      by_cases hmo:m % 2=1
      ·rw [hmo,show Nat.beq 1 1=true from rfl,cond_true,cond_true,if_neg (fun e=>by omega)]
      ·rw [nbeq_ne hmo,cond_false,cond_false,Tr.get_put k r (n / 2 - 1) (m / 2 - 1) x (by omega)]
       by_cases e:m=n
       ·rw [if_pos e,if_pos (by omega)]
       ·rw [if_neg e,if_neg (by omega)]
  cases t with
  | nil =>
   refine key none .nil .nil none .nil .nil ?_ (by rw [Tr.put])
   rw [Tr.get,Tr.get,Tr.get]
   cases Nat.beq m 0 <;> cases Nat.beq (m % 2) 1 <;> rfl
  | node v l r=>exact key v l r none .nil .nil (by rw [Tr.get]) (by rw [Tr.put])
end

/-! Values that are the same but for the names of objects. -/
structure Ren where
 f:Nat→Option Nat
 rs:Nat→Bool
instance:CoeFun Ren (fun _=>Nat→Option Nat):=⟨Ren.f⟩
def Ren.no:Ren:=⟨fun _=>none,fun _=>false⟩
inductive VR (ρ:Ren):AV→AV→Prop
 | int (k:IntKind) (n:Int):VR ρ (.int k n) (.int k n)
 | bool (b:Bool):VR ρ (.bool b) (.bool b)
 | str (l:List UInt8):VR ρ (.str l) (.str l)
 | lit (v:Value):VR ρ (.lit v) (.lit v)
 | agg (cs ds:List AV) (hl:cs.length=ds.length) (h:∀ (i:Nat) c d,cs[i]?=some c→ds[i]?=some d→VR ρ c d):VR ρ (.agg cs) (.agg ds)
 | tuple (cs ds:List AV) (hl:cs.length=ds.length) (h:∀ (i:Nat) c d,cs[i]?=some c→ds[i]?=some d→VR ρ c d):VR ρ (.tuple cs) (.tuple ds)
 | view (sz:Nat) (rows rows':List (List AV)) (t:Tok) (ht:∀ k e,t≠.own k e) (hl:rows.length=rows'.length)
   (hl2:∀ (i:Nat) r r',rows[i]?=some r→rows'[i]?=some r'→r.length=r'.length)
   (h:∀ (i j:Nat) r r' c d,rows[i]?=some r→rows'[i]?=some r'→r[j]?=some c→r'[j]?=some d→VR ρ c d):VR ρ (.view sz rows t) (.view sz rows' t)
 | eptr (sz:Nat) (rows rows':List (List AV)) (i0 off:Nat) (hl:rows.length=rows'.length)
   (hl2:∀ (i:Nat) r r',rows[i]?=some r→rows'[i]?=some r'→r.length=r'.length)
   (h:∀ (i j:Nat) r r' c d,rows[i]?=some r→rows'[i]?=some r'→r[j]?=some c→r'[j]?=some d→VR ρ c d):VR ρ (.eptr sz rows i0 off) (.eptr sz rows' i0 off)
 | cptr (k o sz i off:Nat) (h:ρ k=some o):VR ρ (.cptr k sz i off) (.cptr o sz i off)
 | msl (k o sz lo len:Nat) (h:ρ k=some o):VR ρ (.msl k sz lo len) (.msl o sz lo len)
 | func (fn:Fn):VR ρ (.func fn [] []) (.func fn [] [])
def LR (ρ:Ren) (cs ds:List AV):Prop:=cs.length=ds.length∧∀ (i:Nat) c d,cs[i]?=some c→ds[i]?=some d→VR ρ c d
def LLR (ρ:Ren) (rows rows':List (List AV)):Prop:=rows.length=rows'.length∧∀ (i:Nat) r r',rows[i]?=some r→rows'[i]?=some r'→LR ρ r r'
def RL0 (ρ ρ':Ren):Prop:=∀ k o,ρ k=some o→ρ' k=some o
def RLe (ρ ρ':Ren):Prop:=RL0 ρ ρ'∧ρ'.rs=ρ.rs∧∀ k,ρ.rs k=true→ρ' k=ρ k
theorem RL0.refl (ρ:Ren):RL0 ρ ρ:=fun _ _ h=>h
theorem RL0.trans {a b c:Ren} (h:RL0 a b) (k:RL0 b c):RL0 a c:=fun x o hx=>k x o (h x o hx)
theorem RLe.refl (ρ:Ren):RLe ρ ρ:=⟨fun _ _ h=>h,rfl,fun _ _=>rfl⟩
theorem RLe.trans {a b c:Ren} (h:RLe a b) (k:RLe b c):RLe a c:=⟨h.1.trans k.1,k.2.1.trans h.2.1,fun x hx=>(k.2.2 x (by rw [h.2.1]; exact hx)).trans (h.2.2 x hx)⟩
theorem VR.mono0 {ρ ρ':Ren} (hr:RL0 ρ ρ') {c d:AV} (h:VR ρ c d):VR ρ' c d:=by
 induction h with
 | int=>exact .int _ _
 | bool=>exact .bool _
 | str=>exact .str _
 | lit=>exact .lit _
 | agg cs ds hl _ ih=>exact .agg _ _ hl ih
 | tuple cs ds hl _ ih=>exact .tuple _ _ hl ih
 | view sz rows rows' t ht hl hl2 _ ih=>exact .view _ _ _ _ ht hl hl2 ih
 | eptr sz rows rows' i0 off hl hl2 _ ih=>exact .eptr _ _ _ _ _ hl hl2 ih
 | cptr k o sz i off h=>exact .cptr _ _ _ _ _ (hr _ _ h)
 | msl k o sz lo len h=>exact .msl _ _ _ _ _ (hr _ _ h)
 | func fn=>exact .func fn
theorem VR.mono {ρ ρ':Ren} (hr:RLe ρ ρ') {c d:AV} (h:VR ρ c d):VR ρ' c d:=h.mono0 hr.1
theorem LR.mono0 {ρ ρ':Ren} (hr:RL0 ρ ρ') {cs ds:List AV} (h:LR ρ cs ds):LR ρ' cs ds:=⟨h.1,fun i c d h1 h2=>(h.2 i c d h1 h2).mono0 hr⟩
theorem LR.mono {ρ ρ':Ren} (hr:RLe ρ ρ') {cs ds:List AV} (h:LR ρ cs ds):LR ρ' cs ds:=h.mono0 hr.1
theorem LLR.mono0 {ρ ρ':Ren} (hr:RL0 ρ ρ') {cs ds:List (List AV)} (h:LLR ρ cs ds):LLR ρ' cs ds:=⟨h.1,fun i c d h1 h2=>(h.2 i c d h1 h2).mono0 hr⟩
theorem LLR.mono {ρ ρ':Ren} (hr:RLe ρ ρ') {cs ds:List (List AV)} (h:LLR ρ cs ds):LLR ρ' cs ds:=h.mono0 hr.1
section
variable {ρ:Ren}
theorem VR.agg_of {cs ds:List AV} (h:LR ρ cs ds):VR ρ (.agg cs) (.agg ds):=.agg _ _ h.1 h.2
theorem VR.tuple_of {cs ds:List AV} (h:LR ρ cs ds):VR ρ (.tuple cs) (.tuple ds):=.tuple _ _ h.1 h.2
theorem VR.view_of {sz:Nat} {rows rows':List (List AV)} {t:Tok} (ht:∀ k e,t≠.own k e) (h:LLR ρ rows rows'):VR ρ (.view sz rows t) (.view sz rows' t) :=
 .view _ _ _ _ ht h.1 (fun i r r' h1 h2=>(h.2 i r r' h1 h2).1) (fun i j r r' c d h1 h2 h3 h4=>(h.2 i r r' h1 h2).2 j c d h3 h4)
theorem VR.one {c d:AV} (h:VR ρ c d):d.one=c.one:=by cases h <;> rfl
theorem LR.get {cs ds:List AV} (h:LR ρ cs ds) {i:Nat} {c:AV} (hc:cs[i]?=some c):∃ d,ds[i]?=some d∧VR ρ c d:=by
 have hi:i < ds.length:=h.1 ▸ (List.getElem?_eq_some_iff.1 hc).1
 exact ⟨_,List.getElem?_eq_getElem hi,h.2 i c _ hc (List.getElem?_eq_getElem hi)⟩
theorem LLR.get {cs ds:List (List AV)} (h:LLR ρ cs ds) {i:Nat} {c:List AV} (hc:cs[i]?=some c):∃ d,ds[i]?=some d∧LR ρ c d:=by
 have hi:i < ds.length:=h.1 ▸ (List.getElem?_eq_some_iff.1 hc).1
 exact ⟨_,List.getElem?_eq_getElem hi,h.2 i c _ hc (List.getElem?_eq_getElem hi)⟩
theorem LR.nil:LR ρ [] []:=⟨rfl,fun i c d h=>by simp at h⟩
theorem LR.cons {c d:AV} {cs ds:List AV} (h:VR ρ c d) (k:LR ρ cs ds):LR ρ (c::cs) (d::ds) :=
 ⟨by rw [List.length_cons,List.length_cons,k.1],fun i x y hx hy=>by
  cases i with
  | zero=>cases hx; cases hy; exact h
  | succ i=>exact k.2 i x y (by simpa using hx) (by simpa using hy)⟩
theorem LLR.nil:LLR ρ [] []:=⟨rfl,fun i c d h=>by simp at h⟩
theorem LLR.cons {c d:List AV} {cs ds:List (List AV)} (h:LR ρ c d) (k:LLR ρ cs ds):LLR ρ (c::cs) (d::ds) :=
 ⟨by rw [List.length_cons,List.length_cons,k.1],fun i x y hx hy=>by
  cases i with
  | zero=>cases hx; cases hy; exact h
  | succ i=>exact k.2 i x y (by simpa using hx) (by simpa using hy)⟩
theorem LR.take {cs ds:List AV} (h:LR ρ cs ds) (n:Nat):LR ρ (cs.take n) (ds.take n):=by
 refine ⟨by rw [List.length_take,List.length_take,h.1],fun i c d h1 h2=>?_⟩
 have hi:i < n:=by
  have:=(List.getElem?_eq_some_iff.1 h1).1
  rw [List.length_take] at this
  omega
 rw [List.getElem?_take_of_lt hi] at h1 h2
 exact h.2 i c d h1 h2
theorem LR.drop {cs ds:List AV} (h:LR ρ cs ds) (n:Nat):LR ρ (cs.drop n) (ds.drop n):=by
 refine ⟨by rw [List.length_drop,List.length_drop,h.1],fun i c d h1 h2=>?_⟩
 rw [List.getElem?_drop] at h1 h2
 exact h.2 _ c d h1 h2
theorem LR.append {a b c d:List AV} (h:LR ρ a b) (k:LR ρ c d):LR ρ (a++c) (b++d):=by
 refine ⟨by rw [List.length_append,List.length_append,h.1,k.1],fun i x y h1 h2=>?_⟩
 have hl:=h.1
 rcases Nat.lt_or_ge i a.length with hi|hi
 ·rw [List.getElem?_append_left hi] at h1
  rw [List.getElem?_append_left (by omega)] at h2
  exact h.2 i x y h1 h2
 ·rw [List.getElem?_append_right hi] at h1
  rw [List.getElem?_append_right (by omega),← hl] at h2
  exact k.2 _ x y h1 h2
theorem LLR.take {cs ds:List (List AV)} (h:LLR ρ cs ds) (n:Nat):LLR ρ (cs.take n) (ds.take n):=by
 refine ⟨by rw [List.length_take,List.length_take,h.1],fun i c d h1 h2=>?_⟩
 have hi:i < n:=by
  have:=(List.getElem?_eq_some_iff.1 h1).1
  rw [List.length_take] at this
  omega
 rw [List.getElem?_take_of_lt hi] at h1 h2
 exact h.2 i c d h1 h2
theorem LLR.drop {cs ds:List (List AV)} (h:LLR ρ cs ds) (n:Nat):LLR ρ (cs.drop n) (ds.drop n):=by
 refine ⟨by rw [List.length_drop,List.length_drop,h.1],fun i c d h1 h2=>?_⟩
 rw [List.getElem?_drop] at h1 h2
 exact h.2 _ c d h1 h2
theorem LLR.append {a b c d:List (List AV)} (h:LLR ρ a b) (k:LLR ρ c d):LLR ρ (a++c) (b++d):=by
 refine ⟨by rw [List.length_append,List.length_append,h.1,k.1],fun i x y h1 h2=>?_⟩
 have hl:=h.1
 rcases Nat.lt_or_ge i a.length with hi|hi
 ·rw [List.getElem?_append_left hi] at h1
  rw [List.getElem?_append_left (by omega)] at h2
  exact h.2 i x y h1 h2
 ·rw [List.getElem?_append_right hi] at h1
  rw [List.getElem?_append_right (by omega),← hl] at h2
  exact k.2 _ x y h1 h2
theorem LLR.set {a b:List (List AV)} (h:LLR ρ a b) (i:Nat) {r r':List AV} (k:LR ρ r r'):LLR ρ (a.set i r) (b.set i r'):=by
 refine ⟨by rw [List.length_set,List.length_set,h.1],fun j x y h1 h2=>?_⟩
 rw [List.getElem?_set] at h1 h2
 by_cases e:i=j
 ·subst e
  simp only [if_true] at h1 h2
  split at h1
  ·cases h1
   split at h2
   ·cases h2; exact k
   ·cases h2
  ·cases h1
 ·rw [if_neg e] at h1 h2
  exact h.2 j x y h1 h2
theorem LR.rowSet {row row' cs cs':List AV} (h:LR ρ row row') (off:Nat) (k:LR ρ cs cs'):LR ρ (rowSet row off cs) (rowSet row' off cs'):=by
 unfold AM.rowSet
 rw [k.1]
 exact ((h.take off).append k).append (h.drop _)
theorem VR.cells {c d:AV} (h:VR ρ c d):LR ρ c.cells d.cells:=by
 cases h with
 | agg cs ds hl hh=>exact ⟨hl,hh⟩
 | int=>exact .cons (.int _ _) .nil
 | bool=>exact .cons (.bool _) .nil
 | str=>exact .cons (.str _) .nil
 | lit=>exact .cons (.lit _) .nil
 | tuple cs ds hl hh=>exact .cons (.tuple _ _ hl hh) .nil
 | view sz rows rows' t ht hl hl2 hh=>exact .cons (.view _ _ _ _ ht hl hl2 hh) .nil
 | eptr sz rows rows' i0 off hl hl2 hh=>exact .cons (.eptr _ _ _ _ _ hl hl2 hh) .nil
 | cptr k o sz i off h=>exact .cons (.cptr _ _ _ _ _ h) .nil
 | msl k o sz lo len h=>exact .cons (.msl _ _ _ _ _ h) .nil
 | func fn=>exact .cons (.func fn) .nil
theorem VR.storable {c d:AV} (h:VR ρ c d):storable d=storable c:=by cases h <;> rfl
theorem LR.sel {row row':List AV} (h:LR ρ row row') {agg:Bool} {sz off:Nat} {v:AV} (hv:sel agg sz row off=some v):∃ u,sel agg sz row' off=some u∧VR ρ v u:=by
 unfold AM.sel at hv ⊢
 cases agg with
 | false=>exact h.get hv
 | true =>
  rw [cond_true] at hv ⊢
  rw [← h.1]
  cases hb:Nat.ble (off + sz) row.length with
  | false=>rw [hb] at hv; cases hv
  | true =>
   rw [hb] at hv
   cases hv
   exact ⟨_,rfl,.agg_of ((h.drop off).take sz)⟩

/-! What is known of the temporaries. -/
abbrev Gt:=Nat→Option AV
def updG (G:Gt) (d:Nat) (v:AV):Gt:=fun i=>if i=d then some v else G i
def updO (G:Gt):Option Nat→AV→Gt
 | none,_=>G
 | some d,v=>updG G d v
def TR (ρ:Ren) (G:Gt) (τ:Tmps):Prop:=∀ i c,G i=some c→∃ d,τ.get i=some d∧VR ρ c d
theorem TR.get {G:Gt} {τ:Tmps} (h:TR ρ G τ) {i:Nat} {c:AV} (hc:G i=some c):∃ d,τ.get i=some d∧VR ρ c d:=h i c hc
theorem TR.cons {G:Gt} {τ:Tmps} (h:TR ρ G τ) (d:Nat) {c e:AV} (hv:VR ρ c e):TR ρ (updG G d c) ((d,e)::τ):=by
 intro i c' hc
 unfold updG at hc
 rw [Tmps.get]
 by_cases hi:i=d
 ·rw [if_pos hi] at hc
  cases hc
  subst hi
  exact ⟨e,by rw [nbeq_self]; rfl,hv⟩
 ·rw [if_neg hi] at hc
  rw [nbeq_ne (Ne.symm hi)]
  exact h i c' hc
theorem TR.put {G:Gt} {τ:Tmps} (h:TR ρ G τ) (d:Option Tmp) {c e:AV} (hv:VR ρ c e):TR ρ (updO G d c) (τ.put d e):=by
 cases d with
 | none=>exact h
 | some d=>exact h.cons d hv
end
theorem TR.mono0 {ρ ρ':Ren} (hr:RL0 ρ ρ') {G:Gt} {τ:Tmps} (h:TR ρ G τ):TR ρ' G τ:=fun i c hc=>by
 obtain ⟨d,h1,h2⟩:=h i c hc
 exact ⟨d,h1,h2.mono0 hr⟩
theorem TR.mono {ρ ρ':Ren} (hr:RLe ρ ρ') {G:Gt} {τ:Tmps} (h:TR ρ G τ):TR ρ' G τ:=h.mono0 hr.1
def putT (t:Tr AV):Option Nat→AV→Tr AV
 | none,_=>t
 | some d,v=>Tr.put (d + 1) t d (some v)
theorem putT_get (t:Tr AV) (d:Option Nat) (v:AV):(putT t d v).get=updO t.get d v:=by
 funext i
 cases d with
 | none=>rfl
 | some d =>
  show (Tr.put (d + 1) t d (some v)).get i=if i=d then some v else t.get i
  exact Tr.get_put (d + 1) t d i (some v) Nat.lt_two_pow_self
end Go.AX
