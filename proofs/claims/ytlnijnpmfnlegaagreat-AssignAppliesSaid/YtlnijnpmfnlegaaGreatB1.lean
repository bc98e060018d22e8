/- The abstract values of the walk, the relation between them and the model's values in a world, and how it is kept as the world goes on. No conditions: definitions and lemmas only. -/
import Derived.WalkKit
import Derived.Laws.CopyRow
import Derived.Laws.AppendOwn
import Derived.Below
import Derived.Laws.Strings
import Derived.Laws.Tables
import Derived.Laws.Unary
import Derived.Laws.MakeOwn
import Derived.Orders
namespace Go.AM
open Go.RowKit (Below)

inductive Tok where
 | shared
 | nil
 | full
 | own (t:Nat) (e:TypeId)

inductive AV where
 | int (k:IntKind) (n:Int)
 | bool (b:Bool)
 | str (l:List UInt8)
 | lit (v:Value)
 | agg (cs:List AV)
 | tuple (vs:List AV)
 | view (sz:Nat) (rows:List (List AV)) (t:Tok)
 | eptr (sz:Nat) (rows:List (List AV)) (i off:Nat)
 | cptr (o sz i off:Nat)
 | msl (o sz lo len:Nat)
 | iter (o:Nat)
 | amap (o:Nat)
 | iface (t:TypeId) (v:AV)
 | func (fn:Fn) (first captured:List AV)

def AV.one:AV→Bool
 | .agg _|.tuple _=>false
 | .lit v=>v.oneCell'
 | _=>true

@[reducible] def AV.cells:AV→List AV
 | .agg cs=>cs
 | v=>[v]

structure G where
 base:Nat
 next:Nat
 imm:Nat→Nat→Prop
 obj:Nat→Option (Nat × Nat)
 tok:Nat→Option (Option Nat × Nat × Nat × TypeId × Nat)

def TokAt (g:G) (t:Tok) (b:Option Nat) (off len cap sz:Nat):Prop :=
 match t with
 | .shared=>True
 | .nil=>b=none
 | .full=>len=cap
 | .own k e=>off=0∧∃ sz',(b≠none→sz'=sz)∧g.tok k=some (b,len,cap,e,sz')

inductive R (g:G) (w:World):AV→Value→Prop
 | int (k:IntKind) (n:Int):R g w (.int k n) (.int k n)
 | bool (b:Bool):R g w (.bool b) (.bool b)
 | str (l:List UInt8):R g w (.str l) (.string ⟨⟨l⟩⟩)
 | lit (v:Value):R g w (.lit v) v
 | agg (cs:List AV) (vs:Array Value) (hl:cs.length=vs.size) (h1:∀ c ∈ cs,c.one=true)
   (h:∀ (i:Nat) c v,cs[i]?=some c→vs[i]?=some v→R g w c v):R g w (.agg cs) (.agg vs)
 | tuple (cs:List AV) (vs:Array Value) (hl:cs.length=vs.size)
   (h:∀ (i:Nat) c v,cs[i]?=some c→vs[i]?=some v→R g w c v):R g w (.tuple cs) (.tuple vs)
 | vnil (sz:Nat) (t:Tok) (ht:TokAt g t none 0 0 0 sz):R g w (.view sz [] t) (.slice none 0 0)
 | vemp (sz:Nat) (t:Tok) (a:Addr) (hn:t≠.nil) (ht:TokAt g t none 0 0 0 sz):R g w (.view sz [] t) (.slice (some a) 0 0)
 | view (sz:Nat) (rows:List (List AV)) (t:Tok) (b off cap:Nat) (f:Nat→Nat→Value) (hc:rows.length≤cap) (hm:cap≤maxLen)
   (hsz:∀ row ∈ rows,row.length=sz) (h1:∀ row ∈ rows,∀ c ∈ row,c.one=true) (ht:TokAt g t (some b) off rows.length cap sz)
   (himm:∀ i j,i < rows.length→j < sz→g.imm b (off + (i * sz + j))∧w.cell? ⟨b,off + (i * sz + j),none⟩=some (f i j))
   (h:∀ (i j:Nat) row c,rows[i]?=some row→row[j]?=some c→R g w c (f i j)) :
   R g w (.view sz rows t) (.slice (some ⟨b,off,none⟩) rows.length cap)
 | eptr (sz:Nat) (rows:List (List AV)) (i0 o:Nat) (b off:Nat) (f:Nat→Nat→Value)
   (hsz:∀ row ∈ rows,row.length=sz) (h1:∀ row ∈ rows,∀ c ∈ row,c.one=true)
   (himm:∀ i j,i < rows.length→j < sz→g.imm b (off + (i * sz + j))∧w.cell? ⟨b,off + (i * sz + j),none⟩=some (f i j))
   (h:∀ (i j:Nat) row c,rows[i]?=some row→row[j]?=some c→R g w c (f i j)) :
   R g w (.eptr sz rows i0 o) (.pointer (some ⟨b,off + (i0 * sz + o),none⟩))
 | cptr (o sz i off b m:Nat) (hb:g.obj o=some (b,m)):R g w (.cptr o sz i off) (.pointer (some ⟨b,i * sz + off,none⟩))
 | msl (o sz lo len cap b m:Nat) (hb:g.obj o=some (b,m)) (hc:len≤cap) (hm:cap≤maxLen) (hs:(lo + cap) * sz≤m):R g w (.msl o sz lo len) (.slice (some ⟨b,lo * sz,none⟩) len cap)
 | iter (o b m:Nat) (hb:g.obj o=some (b,m)):R g w (.iter o) (.pointer (some ⟨b,0,none⟩))
 | amap (o b m:Nat) (hb:g.obj o=some (b,m)):R g w (.amap o) (.map (some b))
 | iface (t:TypeId) (a:AV) (v:Value) (h:R g w a v):R g w (.iface t a) (.iface t v)
 | func (fn:Fn) (cs ds:List AV) (vs us:Array Value) (hl:cs.length=vs.size) (hl':ds.length=us.size)
   (h:∀ (i:Nat) c v,cs[i]?=some c→vs[i]?=some v→R g w c v)
   (h':∀ (i:Nat) c v,ds[i]?=some c→us[i]?=some v→R g w c v):R g w (.func fn cs ds) (.func fn vs us)

structure Ext (g:G) (w:World) (g':G) (w':World):Prop where
 base:g'.base=g.base
 next:g.next≤g'.next
 imm:∀ b i,g.imm b i→g'.imm b i
 cell:∀ b i,g.imm b i→w'.cell? ⟨b,i,none⟩=w.cell? ⟨b,i,none⟩
 obj:∀ o b,g.obj o=some b→g'.obj o=some b
 tok:∀ t r,g.tok t=some r→g'.tok t=some r
 below:Below g.base w w'
 old:∀ b i,b < g.base→g'.imm b i→g.imm b i

theorem Ext.refl (g:G) (w:World):Ext g w g w:=⟨rfl,Nat.le_refl _,fun _ _ h=>h,fun _ _ _=>rfl,fun _ _ h=>h,fun _ _ h=>h,Below.refl _ _,fun _ _ _ h=>h⟩

theorem Ext.trans {g g1 g2:G} {w w1 w2:World} (h:Ext g w g1 w1) (k:Ext g1 w1 g2 w2):Ext g w g2 w2 where
 base:=k.base.trans h.base
 next:=Nat.le_trans h.next k.next
 imm:=fun b i hi=>k.imm b i (h.imm b i hi)
 cell:=fun b i hi=>(k.cell b i (h.imm b i hi)).trans (h.cell b i hi)
 obj:=fun o b hb=>k.obj o b (h.obj o b hb)
 tok:=fun t r hr=>k.tok t r (h.tok t r hr)
 below:=h.below.trans (h.base ▸ k.below)
 old:=fun b i hb hi=>h.old b i hb (k.old b i (h.base.symm ▸ hb) hi)

theorem TokAt.ext {g g':G} {w w':World} {t:Tok} {b:Option Nat} {off len cap sz:Nat} (h:TokAt g t b off len cap sz) (e:Ext g w g' w'):TokAt g' t b off len cap sz:=by
 cases t with
 | shared=>trivial
 | nil=>exact h
 | full=>exact h
 | own k ty=>obtain ⟨h1,sz',h2,h3⟩:=h; exact ⟨h1,sz',h2,e.tok _ _ h3⟩

theorem R.ext {g g':G} {w w':World} {a:AV} {v:Value} (h:R g w a v) (e:Ext g w g' w'):R g' w' a v:=by
 induction h with
 | int=>exact .int _ _
 | bool=>exact .bool _
 | str=>exact .str _
 | lit=>exact .lit _
 | agg cs vs hl h1 _ ih=>exact .agg _ _ hl h1 ih
 | tuple cs vs hl _ ih=>exact .tuple _ _ hl ih
 | vnil sz t ht=>exact .vnil _ _ (ht.ext e)
 | vemp sz t a hn ht=>exact .vemp _ _ _ hn (ht.ext e)
 | view sz rows t b off cap f hc hm hsz h1 ht himm _ ih =>
  exact .view sz rows t b off cap f hc hm hsz h1 (ht.ext e) (fun i j hi hj=>⟨e.imm _ _ (himm i j hi hj).1,(e.cell _ _ (himm i j hi hj).1).trans (himm i j hi hj).2⟩) ih
 | eptr sz rows i0 o b off f hsz h1 himm _ ih =>
  exact .eptr sz rows i0 o b off f hsz h1 (fun i j hi hj=>⟨e.imm _ _ (himm i j hi hj).1,(e.cell _ _ (himm i j hi hj).1).trans (himm i j hi hj).2⟩) ih
 | cptr o sz i off b m hb=>exact .cptr _ _ _ _ _ _ (e.obj _ _ hb)
 | msl o sz lo len cap b m hb hc hm hs=>exact .msl _ _ _ _ _ _ _ (e.obj _ _ hb) hc hm hs
 | iter o b m hb=>exact .iter _ _ _ (e.obj _ _ hb)
 | amap o b m hb=>exact .amap _ _ _ (e.obj _ _ hb)
 | iface t a v _ ih=>exact .iface _ _ _ ih
 | func fn cs ds vs us hl hl' _ _ ih ih'=>exact .func _ _ _ _ _ hl hl' ih ih'

theorem R.one {g:G} {w:World} {a:AV} {v:Value} (h:R g w a v) (h1:a.one=true):v.oneCell'=true:=by
 cases h <;> first|rfl|exact h1|(simp [AV.one] at h1)

theorem R.cells {g:G} {w:World} {a:AV} {v:Value} (h:R g w a v) (hn:∀ x,a≠.lit x):a.cells.length=v.cells.size∧(∀ (i:Nat) c u,a.cells[i]?=some c→v.cells[i]?=some u→R g w c u):=by
 have one:∀ {a:AV} {v:Value},R g w a v→a.cells=[a]→v.cells=#[v]→a.cells.length=v.cells.size∧(∀ (i:Nat) c u,a.cells[i]?=some c→v.cells[i]?=some u→R g w c u):=by
  intro a v h ha hv
  rw [ha,hv]
  refine ⟨rfl,fun i c u h1 h2=>?_⟩
  cases i with
  | zero=>simp at h1 h2; subst h1; subst h2; exact h
  | succ i=>simp at h1
 cases h with
 | lit v=>exact absurd rfl (hn v)
 | agg cs vs hl h1 hh=>exact ⟨hl,hh⟩
 | int k n=>exact one (.int k n) rfl rfl
 | bool b=>exact one (.bool b) rfl rfl
 | str l=>exact one (.str l) rfl rfl
 | tuple cs vs hl hh=>exact one (.tuple cs vs hl hh) rfl rfl
 | vnil sz t ht=>exact one (.vnil sz t ht) rfl rfl
 | vemp sz t a hn' ht=>exact one (.vemp sz t a hn' ht) rfl rfl
 | view sz rows t b off cap f hc hm hsz h1 ht himm hh=>exact one (.view sz rows t b off cap f hc hm hsz h1 ht himm hh) rfl rfl
 | eptr sz rows i0 o b off f hsz h1 himm hh=>exact one (.eptr sz rows i0 o b off f hsz h1 himm hh) rfl rfl
 | cptr o sz i off b m hb=>exact one (.cptr o sz i off b m hb) rfl rfl
 | msl o sz lo len cap b m hb hc hm hs=>exact one (.msl o sz lo len cap b m hb hc hm hs) rfl rfl
 | iter o b m hb=>exact one (.iter o b m hb) rfl rfl
 | amap o b m hb=>exact one (.amap o b m hb) rfl rfl
 | iface t a v hh=>exact one (.iface t a v hh) rfl rfl
 | func fn cs ds vs us hl hl' hh hh'=>exact one (.func fn cs ds vs us hl hl' hh hh') rfl rfl

/-! ### Weakening -/

inductive Le:AV→AV→Prop
 | refl (v:AV):Le v v
 | shared (sz:Nat) (rows:List (List AV)) (t:Tok):Le (.view sz rows t) (.view sz rows .shared)
 | nil (sz sz':Nat):Le (.view sz [] .nil) (.view sz' [] .nil)
 | nilShared (sz sz':Nat):Le (.view sz [] .nil) (.view sz' [] .shared)
 | agg (cs cs':List AV) (hl:cs.length=cs'.length) (h1:∀ c ∈ cs',c.one=true) (h:∀ (i:Nat) c c',cs[i]?=some c→cs'[i]?=some c'→Le c c'):Le (.agg cs) (.agg cs')
 | tuple (cs cs':List AV) (hl:cs.length=cs'.length) (h:∀ (i:Nat) c c',cs[i]?=some c→cs'[i]?=some c'→Le c c'):Le (.tuple cs) (.tuple cs')
 | iface (t:TypeId) (a a':AV) (h:Le a a'):Le (.iface t a) (.iface t a')
 | view (sz:Nat) (rows rows':List (List AV)) (t:Tok) (hl:rows.length=rows'.length) (h1:∀ row ∈ rows',∀ c ∈ row,c.one=true)
   (hl2:∀ (i:Nat) row row',rows[i]?=some row→rows'[i]?=some row'→row.length=row'.length)
   (h:∀ (i j:Nat) row row' c c',rows[i]?=some row→rows'[i]?=some row'→row[j]?=some c→row'[j]?=some c'→Le c c'):Le (.view sz rows t) (.view sz rows' t)
 | trans (a b c:AV) (h:Le a b) (k:Le b c):Le a c

theorem R.le {g:G} {w:World} {a a':AV} (hle:Le a a'):∀ {v:Value},R g w a v→R g w a' v:=by
 induction hle with
 | refl v=>exact fun h=>h
 | shared sz rows t =>
  intro v h
  cases h with
  | vnil _ _ ht=>exact .vnil _ _ trivial
  | vemp=>exact .vemp _ _ _ (fun h=>by cases h) trivial
  | view _ _ _ b off cap f hc hm hsz h1 ht himm hh=>exact .view _ _ _ b off cap f hc hm hsz h1 trivial himm hh
 | nil sz sz' =>
  intro v h
  cases h with
  | vnil _ _ ht=>exact .vnil _ _ rfl
  | vemp _ _ _ hn _=>exact absurd rfl hn
  | view _ _ _ b off cap f hc hm hsz h1 ht himm hh=>simp [TokAt] at ht
 | nilShared sz sz' =>
  intro v h
  cases h with
  | vnil _ _ ht=>exact .vnil _ _ trivial
  | vemp _ _ _ hn _=>exact absurd rfl hn
  | view _ _ _ b off cap f hc hm hsz h1 ht himm hh=>simp [TokAt] at ht
 | agg cs cs' hl h1 _ ih =>
  intro v h
  cases h with
  | agg _ vs hl' _ hh =>
   refine .agg _ vs (hl ▸ hl') h1 fun i c' v hc' hv=>?_
   have:i < cs.length:=by rw [hl]; exact (List.getElem?_eq_some_iff.1 hc').1
   exact ih i _ _ (List.getElem?_eq_getElem this) hc' (hh i _ v (List.getElem?_eq_getElem this) hv)
 | tuple cs cs' hl _ ih =>
  intro v h
  cases h with
  | tuple _ vs hl' hh =>
   refine .tuple _ vs (hl ▸ hl') fun i c' v hc' hv=>?_
   have:i < cs.length:=by rw [hl]; exact (List.getElem?_eq_some_iff.1 hc').1
   exact ih i _ _ (List.getElem?_eq_getElem this) hc' (hh i _ v (List.getElem?_eq_getElem this) hv)
 | iface t a a' _ ih =>
  intro v h
  cases h with
  | iface _ _ v hh=>exact .iface _ _ _ (ih hh)
 | view sz rows rows' t hl h1 hl2 _ ih =>
  intro v h
  cases h with
  | vnil _ _ ht =>
   have:rows'=[]:=List.eq_nil_of_length_eq_zero (by simpa using hl.symm)
   subst this
   exact .vnil _ _ ht
  | vemp _ _ ad hn ht =>
   have:rows'=[]:=List.eq_nil_of_length_eq_zero (by simpa using hl.symm)
   subst this
   exact .vemp _ _ _ hn ht
  | view _ _ _ b off cap f hc hm hsz _ ht himm hh =>
   have e:rows.length=rows'.length:=hl
   rw [e]
   refine .view sz rows' t b off cap f (e ▸ hc) hm ?_ h1 (e ▸ ht) (fun i j hi hj=>himm i j (e ▸ hi) hj) ?_
   ·intro row' hrow'
    obtain ⟨i,hi,rfl⟩:=List.getElem_of_mem hrow'
    have hlt:i < rows.length:=by omega
    rw [← hl2 i rows[i] rows'[i] (List.getElem?_eq_getElem hlt) (List.getElem?_eq_getElem hi)]
    exact hsz _ (List.getElem_mem hlt)
   ·intro i j row' c' hr hc'
    have hi:i < rows'.length:=(List.getElem?_eq_some_iff.1 hr).1
    have hlt:i < rows.length:=by omega
    have hj:j < row'.length:=(List.getElem?_eq_some_iff.1 hc').1
    have hjl:j < rows[i].length:=by rw [hl2 i rows[i] row' (List.getElem?_eq_getElem hlt) hr]; exact hj
    exact ih i j _ _ _ _ (List.getElem?_eq_getElem hlt) hr (List.getElem?_eq_getElem hjl) hc' (hh i j _ _ (List.getElem?_eq_getElem hlt) (List.getElem?_eq_getElem hjl))
 | trans a b c _ _ ih ih'=>exact fun h=>ih' (ih h)

end Go.AM
namespace Go.AM
open Go.RowKit (Below)

inductive AObj where
 | cells (ty:TypeId) (sz:Nat) (rows:List (List AV))
 | iter (s:List UInt8) (pos:Nat)
 | smap (es:List (List UInt8 × AV))
 | imap (k:IntKind) (es:List (Int × AV))

structure St where
 obj:Nat→Option AObj
 tok:Nat→Bool
 glob:List (Nat × List AV)

def St.set (st:St) (o:Nat) (c:AObj):St:={ st with obj:=fun p=>if p=o then some c else st.obj p }
def St.drop (st:St) (o:Nat):St:={ st with obj:=fun p=>if p=o then none else st.obj p }
def St.untok (st:St) (t:Nat):St:={ st with tok:=fun p=>if p=t then false else st.tok p }
def St.addTok (st:St) (t:Nat):St:={ st with tok:=fun p=>if p=t then true else st.tok p }

def ObjAt (g:G) (w:World) (b m:Nat):AObj→Prop
 | .cells ty sz rows=>∃ arr,w.heap[b]?=some (.cells arr ty (0,0))∧arr.size=m∧rows.length * sz≤m∧(∀ row ∈ rows,row.length=sz)∧(∀ row ∈ rows,∀ c ∈ row,c.one=true) ∧
   ∀ (i j:Nat) row c,rows[i]?=some row→row[j]?=some c→∃ v,arr[i * sz + j]?=some v∧R g w c v
 | .iter s pos=>w.heap[b]?=some (.stringIter ⟨⟨s⟩⟩ pos)
 | .smap es=>∃ (ents:Array MapEntry) (clock:Nat),w.heap[b]?=some (.map ents clock)∧ents.size=es.length∧(∀ (i:Nat) e,ents[i]?=some e→e.born < clock) ∧
   ∀ (i:Nat) e k a,ents[i]?=some e→es[i]?=some (k,a)→e.key=.string ⟨⟨k⟩⟩∧R g w a e.val
 | .imap kk es=>∃ (ents:Array MapEntry) (clock:Nat),w.heap[b]?=some (.map ents clock)∧ents.size=es.length∧(∀ (i:Nat) e,ents[i]?=some e→e.born < clock) ∧
   ∀ (i:Nat) e k a,ents[i]?=some e→es[i]?=some (k,a)→e.key=.int kk k∧R g w a e.val

def TokHeld (g:G) (w:World):Option Nat × Nat × Nat × TypeId × Nat→Prop
 | (some b,len,cap,e,size)=>g.base≤b∧0 < size∧len≤cap∧cap≤maxLen∧(∃ cur,w.heap[b]?=some (.cells cur e (0,0))∧cur.size=cap * size)∧(∀ i,len * size≤i→¬ g.imm b i)
 | (none,len,cap,_,_)=>len=0∧cap=0

structure GlobAt (g:G) (w:World) (gi:Nat) (row:List AV):Prop where
 rel:R g w (.eptr row.length [row] 0 0) (.pointer (some ⟨gi,0,none⟩))
 old:gi < g.base
 arr:∃ cs ty fr,w.heap[gi]?=some (.cells cs ty fr)∧cs.size=row.length
theorem GlobAt.ext {g g':G} {w w':World} {gi:Nat} {row:List AV} (h:GlobAt g w gi row) (e:Ext g w g' w'):GlobAt g' w' gi row:=by
 obtain ⟨cs,ty,fr,h1,h2⟩:=h.arr
 exact ⟨h.rel.ext e,by rw [e.base]; exact h.old,cs,ty,fr,(e.below.block gi h.old).trans h1,h2⟩
structure Sim (g:G) (w:World) (st:St):Prop where
 base:g.base≤w.heap.size
 objs:∀ o c,st.obj o=some c→∃ b m,g.obj o=some (b,m)∧g.base≤b∧ObjAt g w b m c∧∀ i,¬ g.imm b i
 inj:∀ o o' c c' b m m',st.obj o=some c→st.obj o'=some c'→g.obj o=some (b,m)→g.obj o'=some (b,m')→o=o'
 toks:∀ t,st.tok t=true→∃ r,g.tok t=some r∧TokHeld g w r
 tobj:∀ t o c b r m,st.tok t=true→st.obj o=some c→g.tok t=some (some b,r)→g.obj o≠some (b,m)
 tinj:∀ t t' b r r',st.tok t=true→st.tok t'=true→g.tok t=some (some b,r)→g.tok t'=some (some b,r')→t=t'
 immlt:∀ b i,g.imm b i→b < w.heap.size
 objlt:∀ o b m,g.obj o=some (b,m)→b < w.heap.size
 toklt:∀ t b r,g.tok t=some (some b,r)→b < w.heap.size
 fresh:∀ n,g.next≤n→g.obj n=none∧g.tok n=none
 globs:∀ gi row,(gi,row) ∈ st.glob→GlobAt g w gi row

theorem Sim.tokOf {g:G} {w:World} {st:St} (h:Sim g w st) {t:Nat} {r} (ht:st.tok t=true) (hr:g.tok t=some r):TokHeld g w r:=by
 obtain ⟨r',h1,h2⟩:=h.toks t ht
 rw [hr] at h1
 cases h1
 exact h2

theorem Sim.objOf {g:G} {w:World} {st:St} (h:Sim g w st) {o:Nat} {c:AObj} {b m:Nat} (hc:st.obj o=some c) (hb:g.obj o=some (b,m)):g.base≤b∧ObjAt g w b m c∧∀ i,¬ g.imm b i:=by
 obtain ⟨b',m',h1,h2⟩:=h.objs o c hc
 rw [hb] at h1
 cases h1
 exact h2

theorem Sim.st_lt {g:G} {w:World} {st:St} (h:Sim g w st) {o:Nat} {c:AObj} (hc:st.obj o=some c):o < g.next:=by
 obtain ⟨b,m,hb,_⟩:=h.objs o c hc
 rcases Nat.lt_or_ge o g.next with h'|h'
 ·exact h'
 ·rw [(h.fresh o h').1] at hb; cases hb

theorem Sim.tok_lt {g:G} {w:World} {st:St} (h:Sim g w st) {t:Nat} (ht:st.tok t=true):t < g.next:=by
 obtain ⟨r,hr,_⟩:=h.toks t ht
 rcases Nat.lt_or_ge t g.next with h'|h'
 ·exact h'
 ·rw [(h.fresh t h').2] at hr; cases hr

theorem ObjAt.mono {g g':G} {w w':World} {b m:Nat} {c:AObj} (h:ObjAt g w b m c) (e:Ext g w g' w') (hb:w'.heap[b]?=w.heap[b]?):ObjAt g' w' b m c:=by
 cases c with
 | cells ty sz rows =>
  obtain ⟨arr,h1,h2,h2',h3,h4,h5⟩:=h
  exact ⟨arr,hb.trans h1,h2,h2',h3,h4,fun i j row c hr hc=>let ⟨v,hv,hR⟩:=h5 i j row c hr hc; ⟨v,hv,hR.ext e⟩⟩
 | iter s pos=>exact hb.trans h
 | smap es =>
  obtain ⟨ents,clock,h1,h2,h3,h4⟩:=h
  exact ⟨ents,clock,hb.trans h1,h2,h3,fun i e' k a he hk=>⟨(h4 i e' k a he hk).1,(h4 i e' k a he hk).2.ext e⟩⟩
 | imap kk es =>
  obtain ⟨ents,clock,h1,h2,h3,h4⟩:=h
  exact ⟨ents,clock,hb.trans h1,h2,h3,fun i e' k a he hk=>⟨(h4 i e' k a he hk).1,(h4 i e' k a he hk).2.ext e⟩⟩

structure StLe (st st':St):Prop where
 obj:∀ o c,st'.obj o=some c→st.obj o=some c
 tok:∀ t,st'.tok t=true→st.tok t=true
 glob:st'.glob=st.glob

theorem StLe.refl (st:St):StLe st st:=⟨fun _ _ h=>h,fun _ h=>h,rfl⟩
theorem StLe.trans {a b c:St} (h:StLe a b) (k:StLe b c):StLe a c:=⟨fun o c hc=>h.obj o c (k.obj o c hc),fun t ht=>h.tok t (k.tok t ht),k.glob.trans h.glob⟩

theorem Sim.le {g:G} {w:World} {st st':St} (h:Sim g w st) (l:StLe st st'):Sim g w st' where
 base:=h.base
 objs:=fun o c hc=>h.objs o c (l.obj o c hc)
 inj:=fun o o' c c' b m m' hc hc'=>h.inj o o' c c' b m m' (l.obj _ _ hc) (l.obj _ _ hc')
 toks:=fun t ht=>h.toks t (l.tok t ht)
 tobj:=fun t o c b r m ht hc=>h.tobj t o c b r m (l.tok t ht) (l.obj _ _ hc)
 tinj:=fun t t' b r r' ht ht'=>h.tinj t t' b r r' (l.tok t ht) (l.tok t' ht')
 immlt:=h.immlt
 objlt:=h.objlt
 toklt:=h.toklt
 fresh:=h.fresh
 globs:=fun gi row hp=>h.globs gi row (l.glob ▸ hp)

/-! ### What is known of the temporaries -/

abbrev Tmps:=List (Nat × AV)

def Tmps.get:Tmps→Nat→Option AV
 | [],_=>none
 | (j,v)::r,i=>bif Nat.beq j i then some v else Tmps.get r i

def Tmps.put (T:Tmps) (d:Option Tmp) (v:AV):Tmps :=
 match d with
 | some d=>(d,v)::T
 | none=>T

def Known (g:G) (w:World) (T:Tmps) (a:Act):Prop:=∀ i v,T.get i=some v→∃ rv,a.tmps[i]?=some rv∧R g w v rv

theorem Known.ext {g g':G} {w w':World} {T:Tmps} {a:Act} (h:Known g w T a) (e:Ext g w g' w'):Known g' w' T a :=
 fun i v hv=>let ⟨rv,h1,h2⟩:=h i v hv; ⟨rv,h1,h2.ext e⟩

theorem nbeq_self (i:Nat):Nat.beq i i=true:=Nat.beq_refl i
theorem nbeq_ne {i j:Nat} (h:i≠j):Nat.beq i j=false:=by
 cases h':Nat.beq i j
 ·rfl
 ·exact absurd (Nat.eq_of_beq_eq_true h') h

theorem Tmps.get_cons (j:Nat) (v:AV) (r:Tmps) (i:Nat):Tmps.get ((j,v)::r) i=if j=i then some v else Tmps.get r i:=by
 by_cases h:j=i
 ·subst h; simp [Tmps.get]
 ·rw [Tmps.get,nbeq_ne h,cond_false,if_neg h]

theorem Known.put {g:G} {w:World} {T:Tmps} {a:Act} (h:Known g w T a) {d:Option Tmp} {v:AV} {rv:Value} (hd:∀ t,d=some t→t < a.tmps.size) (hR:R g w v rv):Known g w (T.put d v) (a.put d rv):=by
 cases d with
 | none=>exact h
 | some d =>
  intro i u hu
  simp only [Tmps.put,Tmps.get_cons] at hu
  simp only [Act.put,Array.getElem?_setIfInBounds]
  by_cases hi:d=i
  ·subst hi
   simp only [↓reduceIte,Option.some.injEq] at hu ⊢
   subst hu
   exact ⟨rv,by simp [hd d rfl],hR⟩
  ·simp only [hi,if_false] at hu ⊢
   exact h i u hu

theorem Act.size_put (a:Act) (d:Option Tmp) (v:Value):(a.put d v).tmps.size=a.tmps.size:=by cases d <;> simp [Act.put]
theorem Act.defers_put (a:Act) (d:Option Tmp) (v:Value):(a.put d v).defers=a.defers:=by cases d <;> rfl

def TLe (T T':Tmps):Prop:=∀ i v',T'.get i=some v'→∃ v,T.get i=some v∧Le v v'

theorem TLe.nil (T:Tmps):TLe T []:=fun _ _ h=>by cases h
theorem TLe.cons {T T':Tmps} {i:Nat} {v v':AV} (h:T.get i=some v) (hle:Le v v') (ht:TLe T T'):TLe T ((i,v')::T'):=by
 intro j u hu
 rw [Tmps.get_cons] at hu
 by_cases hi:i=j
 ·subst hi; simp at hu; subst hu; exact ⟨v,h,hle⟩
 ·rw [if_neg hi] at hu; exact ht j u hu
theorem TLe.cons' {T T':Tmps} {i:Nat} {v:AV} (h:T.get i=some v) (ht:TLe T T'):TLe T ((i,v)::T'):=TLe.cons h (.refl _) ht
theorem TLe.refl (T:Tmps):TLe T T:=fun _ v h=>⟨v,h,.refl _⟩

theorem Known.le {g:G} {w:World} {T T':Tmps} {a:Act} (h:Known g w T a) (l:TLe T T'):Known g w T' a:=fun i v' hv' =>
 let ⟨v,hv,hle⟩:=l i v' hv'
 let ⟨rv,h1,h2⟩:=h i v hv
 ⟨rv,h1,h2.le hle⟩

/-! ### The abstract triple -/

inductive AExit where
 | exit (id:Nat)
 | ret
 | panic (v:AV)

abbrev Post:=Tmps→St→Prop
abbrev EPost:=AExit→Tmps→St→Prop

def Leaves (K:Post) (E:EPost) (g:G) (w:World) (T:Tmps) (st:St):Exit→Prop
 | .normal=>K T st
 | .exit id=>E (.exit id) T st
 | .ret=>E .ret T st
 | .panic ch=>∃ pv v,ch=[{ v:=v,recovered:=false }]∧R g w pv v∧E (.panic pv) T st
 | _=>False

def QOf (n:Nat) (ds:List Deferred) (g:G) (w:World) (K:Post) (E:EPost) (e:Exit) (a':Act) (w':World):Prop :=
 a'.tmps.size=n∧a'.defers=ds∧∃ g' T' st',Ext g w g' w'∧Sim g' w' st'∧Known g' w' T' a'∧Leaves K E g' w' T' st' e

def AWP (P:Program) (n:Nat) (c:Code) (K:Post) (E:EPost) (T:Tmps) (st:St):Prop :=
 ∀ g w a,Sim g w st→Known g w T a→a.tmps.size=n→c.wp P (QOf n a.defers g w K E) a w

def AOps (P:Program) (n:Nat) (ops:Array Oper) (rest:List Oper) (K:Post) (E:EPost) (T:Tmps) (st:St):Prop :=
 ∀ g w a,Sim g w st→Known g w T a→a.tmps.size=n→wpList P ops (QOf n a.defers g w K E) rest a w

theorem QOf.ext {n:Nat} {ds:List Deferred} {g g1:G} {w w1:World} {K:Post} {E:EPost} (e1:Ext g w g1 w1) {e:Exit} {a:Act} {w':World} (h:QOf n ds g1 w1 K E e a w'):QOf n ds g w K E e a w':=by
 obtain ⟨h1,h2,g',T',st',h3,h4⟩:=h
 exact ⟨h1,h2,g',T',st',e1.trans h3,h4⟩

theorem LetsOut.not_QOf {n:Nat} {ds:List Deferred} {g:G} {w:World} {K:Post} {E:EPost}:¬ LetsOut (QOf n ds g w K E):=by
 rintro ⟨a,w',_,_,g',T',st',_,_,_,h⟩
 exact h

theorem wpList_mono {P:Program} {ops:Array Oper} {Q Q':Exit→Act→World→Prop} (hq:∀ e a w,Q e a w→Q' e a w):∀ (rest:List Oper) (a:Act) (w:World),wpList P ops Q rest a w→wpList P ops Q' rest a w
 | [],a,w,h=>hq _ _ _ h
 | o::rest,a,w,h=>by
  unfold wpList at h ⊢
  split
  ·rename_i hw
   rw [if_pos hw] at h
   refine h.imp (fun h=>?_) (fun ⟨h1,a,w,h2⟩=>⟨h1,a,w,hq _ _ _ h2⟩)
   unfold Oper.wp at h ⊢
   generalize (execOp a.eval o).run P w=r at h
   cases r with
   | ok x w' =>
    cases x <;> simp only [Oper.upon] at h ⊢
    case enter f args =>
     refine h.mono fun e w'' he=>?_
     cases e with
     | returned v=>exact wpList_mono hq rest _ _ he
     | panicked ch=>exact hq _ _ _ he
     | outgrown=>obtain ⟨a,w,h2⟩:=he; exact ⟨a,w,hq _ _ _ h2⟩
    case row=>exact h.mono fun v w'' hv=>wpList_mono hq rest _ _ hv
    all_goals exact wpList_mono hq rest _ _ h
   | halt x w'=>cases x <;> simp only [Oper.upon] at h ⊢ <;> first|exact hq _ _ _ h|exact h
  ·rename_i hw
   rw [if_neg hw] at h
   exact wpList_mono hq rest _ _ h

/-! ### Rules of control -/

section
variable {P:Program} {n:Nat} {K:Post} {E:EPost} {T:Tmps} {st:St}

theorem AWP.mono {c:Code} {K':Post} {E':EPost} (h:AWP P n c K E T st) (hk:∀ T st,K T st→K' T st) (he:∀ e T st,E e T st→E' e T st):AWP P n c K' E' T st:=by
 intro g w a hs hk' hn
 refine Code.wp_mono (fun e a' w' hq=>?_) (h g w a hs hk' hn)
 obtain ⟨h1,h2,g',T',st',h3,h4,h5,h6⟩:=hq
 refine ⟨h1,h2,g',T',st',h3,h4,h5,?_⟩
 cases e with
 | normal=>exact hk _ _ h6
 | exit id=>exact he _ _ _ h6
 | ret=>exact he _ _ _ h6
 | panic ch=>obtain ⟨pv,v,x1,x2,x3⟩:=h6; exact ⟨pv,v,x1,x2,he _ _ _ x3⟩
 | goto l=>exact h6
 | outgrown=>exact h6

theorem AWP.weaken {c:Code} {T':Tmps} {st':St} (ht:TLe T T') (hst:StLe st st') (h:AWP P n c K E T' st'):AWP P n c K E T st :=
 fun g w a hs hk hn=>h g w a (hs.le hst) (hk.le ht) hn

theorem AWP.skip (h:K T st):AWP P n .skip K E T st:=fun g _ _ hs hk hn=>wp_skip ⟨hn,rfl,g,T,st,.refl _ _,hs,hk,h⟩
theorem AWP.label {l:Nat} (h:K T st):AWP P n (.label l) K E T st:=fun g _ _ hs hk hn=>wp_label ⟨hn,rfl,g,T,st,.refl _ _,hs,hk,h⟩
theorem AWP.exit {id:Nat} (h:E (.exit id) T st):AWP P n (.exit id) K E T st:=fun g _ _ hs hk hn=>wp_exit ⟨hn,rfl,g,T,st,.refl _ _,hs,hk,h⟩
theorem AWP.ret (h:E .ret T st):AWP P n .ret K E T st:=fun g _ _ hs hk hn=>wp_ret ⟨hn,rfl,g,T,st,.refl _ _,hs,hk,h⟩

theorem AWP.seq {x y:Code} (h:AWP P n x (AWP P n y K E) E T st):AWP P n (.seq x y) K E T st:=by
 intro g w a hs hk hn
 refine wp_seq (Code.wp_mono (fun e a' w' hq=>?_) (h g w a hs hk hn))
 obtain ⟨h1,h2,g',T',st',h3,h4,h5,h6⟩:=hq
 cases e with
 | normal=>exact h2 ▸ Code.wp_mono (fun _ _ _ q=>QOf.ext h3 q) (h6 g' w' a' h4 h5 h1)
 | exit id=>exact ⟨h1,h2,g',T',st',h3,h4,h5,h6⟩
 | ret=>exact ⟨h1,h2,g',T',st',h3,h4,h5,h6⟩
 | panic ch=>exact ⟨h1,h2,g',T',st',h3,h4,h5,h6⟩
 | goto l=>exact h6.elim
 | outgrown=>exact h6.elim

def blk (id:Nat) (K:Post) (E:EPost):EPost:=fun e T st =>
 match e with
 | .exit i=>bif Nat.beq i id then K T st else E e T st
 | _=>E e T st

theorem AWP.block {id:Nat} {c:Code} (h:AWP P n c K (blk id K E) T st):AWP P n (.block id c) K E T st:=by
 intro g w a hs hk hn
 refine wp_block (Code.wp_mono (fun e a' w' hq=>?_) (h g w a hs hk hn))
 obtain ⟨h1,h2,g',T',st',h3,h4,h5,h6⟩:=hq
 cases e with
 | normal=>exact ⟨h1,h2,g',T',st',h3,h4,h5,h6⟩
 | exit i =>
  by_cases hi:i=id
  ·subst hi
   simp only [Leaves,blk,nbeq_self,cond_true,Exit.inBlock,if_true] at h6 ⊢
   exact ⟨h1,h2,g',T',st',h3,h4,h5,h6⟩
  ·have hb:Nat.beq i id=false:=nbeq_ne hi
   simp only [Leaves,blk,hb,cond_false,Exit.inBlock,hi,if_false] at h6 ⊢
   exact ⟨h1,h2,g',T',st',h3,h4,h5,h6⟩
 | ret=>exact ⟨h1,h2,g',T',st',h3,h4,h5,h6⟩
 | panic ch=>exact ⟨h1,h2,g',T',st',h3,h4,h5,h6⟩
 | goto l=>exact h6.elim
 | outgrown=>exact h6.elim

theorem AWP.loop {c:Code} {α:Type} (sh:α→Tmps) (ss:α→St) (inv:α→Prop) (μ:α→Nat) (x0:α) (h0:inv x0) (hT:TLe T (sh x0)) (hst:StLe st (ss x0))
  (h:∀ x,inv x→AWP P n c (fun T' st'=>∃ y,inv y∧μ y < μ x∧TLe T' (sh y)∧StLe st' (ss y)) E (sh x) (ss x)):AWP P n (.loop c) K E T st:=by
 intro g w a hs hk hn
 let I:α→Act→World→Prop:=fun x a' w'=>inv x∧a'.tmps.size=n∧a'.defers=a.defers∧∃ g',Ext g w g' w'∧Sim g' w' (ss x)∧Known g' w' (sh x) a'
 have key:∀ k x a' w',μ x=k→I x a' w'→∀ (b:Frame) (kk:List Item) (cs:List Frame),
   ∃ e a'' w'',QOf n a.defers g w K E e a'' w''∧Arrives P (lone (b.at a' (.code c::.inLoop c::kk)) cs w') b kk cs e a'' w'':=by
  intro k
  induction k using Nat.strongRecOn with
  | _ k ih =>
   intro x a' w' hμ ⟨hi,hn',hd',g',he',hs',hk'⟩ b kk cs
   obtain ⟨e,a₁,w₁,hq,harr⟩:=h x hi g' w' a' hs' hk' hn' b (.inLoop c::kk) cs
   obtain ⟨h1,h2,g1,T1,st1,h3,h4,h5,h6⟩:=hq
   cases e with
   | normal =>
    obtain ⟨y,hy,hlt,hTy,hsty⟩:=h6
    obtain ⟨e₂,a₂,w₂,hq₂,harr₂⟩:=ih (μ y) (hμ ▸ hlt) y a₁ w₁ rfl ⟨hy,h1,h2.trans hd',g1,he'.trans h3,h4.le hsty,h5.le hTy⟩ b kk cs
    exact ⟨e₂,a₂,w₂,hq₂,.of_steps (Steps.trans harr (.one step_inLoop)) harr₂⟩
   | exit id=>exact ⟨.exit id,a₁,w₁,⟨h1,h2.trans hd',g1,T1,st1,he'.trans h3,h4,h5,h6⟩,.pass (x:=.inLoop c) rfl (fun _ _=>.inl (by simp)) harr⟩
   | ret=>exact ⟨.ret,a₁,w₁,⟨h1,h2.trans hd',g1,T1,st1,he'.trans h3,h4,h5,h6⟩,.pass (x:=.inLoop c) rfl (fun _ _=>.inl (by simp)) harr⟩
   | panic ch=>exact ⟨.panic ch,a₁,w₁,⟨h1,h2.trans hd',g1,T1,st1,he'.trans h3,h4,h5,h6⟩,.pass (x:=.inLoop c) rfl (fun _ _=>.inl (by simp)) harr⟩
   | goto l=>exact h6.elim
   | outgrown=>exact h6.elim
 intro b kk cs
 obtain ⟨e,a',w',hq,harr⟩:=key _ x0 a w rfl ⟨h0,hn,rfl,g,.refl _ _,hs.le hst,hk.le hT⟩ b kk cs
 exact ⟨e,a',w',hq,.of_steps (.one step_loop) harr⟩

@[reducible] def abs1:Value→AV
 | .int k n=>.int k n
 | .bool b=>.bool b
 | .string s=>.str s.data.toList
 | .slice none 0 0=>.view 0 [] .nil
 | v=>.lit v

@[reducible] def absV:Value→AV
 | .agg cs=>bif cs.all Value.oneCell' then .agg (cs.toList.map abs1) else .lit (.agg cs)
 | v=>abs1 v

theorem R_abs1 (g:G) (w:World) (v:Value):R g w (abs1 v) v:=by
 unfold abs1
 split
 ·exact .int _ _
 ·exact .bool _
 ·exact .str _
 ·exact .vnil _ _ rfl
 ·exact .lit _

theorem one_abs1 (v:Value) (h:v.oneCell'=true):(abs1 v).one=true:=by
 unfold abs1
 split <;> first|rfl|exact h

theorem R_absV (g:G) (w:World) (v:Value):R g w (absV v) v:=by
 unfold absV
 split
 ·rename_i cs
  cases h:cs.all Value.oneCell' with
  | false=>exact .lit _
  | true =>
   refine .agg _ _ (by simp) ?_ ?_
   ·intro c hc
    simp only [List.mem_map] at hc
    obtain ⟨v,hv,rfl⟩:=hc
    exact one_abs1 v (by rw [Array.all_eq_true'] at h; exact h v (by simpa using hv))
   ·intro i c v hc hv
    simp only [List.getElem?_map,Array.getElem?_toList,hv,Option.map_some,Option.some.injEq] at hc
    subst hc
    exact R_abs1 g w v
 ·exact R_abs1 g w _

def St.row (st:St) (gi:Nat):Option (List AV):=(st.glob.find? fun p=>Nat.beq p.1 gi).map (·.2)

def ev (st:St) (T:Tmps):Operand→Option AV
 | .tmp t=>T.get t
 | .const v=>some (absV v)
 | .global gi=>(st.row gi).map fun row=>.eptr row.length [row] 0 0
 | .func f=>some (.func (.func f) [] [])

theorem ev_R {g:G} {w:World} {a:Act} (hs:Sim g w st) (hk:Known g w T a) {x:Operand} {v:AV} (h:ev st T x=some v):R g w v (a.eval x):=by
 cases x with
 | tmp t =>
  obtain ⟨rv,h1,h2⟩:=hk t v h
  show R g w v (a.tmps.getD t undef)
  rw [Array.getD_eq_getD_getElem?,h1]
  exact h2
 | const c=>simp only [ev,Option.some.injEq] at h; subst h; exact R_absV g w c
 | global gi =>
  simp only [ev,Option.map_eq_some_iff] at h
  obtain ⟨row,h1,rfl⟩:=h
  simp only [St.row,Option.map_eq_some_iff] at h1
  obtain ⟨⟨gi',row'⟩,h2,rfl⟩:=h1
  have hm:=List.mem_of_find?_eq_some h2
  have he:=List.find?_some h2
  simp at he
  subst he
  exact (hs.globs gi' row' hm).rel
 | func f =>
  simp only [ev,Option.some.injEq] at h
  subst h
  exact .func _ _ _ _ _ rfl rfl (fun i c v hc=>by simp at hc) (fun i c v hc=>by simp at hc)

theorem AWP.cond_true {c:Operand} {x y:Code} (hc:ev st T c=some (.bool true)) (h:AWP P n x K E T st):AWP P n (.cond c x y) K E T st:=by
 intro g w a hs hk hn
 have hv:=ev_R hs hk hc
 generalize hx:a.eval c=u at hv
 cases hv
 exact wp_cond_true hx (h g w a hs hk hn)

theorem AWP.cond_false {c:Operand} {x y:Code} (hc:ev st T c=some (.bool false)) (h:AWP P n y K E T st):AWP P n (.cond c x y) K E T st:=by
 intro g w a hs hk hn
 have hv:=ev_R hs hk hc
 generalize hx:a.eval c=u at hv
 cases hv
 exact wp_cond_false hx (h g w a hs hk hn)

theorem AWP.cond_dec {c:Operand} {x y:Code} {p:Prop} {_:Decidable p} (hc:ev st T c=some (.bool (decide p))) (ht:p→AWP P n x K E T st) (hf:¬ p→AWP P n y K E T st):AWP P n (.cond c x y) K E T st:=by
 by_cases hp:p
 ·exact AWP.cond_true (by rw [hc,decide_eq_true hp]) (ht hp)
 ·exact AWP.cond_false (by rw [hc,decide_eq_false hp]) (hf hp)

theorem AWP.region {id:Nat} {ops:Array Oper} (h:AOps P n ops ops.toList K E T st):AWP P n (.region id ops false) K E T st :=
 fun g w a hs hk hn=>wp_region_list (h g w a hs hk hn)

theorem AWP.region_lit {id:Nat} {l:List Oper} (h:AOps P n l.toArray l K E T st):AWP P n (.region id l.toArray false) K E T st :=
 fun g w a hs hk hn=>wp_region_lit (h g w a hs hk hn)

/-! ### Operations -/

variable {ops:Array Oper} {o:Oper} {rest:List Oper}

theorem AOps.nil (h:K T st):AOps P n ops [] K E T st:=fun g _ _ hs hk hn=>⟨hn,rfl,g,T,st,.refl _ _,hs,hk,h⟩

theorem AOps.weaken {T':Tmps} {st':St} (ht:TLe T T') (hst:StLe st st') (h:AOps P n ops rest K E T' st'):AOps P n ops rest K E T st :=
 fun g w a hs hk hn=>h g w a (hs.le hst) (hk.le ht) hn

def wantedA (ops:Array Oper) (T:Tmps) (o:Oper):Option Bool :=
 match o.guard with
 | none=>some true
 | some (j,want) =>
  match (ops[j]?).bind (·.dst) with
  | some t=>match T.get t with
   | some (.bool b)=>some (b == want)
   | some (.lit (.tuple _))=>some false
   | _=>none
  | none=>none

theorem wanted_of {g:G} {w:World} {a:Act} (hk:Known g w T a) {b:Bool} (h:wantedA ops T o=some b):Region.wanted o (yielded ops a.tmps)=b:=by
 unfold wantedA at h
 unfold Region.wanted
 cases hg:o.guard with
 | none=>simp [hg] at h ⊢; exact h
 | some jw =>
  obtain ⟨j,want⟩:=jw
  simp only [hg] at h ⊢
  cases hj:(ops[j]?).bind (·.dst) with
  | none=>simp [hj] at h
  | some t =>
   simp only [hj] at h
   cases ht:T.get t with
   | none=>simp [ht] at h
   | some v =>
    obtain ⟨rv,h1,h2⟩:=hk t _ ht
    cases v <;> simp [ht] at h
    case bool c =>
     cases h2
     simp [yielded,hj,h1,← h]
    case lit u =>
     cases u <;> simp at h
     cases h2
     simp [yielded,hj,h1,h]

def dstOk (d:Option Tmp) (n:Nat):Bool:=match d with|some t=>Nat.blt t n|none=>true

theorem dstOk_lt {d:Option Tmp} (h:dstOk d n=true):∀ t,d=some t→t < n:=by
 rintro t rfl
 simpa [dstOk] using h

theorem AOps.unwanted (hw:wantedA ops T o=some false) (hd:dstOk o.dst n=true) (h:AOps P n ops rest K E (T.put o.dst (.lit undef)) st):AOps P n ops (o::rest) K E T st:=by
 intro g w a hs hk hn
 unfold wpList
 rw [wanted_of hk hw,if_neg (by simp)]
 have:=h g w (a.put o.dst undef) hs (hk.put (fun t ht=>hn ▸ dstOk_lt hd t ht) (.lit _)) (by rw [Act.size_put]; exact hn)
 rwa [Act.defers_put] at this

theorem AOps.step (hw:wantedA ops T o=some true) (hd:dstOk o.dst n=true) (v:AV) (st1:St)
  (hrun:∀ g w a,Sim g w st→Known g w T a→∃ rv g' w',((execOp a.eval o).run P w=.ok (.value rv) w'∨((execOp a.eval o).run P w=.ok .skip w'∧rv=undef))∧Ext g w g' w'∧Sim g' w' st1∧R g' w' v rv)
  (h:AOps P n ops rest K E (T.put o.dst v) st1):AOps P n ops (o::rest) K E T st:=by
 intro g w a hs hk hn
 obtain ⟨rv,g',w',hr,he,hs',hR⟩:=hrun g w a hs hk
 unfold wpList
 rw [wanted_of hk hw,if_pos rfl]
 left
 have h2:=h g' w' (a.put o.dst rv) hs' ((hk.ext he).put (fun t ht=>hn ▸ dstOk_lt hd t ht) hR) (by rw [Act.size_put]; exact hn)
 rw [Act.defers_put] at h2
 have h3:=wpList_mono (fun _ _ _ q=>QOf.ext he q) rest _ _ h2
 unfold Oper.wp
 rcases hr with hr|⟨hr,rfl⟩
 ·rw [hr]; exact h3
 ·rw [hr]; exact h3

theorem AOps.pure (hw:wantedA ops T o=some true) (hd:dstOk o.dst n=true) (v:AV)
  (hrun:∀ g w a,Sim g w st→Known g w T a→∃ rv,(execOp a.eval o).run P w=.ok (.value rv) w∧R g w v rv)
  (h:AOps P n ops rest K E (T.put o.dst v) st):AOps P n ops (o::rest) K E T st :=
 AOps.step hw hd v st (fun g w a hs hk=>let ⟨rv,h1,h2⟩:=hrun g w a hs hk; ⟨rv,g,w,.inl h1,.refl _ _,hs,h2⟩) h

theorem AOps.split (t:Nat) {p:Prop} {_:Decidable p} (hc:T.get t=some (.bool (decide p))) (ht:p→AOps P n ops rest K E ((t,.bool true)::T) st) (hf:¬ p→AOps P n ops rest K E ((t,.bool false)::T) st):AOps P n ops rest K E T st:=by
 have key:∀ b,T.get t=some (.bool b)→AOps P n ops rest K E ((t,.bool b)::T) st→AOps P n ops rest K E T st:=by
  intro b hb h g w a hs hk hn
  refine h g w a hs (fun i v hv=>?_) hn
  rw [Tmps.get_cons] at hv
  by_cases hi:t=i
  ·subst hi; simp at hv; subst hv; exact hk _ _ hb
  ·rw [if_neg hi] at hv; exact hk i v hv
 by_cases hp:p
 ·exact key true (by rw [hc,decide_eq_true hp]) (ht hp)
 ·exact key false (by rw [hc,decide_eq_false hp]) (hf hp)

end
end Go.AM
namespace Go.AM
open Go.RowKit (Below)

class Und (P:Program) (t:TypeId) (d:outParam TypeDesc):Prop where
 out:P.underlying t=some d

class Inf (P:Program) (t:TypeId) (sz bytes:outParam Nat) (z:outParam Value):Prop where
 raw:(P.info? t).map (fun i=>(i.size,i.bytes,i.zero))=some (sz,bytes,some z)

theorem Inf.out {P:Program} {t:TypeId} {sz bytes:Nat} {z:Value} (h:Inf P t sz bytes z):∃ i,P.info? t=some i∧i.size=sz∧i.bytes=bytes∧i.zero=some z:=by
 have h1:=h.raw
 cases hi:P.info? t with
 | none=>rw [hi] at h1; cases h1
 | some i =>
  rw [hi] at h1
  simp only [Option.map_some,Option.some.injEq,Prod.mk.injEq] at h1
  exact ⟨i,rfl,h1.1,h1.2.1,h1.2.2⟩

theorem run_und {P:Program} {t:TypeId} {d:TypeDesc} [h:Und P t d] (w:World):(underlying t).run P w=.ok d w:=run_underlying h.out w

theorem run_size {P:Program} {t:TypeId} {sz b:Nat} {z:Value} [h:Inf P t sz b z] (w:World):(sizeOf t).run P w=.ok sz w:=by
 obtain ⟨i,h1,h2,_⟩:=h.out
 simp [sizeOf,typeInfo,h1,h2]

theorem run_zero {P:Program} {t:TypeId} {sz b:Nat} {z:Value} [h:Inf P t sz b z] (w:World):(zeroValue t).run P w=.ok z w:=by
 obtain ⟨i,h1,_,_,h4⟩:=h.out
 simp [zeroValue,typeInfo,h1,h4]

def aggD:TypeDesc→Bool
 | .struct _|.array _ _=>true
 | _=>false

theorem run_isAgg {P:Program} {t:TypeId} {d:TypeDesc} [h:Und P t d] (w:World):(isAgg t).run P w=.ok (aggD d) w:=by
 unfold isAgg
 rw [Sem.run_bind,run_und w]
 cases d <;> rfl

def sel (agg:Bool) (sz:Nat) (row:List AV) (off:Nat):Option AV :=
 bif agg then (bif Nat.ble (off + sz) row.length then some (.agg ((row.drop off).take sz)) else none) else row[off]?

theorem addr_add (b o n:Nat):(⟨b,o,none⟩:Addr).add n=⟨b,o + n,none⟩:=Addr.add_lit b o n

theorem Nat.ble_le {a b:Nat} (h:Nat.ble a b=true):a≤b:=Nat.le_of_ble_eq_true h

theorem mul_add_lt {i j sz n:Nat} (hi:i < n) (hj:j < sz):i * sz + j < n * sz:=by
 have h:(i + 1) * sz≤n * sz:=Nat.mul_le_mul_right sz hi
 rw [Nat.add_mul,Nat.one_mul] at h
 omega

theorem load_row {P:Program} {g:G} {w:World} {t:TypeId} {d:TypeDesc} {sz by_:Nat} {z:Value} [Und P t d] [Inf P t sz by_ z] {b o:Nat} {row:List AV} {off:Nat} {v:AV}
  (h1:∀ c ∈ row,c.one=true) (hcell:∀ (j:Nat) c,row[j]?=some c→∃ rv,w.cell? ⟨b,o + j,none⟩=some rv∧R g w c rv) (hs:sel (aggD d) sz row off=some v) :
  ∃ rv,(loadVar t ⟨b,o + off,none⟩).run P w=.ok rv w∧R g w v rv:=by
 unfold sel at hs
 cases ha:aggD d with
 | false =>
  simp only [ha,cond_false] at hs
  obtain ⟨rv,h2,h3⟩:=hcell off v hs
  refine ⟨rv,?_,h3⟩
  simp [loadVar,run_isAgg w,ha,h2]
 | true =>
  simp only [ha,cond_true] at hs
  cases hl:Nat.ble (off + sz) row.length with
  | false=>simp [hl] at hs
  | true =>
   have hle:=Nat.ble_le hl
   simp only [hl,cond_true,Option.some.injEq] at hs
   subst hs
   have hex:∀ j,j < row.length→∃ rv,w.cell? ⟨b,o + j,none⟩=some rv∧R g w (row.getD j (.bool false)) rv:=fun j hj =>
    let ⟨rv,h2,h3⟩:=hcell j (row.getD j (.bool false)) (by simp [List.getD,List.getElem?_eq_getElem hj])
    ⟨rv,h2,h3⟩
   refine ⟨.agg ((List.range sz).map fun j=>(w.cell? ⟨b,o + off + j,none⟩).getD undef).toArray,?_,?_⟩
   ·have hl2:=run_loadCells (P:=P) w ⟨b,o + off,none⟩ sz (fun j=>(w.cell? ⟨b,o + off + j,none⟩).getD undef) (fun j hj=>by
     obtain ⟨rv,h2,_⟩:=hex (off + j) (by omega)
     rw [addr_add,Nat.add_assoc,h2]
     rfl)
    simp [loadVar,run_isAgg w,ha,run_size w,hl2]
   ·refine .agg _ _ (by simp; omega) (fun c hc=>h1 c (List.mem_of_mem_drop (List.mem_of_mem_take hc))) ?_
    intro i c rv hc hv
    have hi:i < sz:=by
     have:=(List.getElem?_eq_some_iff.1 hc).1
     simp at this
     omega
    rw [List.getElem?_take_of_lt hi,List.getElem?_drop] at hc
    obtain ⟨rv',h2,h3⟩:=hcell (off + i) c hc
    simp [hi,Nat.add_assoc,h2] at hv
    subst hv
    exact h3

section
variable {P:Program} {n:Nat} {K:Post} {E:EPost} {T:Tmps} {st:St} {ops:Array Oper} {rest:List Oper}
variable {d:Tmp} {x y z:Operand} {ty:TypeId} {pos:String} {es:Array Edge} {gd:Option (Nat × Bool)}

theorem AOps.move {v:AV} (hw:wantedA ops T ⟨some d,.move x,ty,pos,es,gd⟩=some true) (hd:dstOk (some d) n=true) (hx:ev st T x=some v)
  (h:AOps P n ops rest K E ((d,v)::T) st):AOps P n ops (⟨some d,.move x,ty,pos,es,gd⟩::rest) K E T st :=
 AOps.pure hw hd v (fun _ _ a hs hk=>⟨a.eval x,rfl,ev_R hs hk hx⟩) h

theorem AOps.assign {v:AV} (hw:wantedA ops T ⟨some d,.assign x,ty,pos,es,gd⟩=some true) (hd:dstOk (some d) n=true) (hx:ev st T x=some v)
  (h:AOps P n ops rest K E ((d,v)::T) st):AOps P n ops (⟨some d,.assign x,ty,pos,es,gd⟩::rest) K E T st :=
 AOps.pure hw hd v (fun _ _ a hs hk=>⟨a.eval x,rfl,ev_R hs hk hx⟩) h

/-! integers -/

theorem AOps.int2 {bo:BinOp} {t u:TypeId} {k:IntKind} {a b:Int} {v:AV} {rv:Value} (hbin:∀ w,(binOp bo t (.int k a) (.int k b)).run P w=.ok rv w) (hR:∀ g w,R g w v rv)
  (hw:wantedA ops T ⟨some d,.binOp bo t x y u,ty,pos,es,gd⟩=some true) (hd:dstOk (some d) n=true)
  (hx:ev st T x=some (.int k a)) (hy:ev st T y=some (.int k b))
  (h:AOps P n ops rest K E ((d,v)::T) st):AOps P n ops (⟨some d,.binOp bo t x y u,ty,pos,es,gd⟩::rest) K E T st :=
 AOps.pure hw hd v (fun g w a' hs hk=>by
  have h1:=ev_R hs hk hx
  have h2:=ev_R hs hk hy
  generalize hu:a'.eval x=u1 at h1
  generalize hv:a'.eval y=u2 at h2
  cases h1
  cases h2
  exact ⟨rv,by simp [execOp,hu,hv,eqGuard_at_int,hbin],hR g w⟩) h

theorem AOps.lss {t u:TypeId} {k:IntKind} {a b:Int} (hw:wantedA ops T ⟨some d,.binOp .lss t x y u,ty,pos,es,gd⟩=some true) (hd:dstOk (some d) n=true)
  (hx:ev st T x=some (.int k a)) (hy:ev st T y=some (.int k b))
  (h:AOps P n ops rest K E ((d,.bool (decide (a < b)))::T) st):AOps P n ops (⟨some d,.binOp .lss t x y u,ty,pos,es,gd⟩::rest) K E T st :=
 AOps.int2 (fun w=>by rw [binOp_lss]; rfl) (fun _ _=>.bool _) hw hd hx hy h
theorem AOps.leq {t u:TypeId} {k:IntKind} {a b:Int} (hw:wantedA ops T ⟨some d,.binOp .leq t x y u,ty,pos,es,gd⟩=some true) (hd:dstOk (some d) n=true)
  (hx:ev st T x=some (.int k a)) (hy:ev st T y=some (.int k b))
  (h:AOps P n ops rest K E ((d,.bool (decide (a≤b)))::T) st):AOps P n ops (⟨some d,.binOp .leq t x y u,ty,pos,es,gd⟩::rest) K E T st :=
 AOps.int2 (fun w=>by rw [binOp_leq]; rfl) (fun _ _=>.bool _) hw hd hx hy h
theorem AOps.gtr {t u:TypeId} {k:IntKind} {a b:Int} (hw:wantedA ops T ⟨some d,.binOp .gtr t x y u,ty,pos,es,gd⟩=some true) (hd:dstOk (some d) n=true)
  (hx:ev st T x=some (.int k a)) (hy:ev st T y=some (.int k b))
  (h:AOps P n ops rest K E ((d,.bool (decide (b < a)))::T) st):AOps P n ops (⟨some d,.binOp .gtr t x y u,ty,pos,es,gd⟩::rest) K E T st :=
 AOps.int2 (fun w=>by rw [binOp_gtr]; rfl) (fun _ _=>.bool _) hw hd hx hy h
theorem AOps.geq {t u:TypeId} {k:IntKind} {a b:Int} (hw:wantedA ops T ⟨some d,.binOp .geq t x y u,ty,pos,es,gd⟩=some true) (hd:dstOk (some d) n=true)
  (hx:ev st T x=some (.int k a)) (hy:ev st T y=some (.int k b))
  (h:AOps P n ops rest K E ((d,.bool (decide (b≤a)))::T) st):AOps P n ops (⟨some d,.binOp .geq t x y u,ty,pos,es,gd⟩::rest) K E T st :=
 AOps.int2 (fun w=>by rw [binOp_geq]; rfl) (fun _ _=>.bool _) hw hd hx hy h
theorem AOps.eql {t u:TypeId} {k:IntKind} {a b:Int} (hw:wantedA ops T ⟨some d,.binOp .eql t x y u,ty,pos,es,gd⟩=some true) (hd:dstOk (some d) n=true)
  (hx:ev st T x=some (.int k a)) (hy:ev st T y=some (.int k b))
  (h:AOps P n ops rest K E ((d,.bool (decide (a=b)))::T) st):AOps P n ops (⟨some d,.binOp .eql t x y u,ty,pos,es,gd⟩::rest) K E T st :=
 AOps.int2 (rv:=.bool (decide (a=b))) (fun w=>by rw [binOp_eql,Sem.run_pure,show (a == b)=decide (a=b) from by rw [Bool.eq_iff_iff]; simp]) (fun _ _=>.bool _) hw hd hx hy h
theorem AOps.neq {t u:TypeId} {k:IntKind} {a b:Int} (hw:wantedA ops T ⟨some d,.binOp .neq t x y u,ty,pos,es,gd⟩=some true) (hd:dstOk (some d) n=true)
  (hx:ev st T x=some (.int k a)) (hy:ev st T y=some (.int k b))
  (h:AOps P n ops rest K E ((d,.bool (decide (a≠b)))::T) st):AOps P n ops (⟨some d,.binOp .neq t x y u,ty,pos,es,gd⟩::rest) K E T st :=
 AOps.int2 (rv:=.bool (decide (a≠b))) (fun w=>by rw [binOp_neq,Sem.run_pure,show (a != b)=decide (a≠b) from by rw [Bool.eq_iff_iff]; simp]) (fun _ _=>.bool _) hw hd hx hy h

theorem AOps.add {t u:TypeId} {k:IntKind} {a b c:Int} (hw:wantedA ops T ⟨some d,.binOp .add t x y u,ty,pos,es,gd⟩=some true) (hd:dstOk (some d) n=true)
  (hx:ev st T x=some (.int k a)) (hy:ev st T y=some (.int k b)) (hc:k.wrap (a + b)=c)
  (h:AOps P n ops rest K E ((d,.int k c)::T) st):AOps P n ops (⟨some d,.binOp .add t x y u,ty,pos,es,gd⟩::rest) K E T st :=
 AOps.int2 (fun w=>by rw [binOp_add]; simp only [Op.intArith,hc]; rfl) (fun _ _=>.int _ _) hw hd hx hy h
theorem AOps.sub {t u:TypeId} {k:IntKind} {a b c:Int} (hw:wantedA ops T ⟨some d,.binOp .sub t x y u,ty,pos,es,gd⟩=some true) (hd:dstOk (some d) n=true)
  (hx:ev st T x=some (.int k a)) (hy:ev st T y=some (.int k b)) (hc:k.wrap (a - b)=c)
  (h:AOps P n ops rest K E ((d,.int k c)::T) st):AOps P n ops (⟨some d,.binOp .sub t x y u,ty,pos,es,gd⟩::rest) K E T st :=
 AOps.int2 (fun w=>by rw [binOp_sub]; simp only [Op.intArith,hc]; rfl) (fun _ _=>.int _ _) hw hd hx hy h
theorem AOps.mul {t u:TypeId} {k:IntKind} {a b c:Int} (hw:wantedA ops T ⟨some d,.binOp .mul t x y u,ty,pos,es,gd⟩=some true) (hd:dstOk (some d) n=true)
  (hx:ev st T x=some (.int k a)) (hy:ev st T y=some (.int k b)) (hc:k.wrap (a * b)=c)
  (h:AOps P n ops rest K E ((d,.int k c)::T) st):AOps P n ops (⟨some d,.binOp .mul t x y u,ty,pos,es,gd⟩::rest) K E T st :=
 AOps.int2 (fun w=>by rw [binOp_mul]; simp only [Op.intArith,hc]; rfl) (fun _ _=>.int _ _) hw hd hx hy h
theorem AOps.quo {t u:TypeId} {k:IntKind} {a b c:Int} (hw:wantedA ops T ⟨some d,.binOp .quo t x y u,ty,pos,es,gd⟩=some true) (hd:dstOk (some d) n=true)
  (hx:ev st T x=some (.int k a)) (hy:ev st T y=some (.int k b)) (h0:b≠0) (hc:k.wrap (a.tdiv b)=c)
  (h:AOps P n ops rest K E ((d,.int k c)::T) st):AOps P n ops (⟨some d,.binOp .quo t x y u,ty,pos,es,gd⟩::rest) K E T st :=
 AOps.int2 (fun w=>by rw [binOp_quo]; simp only [Op.intDiv,h0,if_false,hc]; rfl) (fun _ _=>.int _ _) hw hd hx hy h
theorem AOps.rem {t u:TypeId} {k:IntKind} {a b c:Int} (hw:wantedA ops T ⟨some d,.binOp .rem t x y u,ty,pos,es,gd⟩=some true) (hd:dstOk (some d) n=true)
  (hx:ev st T x=some (.int k a)) (hy:ev st T y=some (.int k b)) (h0:b≠0) (hc:a.tmod b=c)
  (h:AOps P n ops rest K E ((d,.int k c)::T) st):AOps P n ops (⟨some d,.binOp .rem t x y u,ty,pos,es,gd⟩::rest) K E T st :=
 AOps.int2 (fun w=>by rw [binOp_rem]; simp only [Op.intDiv,h0,if_false,hc]; rfl) (fun _ _=>.int _ _) hw hd hx hy h
theorem AOps.bits {bo:BinOp} {t u:TypeId} {k:IntKind} {a b c:Int} (hbo:bo=.and∨bo=.or∨bo=.xor) (hw:wantedA ops T ⟨some d,.binOp bo t x y u,ty,pos,es,gd⟩=some true) (hd:dstOk (some d) n=true)
  (hx:ev st T x=some (.int k a)) (hy:ev st T y=some (.int k b)) (hc:bits bo k a b=c)
  (h:AOps P n ops rest K E ((d,.int k c)::T) st):AOps P n ops (⟨some d,.binOp bo t x y u,ty,pos,es,gd⟩::rest) K E T st :=
 AOps.int2 (fun w=>by rcases hbo with rfl|rfl|rfl <;> (first|rw [binOp_and]|rw [binOp_or]|rw [binOp_xor]) <;> (first|rw [intBits_and]|rw [intBits_or]|rw [intBits_xor]) <;> rw [hc] <;> rfl) (fun _ _=>.int _ _) hw hd hx hy h

theorem AOps.not {t:TypeId} {b:Bool} (hw:wantedA ops T ⟨some d,.unOp .not t x,ty,pos,es,gd⟩=some true) (hd:dstOk (some d) n=true)
  (hx:ev st T x=some (.bool b)) (h:AOps P n ops rest K E ((d,.bool (!b))::T) st):AOps P n ops (⟨some d,.unOp .not t x,ty,pos,es,gd⟩::rest) K E T st :=
 AOps.pure hw hd _ (fun g w a hs hk=>by
  have h1:=ev_R hs hk hx
  generalize hu:a.eval x=u at h1
  cases h1
  exact ⟨.bool (!b),by simp [execOp,hu,unary_not],.bool _⟩) h
theorem AOps.neg {t:TypeId} {k:IntKind} {a c:Int} (hw:wantedA ops T ⟨some d,.unOp .neg t x,ty,pos,es,gd⟩=some true) (hd:dstOk (some d) n=true)
  (hx:ev st T x=some (.int k a)) (hc:k.wrap (0 - a)=c) (h:AOps P n ops rest K E ((d,.int k c)::T) st):AOps P n ops (⟨some d,.unOp .neg t x,ty,pos,es,gd⟩::rest) K E T st :=
 AOps.pure hw hd _ (fun g w a' hs hk=>by
  have h1:=ev_R hs hk hx
  generalize hu:a'.eval x=u at h1
  cases h1
  exact ⟨.int k c,by simp only [execOp,hu,unary_neg,Op.intArith,hc]; simp,.int _ _⟩) h

theorem AOps.convInt {t u:TypeId} {ds:TypeDesc} {k k':IntKind} [Und P t ds] [hu:Und P u (.int k')] {a c:Int} (hw:wantedA ops T ⟨some d,.convert t u x,ty,pos,es,gd⟩=some true) (hd:dstOk (some d) n=true)
  (hx:ev st T x=some (.int k a)) (hc:k'.wrap a=c) (h:AOps P n ops rest K E ((d,.int k' c)::T) st):AOps P n ops (⟨some d,.convert t u x,ty,pos,es,gd⟩::rest) K E T st :=
 AOps.pure hw hd _ (fun g w a' hs hk=>by
  have h1:=ev_R hs hk hx
  generalize hu:a'.eval x=u at h1
  cases h1
  exact ⟨.int k' c,by simp [execOp,hu,convert,run_und (P:=P) (t:=t) w,run_und (P:=P) (t:=u) w,Conv.intToInt,hc],.int _ _⟩) h

/-! booleans and strings -/

theorem run_equalIn_bool (dp:Nat) {t:TypeId} [hu:Und P t .bool] (a b:Bool) (w:World):(Op.equalIn (dp + 1) t (.bool a) (.bool b)).run P w=.ok (a == b) w:=by
 simp only [Op.equalIn,Sem.run_bind,run_und (P:=P) (t:=t) w,Result.andThen_ok,Sem.run_pure]

theorem run_equal_bool {t:TypeId} [hu:Und P t .bool] (a b:Bool) (w:World):(Op.equal t (.bool a) (.bool b)).run P w=.ok (a == b) w:=by
 unfold Op.equal Op.maxDepth
 exact run_equalIn_bool 9999 a b w

theorem AOps.boolEql {t u:TypeId} [hu:Und P t .bool] {a b:Bool} (hw:wantedA ops T ⟨some d,.binOp .eql t x y u,ty,pos,es,gd⟩=some true) (hd:dstOk (some d) n=true)
  (hx:ev st T x=some (.bool a)) (hy:ev st T y=some (.bool b))
  (h:AOps P n ops rest K E ((d,.bool (decide (a=b)))::T) st):AOps P n ops (⟨some d,.binOp .eql t x y u,ty,pos,es,gd⟩::rest) K E T st :=
 AOps.pure hw hd _ (fun g w a' hs hk=>by
  have h1:=ev_R hs hk hx
  have h2:=ev_R hs hk hy
  generalize hu:a'.eval x=u1 at h1
  generalize hv:a'.eval y=u2 at h2
  cases h1
  cases h2
  exact ⟨.bool (a == b),by simp only [execOp,hu,hv,eqGuard_at_bool,binOp,Sem.run_bind,run_equal_bool (P:=P) (t:=t),Sem.run_pure,Result.andThen_ok],by rw [show (a == b)=decide (a=b) from by cases a <;> cases b <;> rfl]; exact .bool _⟩) h
theorem AOps.boolNeq {t u:TypeId} [hu:Und P t .bool] {a b:Bool} (hw:wantedA ops T ⟨some d,.binOp .neq t x y u,ty,pos,es,gd⟩=some true) (hd:dstOk (some d) n=true)
  (hx:ev st T x=some (.bool a)) (hy:ev st T y=some (.bool b))
  (h:AOps P n ops rest K E ((d,.bool (decide (a≠b)))::T) st):AOps P n ops (⟨some d,.binOp .neq t x y u,ty,pos,es,gd⟩::rest) K E T st :=
 AOps.pure hw hd _ (fun g w a' hs hk=>by
  have h1:=ev_R hs hk hx
  have h2:=ev_R hs hk hy
  generalize hu:a'.eval x=u1 at h1
  generalize hv:a'.eval y=u2 at h2
  cases h1
  cases h2
  exact ⟨.bool (!(a == b)),by simp only [execOp,hu,hv,eqGuard_at_bool,binOp,Sem.run_bind,run_equal_bool (P:=P) (t:=t),Sem.run_pure,Result.andThen_ok],by rw [show (!(a == b))=decide (a≠b) from by cases a <;> cases b <;> rfl]; exact .bool _⟩) h

theorem AOps.str2 {bo:BinOp} {t u:TypeId} {a b:List UInt8} {v:AV} {rv:Value} (hbin:∀ w,(binOp bo t (.string ⟨⟨a⟩⟩) (.string ⟨⟨b⟩⟩)).run P w=.ok rv w) (hR:∀ g w,R g w v rv)
  (hw:wantedA ops T ⟨some d,.binOp bo t x y u,ty,pos,es,gd⟩=some true) (hd:dstOk (some d) n=true)
  (hx:ev st T x=some (.str a)) (hy:ev st T y=some (.str b))
  (h:AOps P n ops rest K E ((d,v)::T) st):AOps P n ops (⟨some d,.binOp bo t x y u,ty,pos,es,gd⟩::rest) K E T st :=
 AOps.pure hw hd v (fun g w a' hs hk=>by
  have h1:=ev_R hs hk hx
  have h2:=ev_R hs hk hy
  generalize hu:a'.eval x=u1 at h1
  generalize hv:a'.eval y=u2 at h2
  cases h1
  cases h2
  exact ⟨rv,by simp [execOp,hu,hv,eqGuard_at_string,hbin],hR g w⟩) h

theorem AOps.strAdd {t u:TypeId} {a b:List UInt8} (hw:wantedA ops T ⟨some d,.binOp .add t x y u,ty,pos,es,gd⟩=some true) (hd:dstOk (some d) n=true)
  (hx:ev st T x=some (.str a)) (hy:ev st T y=some (.str b)) (hl:a.length + b.length≤9223372036854775807)
  (h:AOps P n ops rest K E ((d,.str (a++b))::T) st):AOps P n ops (⟨some d,.binOp .add t x y u,ty,pos,es,gd⟩::rest) K E T st :=
 AOps.str2 (rv:=.string ⟨⟨a++b⟩⟩) (fun w=>by
  have h1:(⟨⟨a⟩⟩:ByteArray).size=a.length:=rfl
  have h2:(⟨⟨b⟩⟩:ByteArray).size=b.length:=rfl
  have h3:(⟨⟨a⟩⟩:ByteArray)++⟨⟨b⟩⟩=⟨⟨a++b⟩⟩:=by
   apply ByteArray.ext
   rw [ByteArray.data_append]
   apply Array.ext'
   simp
  rw [binOp_string_add]
  simp only [Op.stringOp,h1,h2,IntKind.max_i64]
  rw [if_neg (by omega),h3]
  rfl) (fun _ _=>.str _) hw hd hx hy h

theorem AOps.strIndex {t:TypeId} [hu:Und P t .string] {l:List UInt8} {k:IntKind} {i:Int} {m:Nat} {c:UInt8} (hw:wantedA ops T ⟨some d,.index t x y,ty,pos,es,gd⟩=some true) (hd:dstOk (some d) n=true)
  (hx:ev st T x=some (.str l)) (hy:ev st T y=some (.int k i)) (hi:i=m) (hc:l[m]?=some c)
  (h:AOps P n ops rest K E ((d,.int .u8 c.toNat)::T) st):AOps P n ops (⟨some d,.index t x y,ty,pos,es,gd⟩::rest) K E T st :=
 AOps.pure hw hd _ (fun g w a' hs hk=>by
  have h1:=ev_R hs hk hx
  have h2:=ev_R hs hk hy
  generalize hu':a'.eval x=u1 at h1
  generalize hv:a'.eval y=u2 at h2
  cases h1
  cases h2
  subst hi
  have hlt:m < l.length:=(List.getElem?_eq_some_iff.1 hc).1
  have hs:(⟨⟨l⟩⟩:ByteArray).size=l.length:=rfl
  have hg:(⟨⟨l⟩⟩:ByteArray)[m]'(by rw [hs]; exact hlt)=c:=by
   have:=(List.getElem?_eq_some_iff.1 hc).2
   exact this
  refine ⟨.int .u8 c.toNat,?_,.int _ _⟩
  simp only [execOp,hu',hv,Sem.run_bind,run_index_string w t _ k _ hu.out,hs]
  rw [dif_pos (by omega)]
  simp [hg]) h

/-! pointers and slices -/

theorem AOps.fieldAddr {t:TypeId} {fs:Array Field} [hu:Und P t (.struct fs)] {f:Nat} {fld:Field} {sz by_:Nat} {zz:Value} {p q:AV}
  (hw:wantedA ops T ⟨some d,.fieldAddr t x f,ty,pos,es,gd⟩=some true) (hd:dstOk (some d) n=true) (hf:fs[f]?=some fld) [hi:Inf P fld.type sz by_ zz] (h0:sz≠0)
  (hx:ev st T x=some p) (hp:(∃ s rows i off,p=.eptr s rows i off∧q=.eptr s rows i (off + fld.offset))∨(∃ o s i off,p=.cptr o s i off∧q=.cptr o s i (off + fld.offset)))
  (h:AOps P n ops rest K E ((d,q)::T) st):AOps P n ops (⟨some d,.fieldAddr t x f,ty,pos,es,gd⟩::rest) K E T st :=
 AOps.pure hw hd q (fun g w a' hs hk=>by
  have h1:=ev_R hs hk hx
  generalize hu':a'.eval x=u1 at h1
  have run:∀ (b o:Nat),(Instr.fieldAt t (.pointer (some ⟨b,o,none⟩)) f).run P w=.ok (.pointer (some ⟨b,o + fld.offset,none⟩)) w:=by
   intro b o
   simp [Instr.fieldAt,run_und (P:=P) (t:=t) w,hf,Instr.sureAddr,fieldPlace,run_size (P:=P) (t:=fld.type) w,h0,addr_add]
  rcases hp with ⟨s,rows,i,off,rfl,rfl⟩|⟨o,s,i,off,rfl,rfl⟩
  ·cases h1 with
   | eptr _ _ _ _ b off' ff hsz h1' himm hh =>
    refine ⟨.pointer (some ⟨b,off' + (i * s + off) + fld.offset,none⟩),by simp only [execOp,hu',Sem.run_bind,run,Sem.run_pure,Result.andThen_ok],?_⟩
    have:=R.eptr s rows i (off + fld.offset) b off' ff hsz h1' himm hh
    simpa [Nat.add_assoc] using this
  ·cases h1 with
   | cptr _ _ _ _ b m' hb =>
    refine ⟨.pointer (some ⟨b,i * s + off + fld.offset,none⟩),by simp only [execOp,hu',Sem.run_bind,run,Sem.run_pure,Result.andThen_ok],?_⟩
    have:=R.cptr (w:=w) o s i (off + fld.offset) b m' hb
    simpa [Nat.add_assoc] using this) h

theorem AOps.indexView {t e:TypeId} [hu:Und P t (.slice e)] {sz by_:Nat} {zz:Value} [hi:Inf P e sz by_ zz] {rows:List (List AV)} {tk:Tok} {k:IntKind} {i:Int} {m:Nat}
  (hw:wantedA ops T ⟨some d,.indexAddr t x y,ty,pos,es,gd⟩=some true) (hd:dstOk (some d) n=true)
  (hx:ev st T x=some (.view sz rows tk)) (hy:ev st T y=some (.int k i)) (hm:i=m) (hlt:m < rows.length)
  (h:AOps P n ops rest K E ((d,.eptr sz rows m 0)::T) st):AOps P n ops (⟨some d,.indexAddr t x y,ty,pos,es,gd⟩::rest) K E T st :=
 AOps.pure hw hd _ (fun g w a' hs hk=>by
  have h1:=ev_R hs hk hx
  have h2:=ev_R hs hk hy
  generalize hu':a'.eval x=u1 at h1
  generalize hv:a'.eval y=u2 at h2
  subst hm
  cases h2
  cases h1 with
  | vnil=>simp at hlt
  | vemp=>simp at hlt
  | view _ _ _ b off cap f hc _ hsz h1' ht himm hh =>
   refine ⟨.pointer (some ⟨b,off + (m * sz + 0),none⟩),?_,.eptr _ _ _ _ _ _ f hsz h1' himm hh⟩
   have hc:(0:Int)≤m∧(m:Int) < rows.length:=by omega
   simp [execOp,hu',hv,Instr.indexAt,asIntOf,run_und (P:=P) (t:=t) w,hlt,run_size (P:=P) (t:=e) w,addr_add]) h

theorem AOps.indexMsl {t e:TypeId} [hu:Und P t (.slice e)] {sz by_:Nat} {zz:Value} [hi:Inf P e sz by_ zz] {o lo len:Nat} {k:IntKind} {i:Int} {m:Nat}
  (hw:wantedA ops T ⟨some d,.indexAddr t x y,ty,pos,es,gd⟩=some true) (hd:dstOk (some d) n=true)
  (hx:ev st T x=some (.msl o sz lo len)) (hy:ev st T y=some (.int k i)) (hm:i=m) (hlt:m < len)
  (h:AOps P n ops rest K E ((d,.cptr o sz (lo + m) 0)::T) st):AOps P n ops (⟨some d,.indexAddr t x y,ty,pos,es,gd⟩::rest) K E T st :=
 AOps.pure hw hd _ (fun g w a' hs hk=>by
  have h1:=ev_R hs hk hx
  have h2:=ev_R hs hk hy
  generalize hu':a'.eval x=u1 at h1
  generalize hv:a'.eval y=u2 at h2
  subst hm
  cases h2
  cases h1 with
  | msl _ _ _ _ cap b m' hb hc hm' hs' =>
   refine ⟨.pointer (some ⟨b,(lo + m) * sz + 0,none⟩),?_,.cptr _ _ _ _ _ _ hb⟩
   simp [execOp,hu',hv,Instr.indexAt,asIntOf,run_und (P:=P) (t:=t) w,hlt,run_size (P:=P) (t:=e) w,addr_add,Nat.add_mul]) h

theorem AOps.indexArr {t e:TypeId} {len:Nat} [hu:Und P t (.array len e)] {sz by_:Nat} {zz:Value} [hi:Inf P e sz by_ zz] {k:IntKind} {i:Int} {m:Nat} {p q:AV}
  (hw:wantedA ops T ⟨some d,.indexAddr t x y,ty,pos,es,gd⟩=some true) (hd:dstOk (some d) n=true)
  (hx:ev st T x=some p) (hy:ev st T y=some (.int k i)) (hm:i=m) (hlt:m < len)
  (hp:(∃ s rows i off,p=.eptr s rows i off∧q=.eptr s rows i (off + m * sz))∨(∃ o s i off,p=.cptr o s i off∧q=.cptr o s i (off + m * sz)))
  (h:AOps P n ops rest K E ((d,q)::T) st):AOps P n ops (⟨some d,.indexAddr t x y,ty,pos,es,gd⟩::rest) K E T st :=
 AOps.pure hw hd _ (fun g w a' hs hk=>by
  have h1:=ev_R hs hk hx
  have h2:=ev_R hs hk hy
  generalize hu':a'.eval x=u1 at h1
  generalize hv:a'.eval y=u2 at h2
  subst hm
  cases h2
  have run:∀ (b o:Nat),(Instr.indexAt t (.pointer (some ⟨b,o,none⟩)) (.int k m)).run P w=.ok (.pointer (some ⟨b,o + m * sz,none⟩)) w:=by
   intro b o
   simp [Instr.indexAt,asIntOf,Instr.sureAddr,run_und (P:=P) (t:=t) w,hlt,run_size (P:=P) (t:=e) w,addr_add]
  rcases hp with ⟨s,rows,i,off,rfl,rfl⟩|⟨o,s,i,off,rfl,rfl⟩
  ·cases h1 with
   | eptr _ _ _ _ b off' ff hsz h1' himm hh =>
    refine ⟨.pointer (some ⟨b,off' + (i * s + off) + m * sz,none⟩),by simp only [execOp,hu',hv,Sem.run_bind,run,Sem.run_pure,Result.andThen_ok],?_⟩
    have:=R.eptr s rows i (off + m * sz) b off' ff hsz h1' himm hh
    simpa [Nat.add_assoc] using this
  ·cases h1 with
   | cptr _ _ _ _ b m' hb =>
    refine ⟨.pointer (some ⟨b,i * s + off + m * sz,none⟩),by simp only [execOp,hu',hv,Sem.run_bind,run,Sem.run_pure,Result.andThen_ok],?_⟩
    have:=R.cptr (w:=w) o s i (off + m * sz) b m' hb
    simpa [Nat.add_assoc] using this) h

theorem AOps.loadE {t:TypeId} {td:TypeDesc} [hu:Und P t td] {sz by_:Nat} {zz:Value} [hi:Inf P t sz by_ zz] {s:Nat} {rows:List (List AV)} {i off:Nat} {row:List AV} {v:AV}
  (hw:wantedA ops T ⟨some d,.load t x,ty,pos,es,gd⟩=some true) (hd:dstOk (some d) n=true)
  (hx:ev st T x=some (.eptr s rows i off)) (hr:rows[i]?=some row) (hv:sel (aggD td) sz row off=some v)
  (h:AOps P n ops rest K E ((d,v)::T) st):AOps P n ops (⟨some d,.load t x,ty,pos,es,gd⟩::rest) K E T st :=
 AOps.pure hw hd v (fun g w a' hs hk=>by
  have h1:=ev_R hs hk hx
  generalize hu':a'.eval x=u1 at h1
  cases h1 with
  | eptr _ _ _ _ b off' ff hsz h1' himm hh =>
   have hil:i < rows.length:=(List.getElem?_eq_some_iff.1 hr).1
   have hrl:row.length=s:=hsz row (List.mem_of_getElem? hr)
   obtain ⟨rv,h2,h3⟩:=load_row (P:=P) (g:=g) (w:=w) (t:=t) (b:=b) (o:=off' + i * s) (row:=row) (h1' row (List.mem_of_getElem? hr))
    (fun j c hj=>⟨ff i j,by
     have hjl:j < s:=hrl ▸ (List.getElem?_eq_some_iff.1 hj).1
     have:=(himm i j hil hjl).2
     rwa [← Nat.add_assoc] at this,hh i j row c hr hj⟩) hv
   exact ⟨rv,by simp only [execOp,hu',Instr.loadAt,Instr.sureAddr,← Nat.add_assoc]; simp [h2],h3⟩) h

theorem AOps.loadC {t:TypeId} {td:TypeDesc} [hu:Und P t td] {sz by_:Nat} {zz:Value} [hi:Inf P t sz by_ zz] {o s:Nat} {rows:List (List AV)} {i off:Nat} {row:List AV} {v:AV}
  (hw:wantedA ops T ⟨some d,.load t x,ty,pos,es,gd⟩=some true) (hd:dstOk (some d) n=true)
  (hx:ev st T x=some (.cptr o s i off)) {oty:TypeId} (ho:st.obj o=some (.cells oty s rows)) (hr:rows[i]?=some row) (hv:sel (aggD td) sz row off=some v)
  (h:AOps P n ops rest K E ((d,v)::T) st):AOps P n ops (⟨some d,.load t x,ty,pos,es,gd⟩::rest) K E T st :=
 AOps.pure hw hd v (fun g w a' hs hk=>by
  have h1:=ev_R hs hk hx
  generalize hu':a'.eval x=u1 at h1
  cases h1 with
  | cptr _ _ _ _ b m' hb =>
   obtain ⟨_,⟨arr,ha,hsz,_,hl,h1',hc⟩,_⟩:=hs.objOf ho hb
   obtain ⟨rv,h2,h3⟩:=load_row (P:=P) (g:=g) (w:=w) (t:=t) (b:=b) (o:=i * s) (row:=row) (h1' row (List.mem_of_getElem? hr))
    (fun j c hj=>by
     obtain ⟨v,hv1,hv2⟩:=hc i j row c hr hj
     exact ⟨v,by rw [cell_of_row w b _ arr oty (0,0) ha]; exact hv1,hv2⟩) hv
   exact ⟨rv,by simp [execOp,hu',Instr.loadAt,Instr.sureAddr,h2],h3⟩) h

theorem AOps.nilCheck {p:AV} (hw:wantedA ops T ⟨some d,.nilCheck x,ty,pos,es,gd⟩=some true) (hd:dstOk (some d) n=true)
  (hx:ev st T x=some p) (hp:(∃ s rows i off,p=.eptr s rows i off)∨(∃ o s i off,p=.cptr o s i off))
  (h:AOps P n ops rest K E ((d,p)::T) st):AOps P n ops (⟨some d,.nilCheck x,ty,pos,es,gd⟩::rest) K E T st :=
 AOps.pure hw hd p (fun g w a' hs hk=>by
  have h1:=ev_R hs hk hx
  generalize hu':a'.eval x=u1 at h1
  refine ⟨u1,?_,h1⟩
  rcases hp with ⟨s,rows,i,off,rfl⟩|⟨o,s,i,off,rfl⟩ <;> cases h1 <;> simp [execOp,hu'])
  h

theorem AOps.extract {vs:List AV} {i:Nat} {v:AV} (hw:wantedA ops T ⟨some d,.extract x i,ty,pos,es,gd⟩=some true) (hd:dstOk (some d) n=true)
  (hx:ev st T x=some (.tuple vs)) (hv:vs[i]?=some v)
  (h:AOps P n ops rest K E ((d,v)::T) st):AOps P n ops (⟨some d,.extract x i,ty,pos,es,gd⟩::rest) K E T st :=
 AOps.pure hw hd v (fun g w a' hs hk=>by
  have h1:=ev_R hs hk hx
  generalize hu':a'.eval x=u1 at h1
  cases h1 with
  | tuple _ us hl hh =>
   have hi:i < us.size:=hl ▸ (List.getElem?_eq_some_iff.1 hv).1
   exact ⟨us[i],by simp [execOp,hu',Instr.extract,hi],hh i v _ hv (by simp [hi])⟩) h

theorem AOps.field {t:TypeId} {fs:Array Field} [hu:Und P t (.struct fs)] {f:Nat} {fld:Field} {td:TypeDesc} {sz by_:Nat} {zz:Value} {cs:List AV} {v:AV}
  (hw:wantedA ops T ⟨some d,.field t x f,ty,pos,es,gd⟩=some true) (hd:dstOk (some d) n=true) (hf:fs[f]?=some fld) [hq:Und P fld.type td] [hi:Inf P fld.type sz by_ zz]
  (hx:ev st T x=some (.agg cs)) (hv:sel (aggD td) sz cs fld.offset=some v)
  (h:AOps P n ops rest K E ((d,v)::T) st):AOps P n ops (⟨some d,.field t x f,ty,pos,es,gd⟩::rest) K E T st :=
 AOps.pure hw hd v (fun g w a' hs hk=>by
  have h1:=ev_R hs hk hx
  generalize hu':a'.eval x=u1 at h1
  cases h1 with
  | agg _ us hl h1' hh =>
   unfold sel at hv
   cases ha:aggD td with
   | false =>
    simp only [ha,cond_false] at hv
    have hi:fld.offset < us.size:=hl ▸ (List.getElem?_eq_some_iff.1 hv).1
    exact ⟨us[fld.offset],by simp [execOp,hu',Instr.field,run_und (P:=P) (t:=t) w,hf,asAgg,part,run_isAgg (P:=P) (t:=fld.type) w,ha,hi],hh _ v _ hv (by simp [hi])⟩
   | true =>
    simp only [ha,cond_true] at hv
    cases hle:Nat.ble (fld.offset + sz) cs.length with
    | false=>simp [hle] at hv
    | true =>
     have hle':=Nat.ble_le hle
     simp only [hle,cond_true,Option.some.injEq] at hv
     subst hv
     refine ⟨.agg (us.extract fld.offset (fld.offset + sz)),by simp [execOp,hu',Instr.field,run_und (P:=P) (t:=t) w,hf,asAgg,part,run_isAgg (P:=P) (t:=fld.type) w,ha,run_size (P:=P) (t:=fld.type) w],?_⟩
     refine .agg _ _ (by simp; omega) (fun c hc=>h1' c (List.mem_of_mem_drop (List.mem_of_mem_take hc))) ?_
     intro i c rv hc hv
     have hi:i < sz:=by
      have:=(List.getElem?_eq_some_iff.1 hc).1
      simp at this
      omega
     rw [List.getElem?_take_of_lt hi,List.getElem?_drop] at hc
     refine hh _ c rv hc ?_
     rw [Array.getElem?_extract] at hv
     split at hv
     ·exact hv
     ·cases hv) h

/-! lengths -/

theorem AOps.lenView {t u:TypeId} {e:TypeId} [hu:Und P t (.slice e)] {sz:Nat} {rows:List (List AV)} {tk:Tok}
  (hw:wantedA ops T ⟨some d,.call ⟨.builtin .len,#[x],#[t]⟩,u,pos,es,gd⟩=some true) (hd:dstOk (some d) n=true) (hx:ev st T x=some (.view sz rows tk))
  (h:AOps P n ops rest K E ((d,.int .i64 rows.length)::T) st):AOps P n ops (⟨some d,.call ⟨.builtin .len,#[x],#[t]⟩,u,pos,es,gd⟩::rest) K E T st :=
 AOps.pure hw hd _ (fun g w a' hs hk=>by
  have h1:=ev_R hs hk hx
  generalize hu':a'.eval x=u1 at h1
  cases h1 with
  | vemp=>exact ⟨goInt 0,by simp [execOp,resolve,invoke,builtin,hu',Builtin.len_,run_und (P:=P) (t:=t) w],.int _ _⟩
  | vnil=>exact ⟨goInt 0,by simp [execOp,resolve,invoke,builtin,hu',Builtin.len_,run_und (P:=P) (t:=t) w],.int _ _⟩
  | view=>exact ⟨goInt rows.length,by simp [execOp,resolve,invoke,builtin,hu',Builtin.len_,run_und (P:=P) (t:=t) w],.int _ _⟩) h

theorem AOps.lenMsl {t u:TypeId} {e:TypeId} [hu:Und P t (.slice e)] {o sz lo len:Nat}
  (hw:wantedA ops T ⟨some d,.call ⟨.builtin .len,#[x],#[t]⟩,u,pos,es,gd⟩=some true) (hd:dstOk (some d) n=true) (hx:ev st T x=some (.msl o sz lo len))
  (h:AOps P n ops rest K E ((d,.int .i64 len)::T) st):AOps P n ops (⟨some d,.call ⟨.builtin .len,#[x],#[t]⟩,u,pos,es,gd⟩::rest) K E T st :=
 AOps.pure hw hd _ (fun g w a' hs hk=>by
  have h1:=ev_R hs hk hx
  generalize hu':a'.eval x=u1 at h1
  cases h1 with
  | msl=>exact ⟨goInt len,by simp [execOp,resolve,invoke,builtin,hu',Builtin.len_,run_und (P:=P) (t:=t) w],.int _ _⟩) h

theorem AOps.lenStr {t u:TypeId} [hu:Und P t .string] {l:List UInt8}
  (hw:wantedA ops T ⟨some d,.call ⟨.builtin .len,#[x],#[t]⟩,u,pos,es,gd⟩=some true) (hd:dstOk (some d) n=true) (hx:ev st T x=some (.str l))
  (h:AOps P n ops rest K E ((d,.int .i64 l.length)::T) st):AOps P n ops (⟨some d,.call ⟨.builtin .len,#[x],#[t]⟩,u,pos,es,gd⟩::rest) K E T st :=
 AOps.pure hw hd _ (fun g w a' hs hk=>by
  have h1:=ev_R hs hk hx
  generalize hu':a'.eval x=u1 at h1
  cases h1 with
  | str=>exact ⟨goInt l.length,by simp [execOp,resolve,invoke,builtin,hu',Builtin.len_,run_und (P:=P) (t:=t) w]; rfl,.int _ _⟩) h

theorem AOps.min2 {u t1 t2:TypeId} {k:IntKind} {a b:Int}
  (hw:wantedA ops T ⟨some d,.call ⟨.builtin .min,#[x,y],#[t1,t2]⟩,u,pos,es,gd⟩=some true) (hd:dstOk (some d) n=true) (hx:ev st T x=some (.int k a)) (hy:ev st T y=some (.int k b))
  (h:AOps P n ops rest K E ((d,.int k (min a b))::T) st):AOps P n ops (⟨some d,.call ⟨.builtin .min,#[x,y],#[t1,t2]⟩,u,pos,es,gd⟩::rest) K E T st :=
 AOps.pure hw hd _ (fun g w a' hs hk=>by
  have h1:=ev_R hs hk hx
  have h2:=ev_R hs hk hy
  generalize hu':a'.eval x=u1 at h1
  generalize hv':a'.eval y=u2 at h2
  cases h1
  cases h2
  refine ⟨.int k (if b < a then b else a),by simp [execOp,resolve,invoke,builtin,hu',hv',Builtin.min_,Builtin.min2],?_⟩
  rw [show (min a b:Int)=if b < a then b else a from by split <;> omega]
  exact .int _ _) h

/-! slices of slices and strings -/

theorem list_extract_eq (l:List UInt8) (a b:Nat):(⟨⟨l⟩⟩:ByteArray).extract a b=⟨⟨(l.drop a).take (b - a)⟩⟩:=by
 apply ByteArray.ext
 rw [ByteArray.data_extract]
 apply Array.ext'
 simp [List.extract_eq_take_drop]

theorem AOps.sliceStr {t:TypeId} [hu:Und P t .string] {l:List UInt8} {lo hi:Option Operand} {a b:Nat}
  (hw:wantedA ops T ⟨some d,.slice t x lo hi none,ty,pos,es,gd⟩=some true) (hd:dstOk (some d) n=true) (hx:ev st T x=some (.str l))
  (hlo:(lo=none∧a=0)∨∃ y k,lo=some y∧ev st T y=some (.int k (a:Int))) (hhi:(hi=none∧b=l.length)∨∃ y k,hi=some y∧ev st T y=some (.int k (b:Int))) (hab:a≤b) (hb:b≤l.length)
  (h:AOps P n ops rest K E ((d,.str ((l.drop a).take (b - a)))::T) st):AOps P n ops (⟨some d,.slice t x lo hi none,ty,pos,es,gd⟩::rest) K E T st :=
 AOps.pure hw hd _ (fun g w a' hs hk=>by
  have h1:=ev_R hs hk hx
  generalize hu':a'.eval x=u1 at h1
  cases h1
  have hsz:(⟨⟨l⟩⟩:ByteArray).size=l.length:=rfl
  refine ⟨.string ((⟨⟨l⟩⟩:ByteArray).extract a b),?_,by rw [list_extract_eq]; exact .str _⟩
  have hlo':∀ w,(match lo.map a'.eval with|some v=>Instr.sliceBound v b .sliceB|none=>(Pure.pure 0:Sem Nat)).run P w=.ok a w:=by
   intro w
   rcases hlo with ⟨rfl,rfl⟩|⟨y,k,rfl,hy⟩
   ·rfl
   ·have h2:=ev_R hs hk hy
    generalize hv:a'.eval y=u2 at h2
    cases h2
    simp only [Option.map_some,hv]
    rw [run_sliceBound w k a b .sliceB (by omega) (by omega)]
    simp
  have hhi':∀ w,(match hi.map a'.eval with|some v=>Instr.sliceBound v l.length .sliceAlen|none=>(Pure.pure l.length:Sem Nat)).run P w=.ok b w:=by
   intro w
   rcases hhi with ⟨rfl,rfl⟩|⟨y,k,rfl,hy⟩
   ·rfl
   ·have h2:=ev_R hs hk hy
    generalize hv:a'.eval y=u2 at h2
    cases h2
    simp only [Option.map_some,hv]
    rw [run_sliceBound w k b l.length .sliceAlen (by omega) (by omega)]
    simp
  have hb3:(Instr.sliceBounds false l.length l.length (lo.map a'.eval) (hi.map a'.eval) none).run P w=.ok (a,b,l.length) w:=by
   unfold Instr.sliceBounds
   simp only [Sem.run_bind,Sem.run_pure,Result.andThen_ok]
   have e1:=hhi' w
   have e2:=hlo' w
   cases hx1:hi.map a'.eval with
   | none =>
    rw [hx1] at e1
    simp only [Sem.run_pure,Result.ok.injEq,and_true] at e1
    subst e1
    cases hx2:lo.map a'.eval with
    | none=>rw [hx2] at e2; simp at e2; simp [e2]
    | some v=>rw [hx2] at e2; simp [e2]
   | some v1 =>
    rw [hx1] at e1
    cases hx2:lo.map a'.eval with
    | none=>rw [hx2] at e2; simp at e2; simp [e1,e2]
    | some v=>rw [hx2] at e2; simp [e1,e2]
  simp [execOp,hu',Instr.sliceAt,run_und (P:=P) (t:=t) w,Instr.slice,hsz,hb3]) h

end
end Go.AM
namespace Go.AM
open Go.RowKit (Below)

section
variable {P:Program} {n:Nat} {K:Post} {E:EPost} {T:Tmps} {st:St} {ops:Array Oper} {rest:List Oper}
variable {d:Tmp} {x y z:Operand} {ty:TypeId} {pos:String} {es:Array Edge} {gd:Option (Nat × Bool)}

/-! calls -/

def ACalls (P:Program) (f:FuncId) (args:List AV) (st:St) (Rt RP:AV→St→Prop):Prop :=
 ∀ g w (rargs:Array Value),Sim g w st→args.length=rargs.size→(∀ (i:Nat) c v,args[i]?=some c→rargs[i]?=some v→R g w c v) →
  Calls P f rargs w fun e w'=>∃ g' st',Ext g w g' w'∧Sim g' w' st'∧match e with
   | .returned rv=>∃ v,R g' w' v rv∧Rt v st'
   | .panicked ch=>∃ pv v,ch=[{ v:=v,recovered:=false }]∧R g' w' pv v∧RP pv st'
   | .outgrown=>False

theorem ACalls.mono {f:FuncId} {args:List AV} {Rt RP Rt' RP':AV→St→Prop} (h:ACalls P f args st Rt RP) (h1:∀ v st,Rt v st→Rt' v st) (h2:∀ v st,RP v st→RP' v st):ACalls P f args st Rt' RP' :=
 fun g w rargs hs hl ha=>(h g w rargs hs hl ha).mono fun e w' ⟨g',st',he,hs',hq⟩=>⟨g',st',he,hs',by
  cases e with
  | returned rv=>obtain ⟨v,x1,x2⟩:=hq; exact ⟨v,x1,h1 _ _ x2⟩
  | panicked ch=>obtain ⟨pv,v,x1,x2,x3⟩:=hq; exact ⟨pv,v,x1,x2,h2 _ _ x3⟩
  | outgrown=>exact hq⟩

class GoFun (P:Program) (f:FuncId):Prop where
 out : ∃ fn, P.funcs[f]? = some fn ∧ fn.body.isNone = false ∧ (fn.name == "runtime.NumGoroutine") = false

def evs (st:St) (T:Tmps):List Operand→Option (List AV)
 | []=>some []
 | x::r=>match ev st T x,evs st T r with
  | some v,some vs=>some (v::vs)
  | _,_=>none

theorem evs_R {g:G} {w:World} {a:Act} (hs:Sim g w st) (hk:Known g w T a):∀ (xs:List Operand) (vs:List AV),evs st T xs=some vs →
  vs.length=xs.length∧∀ (i:Nat) c v,vs[i]?=some c→(xs.map a.eval)[i]?=some v→R g w c v
 | [],vs,h=>by simp [evs] at h; subst h; exact ⟨rfl,fun i c v hc=>by simp at hc⟩
 | x::r,vs,h=>by
  unfold evs at h
  cases h1:ev st T x with
  | none=>simp [h1] at h
  | some u =>
   cases h2:evs st T r with
   | none=>simp [h1,h2] at h
   | some us =>
    simp [h1,h2] at h
    subst h
    obtain ⟨hl,hr⟩:=evs_R hs hk r us h2
    refine ⟨by simp [hl],fun i c v hc hv=>?_⟩
    cases i with
    | zero=>simp at hc hv; subst hc; subst hv; exact ev_R hs hk h1
    | succ i=>exact hr i c v (by simpa using hc) (by simpa using hv)

theorem AOps.callFn {d:Option Tmp} {f:FuncId} [hf:GoFun P f] {args:Array Operand} {tys:Array TypeId} {avs:List AV} {Rt RP:AV→St→Prop}
  (hw:wantedA ops T ⟨d,.call ⟨.value (.func f),args,tys⟩,ty,pos,es,gd⟩=some true) (hd:dstOk d n=true) (ha:evs st T args.toList=some avs)
  (hc:ACalls P f avs st Rt RP) (h:∀ v st',Rt v st'→AOps P n ops rest K E (T.put d v) st') (hp:∀ v st',RP v st'→E (.panic v) T st') :
  AOps P n ops (⟨d,.call ⟨.value (.func f),args,tys⟩,ty,pos,es,gd⟩::rest) K E T st:=by
 intro g w a hs hk hn
 obtain ⟨hl,hr⟩:=evs_R hs hk _ _ ha
 obtain ⟨fn,h1,h2,h3⟩:=hf.out
 have hcall:=hc g w (args.map a.eval) hs (by simpa using hl) (fun i c v hc hv=>hr i c v hc (by simpa using hv))
 unfold wpList
 rw [wanted_of hk hw,if_pos rfl]
 left
 have hrun:(execOp a.eval ⟨d,.call ⟨.value (.func f),args,tys⟩,ty,pos,es,gd⟩).run P w=.ok (.enter f (args.map a.eval)) w:=by
  have h2':¬ fn.body=none:=by intro e; simp [e] at h2
  have h3' : ¬ fn.name = "runtime.NumGoroutine" := by simpa using h3
  simp [execOp,resolve,Act.eval,Deferred.ofValue,invoke,callFunc,h1,h2',h3']
 unfold Oper.wp
 rw [hrun]
 simp only [Oper.upon]
 refine hcall.mono fun e w' ⟨g',st',he,hs',hq⟩=>?_
 cases e with
 | returned rv =>
  obtain ⟨v,hR,hRt⟩:=hq
  have h4:=h v st' hRt g' w' (a.put d rv) hs' ((hk.ext he).put (fun t ht=>hn ▸ dstOk_lt hd t ht) hR) (by rw [Act.size_put]; exact hn)
  rw [Act.defers_put] at h4
  exact wpList_mono (fun _ _ _ q=>QOf.ext he q) rest _ _ h4
 | panicked ch =>
  obtain ⟨pv,v,x1,x2,x3⟩:=hq
  exact ⟨hn,rfl,g',T,st',he,hs',hk.ext he,pv,v,x1,x2,hp pv st' x3⟩
 | outgrown=>exact hq.elim

/-! the body of a function -/

def zipFrom:Nat→List AV→Tmps
 | _,[]=>[]
 | i,v::r=>(i,v)::zipFrom (i + 1) r

theorem get_zipFrom:∀ (l:List AV) (i j:Nat) v,(zipFrom i l).get j=some v→i≤j∧l[j - i]?=some v
 | [],i,j,v,h=>by cases h
 | u::r,i,j,v,h=>by
  rw [zipFrom,Tmps.get_cons] at h
  by_cases hi:i=j
  ·subst hi; simp at h; subst h; simp
  ·rw [if_neg hi] at h
   obtain ⟨h1,h2⟩:=get_zipFrom r (i + 1) j v h
   refine ⟨by omega,?_⟩
   rw [show j - i=(j - (i + 1)) + 1 by omega]
   simpa using h2

def resA (P:Program) (st:St) (T:Tmps):List ResultVar→Option (List AV)
 | []=>some []
 | .tmp t::r=>match T.get t,resA P st T r with
  | some v,some vs=>some (v::vs)
  | _,_=>none
 | .cell t ty::r=>match T.get t,P.underlying ty,P.info? ty,resA P st T r with
  | some (.cptr o s i off),some td,some inf,some vs=>match st.obj o with
   | some (.cells _ s' rows)=>bif Nat.beq s s' then (match rows[i]? with
    | some row=>match sel (aggD td) inf.size row off with
     | some v=>some (v::vs)
     | none=>none
    | none=>none) else none
   | _=>none
  | _,_,_,_=>none

def packA:List AV→AV
 | [v]=>v
 | vs=>.tuple vs

def resM (tmps:Array Value):ResultVar→Sem Value
 | .tmp t=>Pure.pure (tmps.getD t undef)
 | .cell a t=>do loadVar t (← asAddr (tmps.getD a undef))

theorem results_eq (fn:Func) (tmps:Array Value):results fn tmps=(do let vs ← fn.results.mapM (resM tmps); Pure.pure (if h:vs.size=1 then vs[0] else .tuple vs)):=by
 unfold results
 have e:(fun r:ResultVar=>match r with
  | .tmp t=>(Pure.pure (tmps.getD t undef):Sem Value)
  | .cell a t=>do loadVar t (← asAddr (tmps.getD a undef)))=resM tmps:=by
  funext r
  cases r <;> rfl
 exact congrArg (fun f=>(do let vs ← fn.results.mapM f; Pure.pure (if h:vs.size=1 then vs[0] else .tuple vs):Sem Value)) e

theorem resA_R {g:G} {w:World} {a:Act} (hs:Sim g w st) (hk:Known g w T a):∀ (rs:List ResultVar) (vs:List AV),resA P st T rs=some vs →
  ∃ rvs:List Value,(rs.mapM (resM a.tmps)).run P w=.ok rvs w∧vs.length=rvs.length∧∀ (i:Nat) c v,vs[i]?=some c→rvs[i]?=some v→R g w c v
 | [],vs,h=>by simp [resA] at h; subst h; exact ⟨[],by simp,rfl,fun i c v hc=>by simp at hc⟩
 | .tmp t::r,vs,h=>by
  unfold resA at h
  cases h1:T.get t with
  | none=>simp [h1] at h
  | some u =>
   cases h2:resA P st T r with
   | none=>simp [h1,h2] at h
   | some us =>
    simp [h1,h2] at h
    subst h
    obtain ⟨rvs,hrun,hl,hr⟩:=resA_R hs hk r us h2
    obtain ⟨rv,h3,h4⟩:=hk t u h1
    refine ⟨rv::rvs,?_,by simp [hl],fun i c v hc hv=>?_⟩
    ·simp only [List.mapM_cons,resM,Sem.run_bind,Sem.run_pure,Result.andThen_ok,hrun,Array.getD_eq_getD_getElem?,h3,Option.getD_some]
    ·cases i with
     | zero=>simp at hc hv; subst hc; subst hv; exact h4
     | succ i=>exact hr i c v (by simpa using hc) (by simpa using hv)
 | .cell t ty::r,vs,h=>by
  unfold resA at h
  cases h1:T.get t with
  | none=>simp [h1] at h
  | some u =>
   cases hu:P.underlying ty with
   | none=>cases u <;> simp [h1,hu] at h
   | some td =>
    cases hi:P.info? ty with
    | none=>cases u <;> simp [h1,hu,hi] at h
    | some inf =>
     cases h2:resA P st T r with
     | none=>cases u <;> simp [h1,hu,hi,h2] at h
     | some us =>
      cases u <;> simp [h1,hu,hi,h2] at h
      rename_i o s i off
      cases ho:st.obj o with
      | none=>simp [ho] at h
      | some c =>
       cases c <;> simp [ho] at h
       rename_i oty s' rows
       cases hss:Nat.beq s s' with
       | false=>simp [hss] at h
       | true =>
        have hse:=Nat.eq_of_beq_eq_true hss
        subst hse
        simp at h
        cases hr:rows[i]? with
        | none=>simp [hr] at h
        | some row =>
         simp only [hr] at h
         cases hv:sel (aggD td) inf.size row off with
         | none=>simp [hv] at h
         | some v =>
          simp [hv] at h
          subst h
          obtain ⟨rvs,hrun,hl,hrr⟩:=resA_R hs hk r us h2
          obtain ⟨rp,h3,h4⟩:=hk t _ h1
          cases h4 with
          | cptr _ _ _ _ b m' hb =>
           obtain ⟨_,⟨arr,ha,hsz,_,hl',h1',hc⟩,_⟩:=hs.objOf ho hb
           obtain ⟨rv,h5,h6⟩:∃ rv,(loadVar ty ⟨b,i * s + off,none⟩).run P w=.ok rv w∧R g w v rv:=by
            haveI:Und P ty td:=⟨hu⟩
            unfold sel at hv
            have hcell:∀ (j:Nat) c,row[j]?=some c→∃ rv,w.cell? ⟨b,i * s + j,none⟩=some rv∧R g w c rv:=fun j c hj=>by
             obtain ⟨v,hv1,hv2⟩:=hc i j row c hr hj
             exact ⟨v,by rw [cell_of_row w b _ arr oty (0,0) ha]; exact hv1,hv2⟩
            cases hagg:aggD td with
            | false =>
             simp only [hagg,cond_false] at hv
             obtain ⟨rv,h2',h3'⟩:=hcell off v hv
             exact ⟨rv,by simp [loadVar,run_isAgg (P:=P) (t:=ty) w,hagg,h2'],h3'⟩
            | true =>
             simp only [hagg,cond_true] at hv
             cases hble:Nat.ble (off + inf.size) row.length with
             | false=>simp [hble] at hv
             | true =>
              have hle:=Nat.ble_le hble
              simp only [hble,cond_true,Option.some.injEq] at hv
              subst hv
              refine ⟨.agg ((List.range inf.size).map fun j=>(w.cell? ⟨b,i * s + off + j,none⟩).getD undef).toArray,?_,?_⟩
              ·have hl2:=run_loadCells (P:=P) w ⟨b,i * s + off,none⟩ inf.size (fun j=>(w.cell? ⟨b,i * s + off + j,none⟩).getD undef) (fun j hj=>by
                obtain ⟨rv,h2',_⟩:=hcell (off + j) row[off + j] (List.getElem?_eq_getElem (by omega))
                rw [addr_add,Nat.add_assoc,h2']
                rfl)
               simp [loadVar,run_isAgg (P:=P) (t:=ty) w,hagg,sizeOf,typeInfo,hi,hl2]
              ·refine .agg _ _ (by simp; omega) (fun c hc=>h1' row (List.mem_of_getElem? hr) c (List.mem_of_mem_drop (List.mem_of_mem_take hc))) ?_
               intro k c rv hc hv
               have hk:k < inf.size:=by
                have:=(List.getElem?_eq_some_iff.1 hc).1
                simp at this
                omega
               rw [List.getElem?_take_of_lt hk,List.getElem?_drop] at hc
               obtain ⟨rv',h2',h3'⟩:=hcell (off + k) c hc
               simp [hk,Nat.add_assoc,h2'] at hv
               subst hv
               exact h3'
           refine ⟨rv::rvs,?_,by simp [hl],fun i c v hc hv=>?_⟩
           ·simp only [List.mapM_cons,resM,Sem.run_bind,Array.getD_eq_getD_getElem?,h3,Option.getD_some,asAddr,Sem.run_pure,Result.andThen_ok,h5,hrun]
           ·cases i with
            | zero=>simp at hc hv; subst hc; subst hv; exact h6
            | succ i=>exact hrr i c v (by simpa using hc) (by simpa using hv)

theorem results_R {fn:Func} {g:G} {w:World} {a:Act} (hs:Sim g w st) (hk:Known g w T a) {vs:List AV} (h:resA P st T fn.results.toList=some vs) :
  ∃ rv,(results fn a.tmps).run P w=.ok rv w∧R g w (packA vs) rv:=by
 obtain ⟨rvs,hrun,hl,hr⟩:=resA_R hs hk _ _ h
 have hrun':(fn.results.mapM (resM a.tmps)).run P w=.ok rvs.toArray w:=by
  rw [Array.mapM_eq_mapM_toList,Sem.run_map,hrun]
  rfl
 refine ⟨if h:rvs.toArray.size=1 then rvs.toArray[0] else .tuple rvs.toArray,?_,?_⟩
 ·rw [results_eq,Sem.run_bind,hrun']
  rfl
 ·match vs,rvs,hl,hr with
  | [],[],_,hr=>exact .tuple _ _ rfl (fun i c v hc=>by simp at hc)
  | [v],[rv],_,hr=>exact hr 0 v rv rfl rfl
  | v::v'::vs,rv::rv'::rvs,hl,hr =>
   simp only [List.size_toArray,List.length_cons,Nat.add_eq_right,Nat.add_eq_zero_iff,Nat.succ_ne_self,and_false,↓reduceDIte,packA]
   exact .tuple _ _ (by simpa using hl) (fun i c v hc hv=>hr i c v hc (by simpa using hv))

theorem ACalls.of_body {f:FuncId} {fn:Func} {c:Code} {args:List AV} {Rt RP:AV→St→Prop} (hf:P.funcs[f]?=some fn) (hb:fn.body=some c) (hn:fn.ntmps=n) (hl:args.length≤n)
  (h:AWP P n c (fun T' st'=>∃ vs v,resA P st' T' fn.results.toList=some vs∧Le (packA vs) v∧Rt v st')
   (fun e T' st'=>match e with
    | .ret=>∃ vs v,resA P st' T' fn.results.toList=some vs∧Le (packA vs) v∧Rt v st'
    | .panic pv=>RP pv st'
    | .exit _=>False) (zipFrom 0 args) st):ACalls P f args st Rt RP:=by
 intro g w rargs hs hlen ha
 refine calls_of_wp hf hb (Code.wp_mono (fun e a' w' hq=>?_) (h g w { tmps:=rargs++Array.replicate (fn.ntmps - rargs.size) undef,defers:=[] } hs ?_ ?_))
 ·obtain ⟨h1,h2,g',T',st',h3,h4,h5,h6⟩:=hq
  have ret:(∃ vs v,resA P st' T' fn.results.toList=some vs∧Le (packA vs) v∧Rt v st')→∃ v,(results fn a'.tmps).run P w'=.ok v w' ∧
    ∃ g' st',Ext g w g' w'∧Sim g' w' st'∧∃ u,R g' w' u v∧Rt u st':=by
   rintro ⟨vs,v,hr,hle,hRt⟩
   obtain ⟨rv,hrun,hR⟩:=results_R (fn:=fn) h4 h5 hr
   exact ⟨rv,hrun,g',st',h3,h4,v,hR.le hle,hRt⟩
  cases e with
  | normal=>exact ⟨h2,ret h6⟩
  | ret=>exact ⟨h2,ret h6⟩
  | panic ch=>exact ⟨h2,g',st',h3,h4,h6⟩
  | exit id=>exact h6.elim
  | goto l=>exact h6.elim
  | outgrown=>exact h6.elim
 ·intro i v hv
  obtain ⟨_,h2⟩:=get_zipFrom args 0 i v hv
  have hi:i < rargs.size:=by rw [← hlen]; exact (List.getElem?_eq_some_iff.1 h2).1
  refine ⟨rargs[i],?_,ha i v _ h2 (by simp [hi])⟩
  rw [Array.getElem?_append_left hi]
  simp [hi]
 ·simp; omega

end
end Go.AM
namespace Go.AM
open Go.RowKit (Below)

def kindEq:IntKind→IntKind→Bool
 | .i8,.i8|.i16,.i16|.i32,.i32|.i64,.i64|.u8,.u8|.u16,.u16|.u32,.u32|.u64,.u64=>true
 | _,_=>false

theorem kindEq_eq {j k:IntKind} (h:kindEq j k=true):j=k:=by cases j <;> cases k <;> first|rfl|(simp [kindEq] at h)

def cmpA (bo:BinOp) (x y:Option AV):Option AV :=
 match x,y with
 | some (.int j a),some (.int k b)=>bif kindEq j k then (match bo with
  | .lss=>some (.bool (decide (a < b)))
  | .leq=>some (.bool (decide (a≤b)))
  | .gtr=>some (.bool (decide (b < a)))
  | .geq=>some (.bool (decide (b≤a)))
  | .eql=>some (.bool (decide (a=b)))
  | .neq=>some (.bool (decide (a≠b)))
  | _=>none) else none
 | some (.str a),some (.str b)=>match bo with
  | .eql=>some (.bool (decide (a=b)))
  | .neq=>some (.bool (decide (a≠b)))
  | _=>none
 | _,_=>none

def valA (st:St) (T:Tmps):Op→Option AV
 | .move x|.assign x=>ev st T x
 | .pick c a b=>match ev st T c with
  | some (.bool true)=>ev st T a
  | some (.bool false)=>ev st T b
  | _=>none
 | .binOp bo _ x y _=>cmpA bo (ev st T x) (ev st T y)
 | .unOp .not _ x=>match ev st T x with
  | some (.bool b)=>some (.bool (!b))
  | _=>none
 | .extract x i=>match ev st T x with
  | some (.tuple vs)=>vs[i]?
  | _=>none
 | .nilCheck x=>match ev st T x with
  | some (.eptr s rows i off)=>some (.eptr s rows i off)
  | some (.cptr o s i off)=>some (.cptr o s i off)
  | _=>none
 | _=>none

def dstA (n:Nat):Option Tmp→Option Tmp
 | some d=>bif Nat.blt d n then some d else none
 | none=>none

theorem dstA_some {n:Nat} {o:Option Tmp} {d:Tmp} (h:dstA n o=some d):o=some d∧dstOk o n=true:=by
 cases o with
 | none=>cases h
 | some t =>
  simp only [dstA] at h
  cases hb:Nat.blt t n with
  | false=>rw [hb] at h; cases h
  | true=>rw [hb] at h; cases h; exact ⟨rfl,hb⟩

def goes (ops:Array Oper) (n:Nat) (T:Tmps) (o:Oper):Option Tmp :=
 match wantedA ops T o with
 | some true=>dstA n o.dst
 | _=>none

theorem goes_some {ops:Array Oper} {n:Nat} {T:Tmps} {o:Oper} {d:Tmp} (h:goes ops n T o=some d):wantedA ops T o=some true∧o.dst=some d∧dstOk o.dst n=true:=by
 unfold goes at h
 split at h
 ·rename_i hw
  exact ⟨hw,dstA_some h⟩
 ·cases h

section
variable {P:Program} {n:Nat} {K:Post} {E:EPost} {T:Tmps} {st:St} {ops:Array Oper} {rest:List Oper}

theorem cmpA_run {bo:BinOp} {g:G} {w:World} {t:TypeId} {x y:Operand} {a:Act} {vx vy v:AV} (hx:R g w vx (a.eval x)) (hy:R g w vy (a.eval y)) (h:cmpA bo (some vx) (some vy)=some v) :
  ∃ rv,(do eqGuard bo t x y (a.eval x) (a.eval y); binOp bo t (a.eval x) (a.eval y):Sem Value).run P w=.ok rv w∧R g w v rv:=by
 unfold cmpA at h
 split at h
 ·rename_i j p k q e1 e2
  simp only [Option.some.injEq] at e1 e2
  subst e1 e2
  generalize hux:a.eval x=ux at hx
  generalize huy:a.eval y=uy at hy
  cases hx
  cases hy
  cases hk:kindEq j k with
  | false=>rw [hk] at h; cases h
  | true =>
   rw [hk] at h
   have:=kindEq_eq hk
   subst this
   cases bo <;> simp only [cond_true,Option.some.injEq,reduceCtorEq] at h <;> subst h
   ·exact ⟨.bool (p == q),by simp only [eqGuard_at_int,binOp_eql,Sem.run_bind,Sem.run_pure,Result.andThen_ok],by rw [show (p == q)=decide (p=q) from by rw [Bool.eq_iff_iff]; simp]; exact .bool _⟩
   ·exact ⟨.bool (p != q),by simp only [eqGuard_at_int,binOp_neq,Sem.run_bind,Sem.run_pure,Result.andThen_ok],by rw [show (p != q)=decide (p≠q) from by rw [Bool.eq_iff_iff]; simp]; exact .bool _⟩
   ·exact ⟨_,by simp only [eqGuard_at_int,binOp_lss,Sem.run_bind,Sem.run_pure,Result.andThen_ok],.bool _⟩
   ·exact ⟨_,by simp only [eqGuard_at_int,binOp_leq,Sem.run_bind,Sem.run_pure,Result.andThen_ok],.bool _⟩
   ·exact ⟨_,by simp only [eqGuard_at_int,binOp_gtr,Sem.run_bind,Sem.run_pure,Result.andThen_ok],.bool _⟩
   ·exact ⟨_,by simp only [eqGuard_at_int,binOp_geq,Sem.run_bind,Sem.run_pure,Result.andThen_ok],.bool _⟩
 ·rename_i p q e1 e2
  simp only [Option.some.injEq] at e1 e2
  subst e1 e2
  generalize hux:a.eval x=ux at hx
  generalize huy:a.eval y=uy at hy
  cases hx
  cases hy
  cases bo <;> simp only [Option.some.injEq,reduceCtorEq] at h <;> subst h
  ·exact ⟨.bool (p == q),by simp only [eqGuard_at_string,binOp_string_eql,Sem.run_bind,Sem.run_pure,Result.andThen_ok,ByteArray.toList_mk],by rw [show (p == q)=decide (p=q) from by rw [Bool.eq_iff_iff]; simp]; exact .bool _⟩
  ·exact ⟨.bool (!(p == q)),by simp only [eqGuard_at_string,binOp_string_neq,Sem.run_bind,Sem.run_pure,Result.andThen_ok,ByteArray.toList_mk],by rw [show (!(p == q))=decide (p≠q) from by rw [Bool.eq_iff_iff]; simp]; exact .bool _⟩
 ·cases h

theorem valA_run {o:Oper} {v:AV} (h:valA st T o.op=some v) {g:G} {w:World} {a:Act} (hs:Sim g w st) (hk:Known g w T a):∃ rv,(execOp a.eval o).run P w=.ok (.value rv) w∧R g w v rv:=by
 unfold execOp
 cases ho:o.op <;> simp only [ho,valA,reduceCtorEq] at h ⊢
 case move x=>exact ⟨_,rfl,ev_R hs hk h⟩
 case assign x=>exact ⟨_,rfl,ev_R hs hk h⟩
 case pick c x y =>
  split at h
  ·rename_i hc
   have h1:=ev_R hs hk hc
   generalize hu:a.eval c=u at h1
   cases h1
   exact ⟨a.eval x,by simp [asBool],ev_R hs hk h⟩
  ·rename_i hc
   have h1:=ev_R hs hk hc
   generalize hu:a.eval c=u at h1
   cases h1
   exact ⟨a.eval y,by simp [asBool],ev_R hs hk h⟩
  ·cases h
 case binOp bo t x y u =>
  cases hx:ev st T x with
  | none=>rw [hx] at h; simp [cmpA] at h
  | some vx =>
   cases hy:ev st T y with
   | none=>rw [hx,hy] at h; cases vx <;> simp [cmpA] at h
   | some vy =>
    rw [hx,hy] at h
    obtain ⟨rv,h1,h2⟩:=cmpA_run (P:=P) (t:=t) (x:=x) (y:=y) (ev_R hs hk hx) (ev_R hs hk hy) h
    refine ⟨rv,?_,h2⟩
    rw [Sem.run_bind,h1]
    rfl
 case unOp uo t x =>
  cases uo <;> simp only [reduceCtorEq] at h
  split at h
  ·rename_i b hx
   have h1:=ev_R hs hk hx
   generalize hu:a.eval x=u at h1
   cases h1
   simp only [Option.some.injEq] at h
   subst h
   exact ⟨.bool (!b),by simp [unary_not],.bool _⟩
  ·cases h
 case extract x i =>
  split at h
  ·rename_i vs hx
   have h1:=ev_R hs hk hx
   generalize hu:a.eval x=u at h1
   cases h1 with
   | tuple _ us hl hh =>
    have hi:i < us.size:=hl ▸ (List.getElem?_eq_some_iff.1 h).1
    exact ⟨us[i],by simp [Instr.extract,hi],hh i v _ h (by simp [hi])⟩
  ·cases h
 case nilCheck x =>
  split at h
  ·rename_i s rows i off hx
   have h1:=ev_R hs hk hx
   generalize hu:a.eval x=u at h1
   simp only [Option.some.injEq] at h
   subst h
   refine ⟨u,?_,h1⟩
   cases h1; rfl
  ·rename_i o' s i off hx
   have h1:=ev_R hs hk hx
   generalize hu:a.eval x=u at h1
   simp only [Option.some.injEq] at h
   subst h
   refine ⟨u,?_,h1⟩
   cases h1; rfl
  ·cases h

def step1 (ops:Array Oper) (n:Nat) (st:St) (T:Tmps) (o:Oper):Option (Tmp × AV) :=
 match goes ops n T o,valA st T o.op with
 | some d,some v=>some (d,v)
 | _,_=>none

theorem sm {o:Oper} {d:Tmp} {v:AV} (h:step1 ops n st T o=some (d,v)) (k:AOps P n ops rest K E ((d,v)::T) st):AOps P n ops (o::rest) K E T st:=by
 unfold step1 at h
 split at h
 ·rename_i d' v' hg hv
  simp only [Option.some.injEq,Prod.mk.injEq] at h
  obtain ⟨rfl,rfl⟩:=h
  obtain ⟨hw,hd,hok⟩:=goes_some hg
  exact AOps.pure hw hok v' (fun g w a hs hk=>valA_run hv hs hk) (by rw [hd]; exact k)
 ·cases h

def step0 (ops:Array Oper) (n:Nat) (T:Tmps) (o:Oper):Option Tmp :=
 match wantedA ops T o with
 | some false=>dstA n o.dst
 | _=>none

theorem uw {o:Oper} {d:Tmp} (h:step0 ops n T o=some d) (k:AOps P n ops rest K E ((d,.lit undef)::T) st):AOps P n ops (o::rest) K E T st:=by
 unfold step0 at h
 split at h
 ·rename_i hw
  obtain ⟨hd,hok⟩:=dstA_some h
  exact AOps.unwanted hw hok (by rw [hd]; exact k)
 ·cases h

variable {ty:TypeId} {pos:String} {es:Array Edge} {gd:Option (Nat × Bool)} {d:Tmp} {x y:Operand}

def ptrA (off:Nat):Option AV→Option AV
 | some (.eptr s rows i o)=>some (.eptr s rows i (o + off))
 | some (.cptr o s i f)=>some (.cptr o s i (f + off))
 | _=>none

theorem ptrA_some {off:Nat} {p:Option AV} {q:AV} (h:ptrA off p=some q):∃ p',p=some p' ∧
  ((∃ s rows i o,p'=.eptr s rows i o∧q=.eptr s rows i (o + off))∨(∃ o s i f,p'=.cptr o s i f∧q=.cptr o s i (f + off))):=by
 unfold ptrA at h
 split at h
 ·simp only [Option.some.injEq] at h; exact ⟨_,rfl,.inl ⟨_,_,_,_,rfl,h.symm⟩⟩
 ·simp only [Option.some.injEq] at h; exact ⟨_,rfl,.inr ⟨_,_,_,_,rfl,h.symm⟩⟩
 ·cases h

class Fld (P:Program) (t:TypeId) (f:Nat) (off:outParam Nat) (ft:outParam TypeId):Prop where
 out:∃ fs fld,P.underlying t=some (.struct fs)∧fs[f]?=some fld∧fld.offset=off∧fld.type=ft

theorem fa {dd:Option Tmp} {t ft:TypeId} {f off:Nat} [hf:Fld P t f off ft] {sz by_:Nat} {zz:Value} [hi:Inf P ft (sz + 1) by_ zz] {q:AV} (hg:goes ops n T ⟨dd,.fieldAddr t x f,ty,pos,es,gd⟩=some d)
  (hx:ptrA off (ev st T x)=some q)
  (k:AOps P n ops rest K E ((d,q)::T) st):AOps P n ops (⟨dd,.fieldAddr t x f,ty,pos,es,gd⟩::rest) K E T st:=by
 obtain ⟨hw,hd,hok⟩:=goes_some hg
 simp only at hd
 subst hd
 obtain ⟨fs,fld,hu,hfl,rfl,rfl⟩:=hf.out
 haveI:Und P t (.struct fs):=⟨hu⟩
 obtain ⟨p,h1,h2⟩:=ptrA_some hx
 exact AOps.fieldAddr hw hok hfl (by omega) h1 h2 k

theorem le {dd:Option Tmp} {t:TypeId} {td:TypeDesc} [hu:Und P t td] {sz by_:Nat} {zz:Value} [hi:Inf P t sz by_ zz] {s:Nat} {rows:List (List AV)} {i off:Nat} {row:List AV} {v:AV}
  (hg:goes ops n T ⟨dd,.load t x,ty,pos,es,gd⟩=some d) (hx:ev st T x=some (.eptr s rows i off)) (hr:rows[i]?=some row) (hv:sel (aggD td) sz row off=some v)
  (k:AOps P n ops rest K E ((d,v)::T) st):AOps P n ops (⟨dd,.load t x,ty,pos,es,gd⟩::rest) K E T st:=by
 obtain ⟨hw,hd,hok⟩:=goes_some hg
 simp only at hd
 subst hd
 exact AOps.loadE hw hok hx hr hv k

theorem lc {dd:Option Tmp} {t:TypeId} {td:TypeDesc} [hu:Und P t td] {sz by_:Nat} {zz:Value} [hi:Inf P t sz by_ zz] {o s:Nat} {rows:List (List AV)} {i off:Nat} {row:List AV} {v:AV}
  (hg:goes ops n T ⟨dd,.load t x,ty,pos,es,gd⟩=some d) (hx:ev st T x=some (.cptr o s i off)) {oty:TypeId} (ho:st.obj o=some (.cells oty s rows)) (hr:rows[i]?=some row) (hv:sel (aggD td) sz row off=some v)
  (k:AOps P n ops rest K E ((d,v)::T) st):AOps P n ops (⟨dd,.load t x,ty,pos,es,gd⟩::rest) K E T st:=by
 obtain ⟨hw,hd,hok⟩:=goes_some hg
 simp only at hd
 subst hd
 exact AOps.loadC hw hok hx ho hr hv k

theorem ix {dd:Option Tmp} {t e:TypeId} [hu:Und P t (.slice e)] {sz by_:Nat} {zz:Value} [hi:Inf P e sz by_ zz] {rows:List (List AV)} {tk:Tok} {k:IntKind} {i:Int} {m:Nat}
  (hg:goes ops n T ⟨dd,.indexAddr t x y,ty,pos,es,gd⟩=some d) (hx:ev st T x=some (.view sz rows tk)) (hy:ev st T y=some (.int k i)) (hm:i=m) (hlt:m < rows.length)
  (kk:AOps P n ops rest K E ((d,.eptr sz rows m 0)::T) st):AOps P n ops (⟨dd,.indexAddr t x y,ty,pos,es,gd⟩::rest) K E T st:=by
 obtain ⟨hw,hd,hok⟩:=goes_some hg
 simp only at hd
 subst hd
 exact AOps.indexView hw hok hx hy hm hlt kk

theorem ixm {dd:Option Tmp} {t e:TypeId} [hu:Und P t (.slice e)] {sz by_:Nat} {zz:Value} [hi:Inf P e sz by_ zz] {o lo len:Nat} {k:IntKind} {i:Int} {m:Nat}
  (hg:goes ops n T ⟨dd,.indexAddr t x y,ty,pos,es,gd⟩=some d) (hx:ev st T x=some (.msl o sz lo len)) (hy:ev st T y=some (.int k i)) (hm:i=m) (hlt:m < len)
  (kk:AOps P n ops rest K E ((d,.cptr o sz (lo + m) 0)::T) st):AOps P n ops (⟨dd,.indexAddr t x y,ty,pos,es,gd⟩::rest) K E T st:=by
 obtain ⟨hw,hd,hok⟩:=goes_some hg
 simp only at hd
 subst hd
 exact AOps.indexMsl hw hok hx hy hm hlt kk

theorem ixa {dd:Option Tmp} {t e:TypeId} {len:Nat} [hu:Und P t (.array len e)] {sz by_:Nat} {zz:Value} [hi:Inf P e sz by_ zz] {k:IntKind} {i:Int} {m:Nat} {q:AV}
  (hg:goes ops n T ⟨dd,.indexAddr t x y,ty,pos,es,gd⟩=some d) (hy:ev st T y=some (.int k i)) (hm:i=m) (hlt:m < len) (hx:ptrA (m * sz) (ev st T x)=some q)
  (kk:AOps P n ops rest K E ((d,q)::T) st):AOps P n ops (⟨dd,.indexAddr t x y,ty,pos,es,gd⟩::rest) K E T st:=by
 obtain ⟨hw,hd,hok⟩:=goes_some hg
 simp only at hd
 subst hd
 obtain ⟨p,h1,h2⟩:=ptrA_some hx
 exact AOps.indexArr hw hok h1 hy hm hlt h2 kk

theorem fd {dd:Option Tmp} {t ft:TypeId} {f off:Nat} [hf:Fld P t f off ft] {td:TypeDesc} {sz by_:Nat} {zz:Value} {cs:List AV} {v:AV} [hq:Und P ft td] [hi:Inf P ft sz by_ zz]
  (hg:goes ops n T ⟨dd,.field t x f,ty,pos,es,gd⟩=some d)
  (hx:ev st T x=some (.agg cs)) (hv:sel (aggD td) sz cs off=some v)
  (k:AOps P n ops rest K E ((d,v)::T) st):AOps P n ops (⟨dd,.field t x f,ty,pos,es,gd⟩::rest) K E T st:=by
 obtain ⟨hw,hd,hok⟩:=goes_some hg
 simp only at hd
 subst hd
 obtain ⟨fs,fld,hu,hfl,rfl,rfl⟩:=hf.out
 haveI:Und P t (.struct fs):=⟨hu⟩
 exact AOps.field hw hok hfl hx hv k

theorem lnv {dd:Option Tmp} {t u:TypeId} {e:TypeId} [hu:Und P t (.slice e)] {sz:Nat} {rows:List (List AV)} {tk:Tok}
  (hg:goes ops n T ⟨dd,.call ⟨.builtin .len,#[x],#[t]⟩,u,pos,es,gd⟩=some d) (hx:ev st T x=some (.view sz rows tk))
  (k:AOps P n ops rest K E ((d,.int .i64 rows.length)::T) st):AOps P n ops (⟨dd,.call ⟨.builtin .len,#[x],#[t]⟩,u,pos,es,gd⟩::rest) K E T st:=by
 obtain ⟨hw,hd,hok⟩:=goes_some hg
 simp only at hd
 subst hd
 exact AOps.lenView hw hok hx k
theorem lnm {dd:Option Tmp} {t u:TypeId} {e:TypeId} [hu:Und P t (.slice e)] {o sz lo len:Nat}
  (hg:goes ops n T ⟨dd,.call ⟨.builtin .len,#[x],#[t]⟩,u,pos,es,gd⟩=some d) (hx:ev st T x=some (.msl o sz lo len))
  (k:AOps P n ops rest K E ((d,.int .i64 len)::T) st):AOps P n ops (⟨dd,.call ⟨.builtin .len,#[x],#[t]⟩,u,pos,es,gd⟩::rest) K E T st:=by
 obtain ⟨hw,hd,hok⟩:=goes_some hg
 simp only at hd
 subst hd
 exact AOps.lenMsl hw hok hx k
theorem lns {dd:Option Tmp} {t u:TypeId} [hu:Und P t .string] {l:List UInt8}
  (hg:goes ops n T ⟨dd,.call ⟨.builtin .len,#[x],#[t]⟩,u,pos,es,gd⟩=some d) (hx:ev st T x=some (.str l))
  (k:AOps P n ops rest K E ((d,.int .i64 l.length)::T) st):AOps P n ops (⟨dd,.call ⟨.builtin .len,#[x],#[t]⟩,u,pos,es,gd⟩::rest) K E T st:=by
 obtain ⟨hw,hd,hok⟩:=goes_some hg
 simp only at hd
 subst hd
 exact AOps.lenStr hw hok hx k
theorem mn {dd:Option Tmp} {u t1 t2:TypeId} {k:IntKind} {a b:Int}
  (hg:goes ops n T ⟨dd,.call ⟨.builtin .min,#[x,y],#[t1,t2]⟩,u,pos,es,gd⟩=some d) (hx:ev st T x=some (.int k a)) (hy:ev st T y=some (.int k b))
  (h:AOps P n ops rest K E ((d,.int k (min a b))::T) st):AOps P n ops (⟨dd,.call ⟨.builtin .min,#[x,y],#[t1,t2]⟩,u,pos,es,gd⟩::rest) K E T st:=by
 obtain ⟨hw,hd,hok⟩:=goes_some hg
 simp only at hd
 subst hd
 exact AOps.min2 hw hok hx hy h

/-! sums that stay in range -/

theorem wrap64 {a:Int} (h:-9223372036854775808≤a∧a < 9223372036854775808):IntKind.i64.wrap a=a:=by
 simp only [IntKind.wrap,IntKind.bits,IntKind.signed]
 simp
 split <;> omega

theorem adn {dd:Option Tmp} {t u:TypeId} {a b:Nat} (hg:goes ops n T ⟨dd,.binOp .add t x y u,ty,pos,es,gd⟩=some d)
  (hx:ev st T x=some (.int .i64 (a:Int))) (hy:ev st T y=some (.int .i64 (b:Int))) (hc:a + b < 9223372036854775808)
  (k:AOps P n ops rest K E ((d,.int .i64 ((a + b:Nat):Int))::T) st):AOps P n ops (⟨dd,.binOp .add t x y u,ty,pos,es,gd⟩::rest) K E T st:=by
 obtain ⟨hw,hd,hok⟩:=goes_some hg
 simp only at hd
 subst hd
 exact AOps.add hw hok hx hy (by rw [wrap64 (by omega)]; omega) k
theorem ad {dd:Option Tmp} {t u:TypeId} {a b:Int} (hg:goes ops n T ⟨dd,.binOp .add t x y u,ty,pos,es,gd⟩=some d)
  (hx:ev st T x=some (.int .i64 a)) (hy:ev st T y=some (.int .i64 b)) (hc:-9223372036854775808≤a + b∧a + b < 9223372036854775808)
  (k:AOps P n ops rest K E ((d,.int .i64 (a + b))::T) st):AOps P n ops (⟨dd,.binOp .add t x y u,ty,pos,es,gd⟩::rest) K E T st:=by
 obtain ⟨hw,hd,hok⟩:=goes_some hg
 simp only at hd
 subst hd
 exact AOps.add hw hok hx hy (wrap64 hc) k
theorem sb {dd:Option Tmp} {t u:TypeId} {a b:Int} (hg:goes ops n T ⟨dd,.binOp .sub t x y u,ty,pos,es,gd⟩=some d)
  (hx:ev st T x=some (.int .i64 a)) (hy:ev st T y=some (.int .i64 b)) (hc:-9223372036854775808≤a - b∧a - b < 9223372036854775808)
  (k:AOps P n ops rest K E ((d,.int .i64 (a - b))::T) st):AOps P n ops (⟨dd,.binOp .sub t x y u,ty,pos,es,gd⟩::rest) K E T st:=by
 obtain ⟨hw,hd,hok⟩:=goes_some hg
 simp only at hd
 subst hd
 exact AOps.sub hw hok hx hy (wrap64 hc) k
theorem rm {dd:Option Tmp} {t u:TypeId} {kk:IntKind} {a b:Int} (hg:goes ops n T ⟨dd,.binOp .rem t x y u,ty,pos,es,gd⟩=some d)
  (hx:ev st T x=some (.int kk a)) (hy:ev st T y=some (.int kk b)) (hc:b≠0)
  (k:AOps P n ops rest K E ((d,.int kk (a.tmod b))::T) st):AOps P n ops (⟨dd,.binOp .rem t x y u,ty,pos,es,gd⟩::rest) K E T st:=by
 obtain ⟨hw,hd,hok⟩:=goes_some hg
 simp only at hd
 subst hd
 exact AOps.rem hw hok hx hy hc rfl k
/-! control -/

theorem rg {id:Nat} {l:List Oper} (h:AOps P n l.toArray l K E T st):AWP P n (.region id l.toArray false) K E T st:=AWP.region_lit h
theorem nl {o:Array Oper} (h:K T st):AOps P n o [] K E T st:=AOps.nil h
theorem cut {c c':Code} {α:Type} (sh:α→Tmps) (ss:α→St) (inv:α→Prop) (h:AWP P n c (fun T' st'=>∃ y,inv y∧TLe T' (sh y)∧StLe st' (ss y)) E T st)
  (k:∀ y,inv y→AWP P n c' K E (sh y) (ss y)):AWP P n (.seq c c') K E T st :=
 AWP.seq (AWP.mono h (fun _ _ ⟨y,h1,h2,h3⟩=>AWP.weaken h2 h3 (k y h1)) (fun _ _ _ he=>he))

theorem blk_hit {id:Nat} {K:Post} {E:EPost} {T:Tmps} {st:St} (h:K T st):blk id K E (.exit id) T st:=by
 simp only [blk,nbeq_self,cond_true]; exact h
end
end Go.AM
namespace Go.AM
open Go.RowKit (Below)

/-! ### The world's moves -/

theorem cell_alloc (w:World) (ob:Obj) (b i:Nat) (h:b < w.heap.size):(w.alloc ob).cell? ⟨b,i,none⟩=w.cell? ⟨b,i,none⟩:=World.cell?_alloc_lt w ob _ h

theorem Sim.newImm {g:G} {w:World} {st:St} (hs:Sim g w st) (ob:Obj) (p:Nat→Prop) :
  ∃ g',Ext g w g' (w.alloc ob)∧Sim g' (w.alloc ob) st∧(∀ i,g'.imm w.heap.size i ↔ p i)∧g'.obj=g.obj∧g'.tok=g.tok∧g'.next=g.next∧g'.base=g.base:=by
 let g':G:={ g with imm:=fun b i=>g.imm b i∨(b=w.heap.size∧p i) }
 have hne:∀ b i,g.imm b i→b≠w.heap.size:=fun b i h e=>by have:=hs.immlt b i h; omega
 have he:Ext g w g' (w.alloc ob):=⟨rfl,Nat.le_refl _,fun _ _ h=>.inl h,fun b i h=>cell_alloc w ob b i (hs.immlt b i h),fun _ _ h=>h,fun _ _ h=>h,(Below.refl _ _).alloc hs.base ob,fun b i hb h=>h.elim id fun h=>absurd hb (by have:=hs.base; have:=h.1; omega)⟩
 refine ⟨g',he,?_,fun i=>⟨fun h=>h.elim (fun h=>absurd rfl (hne _ _ h)) (fun h=>h.2),fun h=>.inr ⟨rfl,h⟩⟩,rfl,rfl,rfl,rfl⟩
 refine ⟨by show g.base≤(w.alloc ob).heap.size; rw [World.size_alloc]; have:=hs.base; omega,?_,hs.inj,?_,hs.tobj,hs.tinj,?_,?_,?_,hs.fresh,fun gi row h=>(hs.globs gi row h).ext he⟩
 ·intro o c hc
  obtain ⟨b,m,h1,h2,h3,h4⟩:=hs.objs o c hc
  have hlt:=hs.objlt o b m h1
  refine ⟨b,m,h1,h2,h3.mono he (Below.heap_alloc w ob b hlt),fun i hi=>?_⟩
  rcases hi with hi|⟨hi,_⟩
  ·exact h4 i hi
  ·omega
 ·intro t ht
  obtain ⟨⟨b,len,cap,e,size⟩,h1,h2⟩:=hs.toks t ht
  refine ⟨_,h1,?_⟩
  cases b with
  | none=>exact h2
  | some b =>
   obtain ⟨a1,a2,a3,a4,⟨cur,a5,a6⟩,a7⟩:=h2
   have hlt:=hs.toklt t b _ h1
   refine ⟨a1,a2,a3,a4,⟨cur,(Below.heap_alloc w ob b hlt).trans a5,a6⟩,fun i hi hi'=>?_⟩
   rcases hi' with hi'|⟨hi',_⟩
   ·exact a7 i hi hi'
   ·omega
 ·intro b i hi
  rw [World.size_alloc]
  rcases hi with hi|⟨hi,_⟩
  ·have:=hs.immlt b i hi; omega
  ·omega
 ·intro o b m h
  rw [World.size_alloc]
  have:=hs.objlt o b m h
  omega
 ·intro t b r h
  rw [World.size_alloc]
  have:=hs.toklt t b r h
  omega

theorem Sim.newObj {g:G} {w:World} {st:St} (hs:Sim g w st) (ob:Obj) (c:AObj) (m:Nat) (hat:∀ g',Ext g w g' (w.alloc ob)→ObjAt g' (w.alloc ob) w.heap.size m c) :
  ∃ g',Ext g w g' (w.alloc ob)∧Sim g' (w.alloc ob) (st.set g.next c)∧g'.obj g.next=some (w.heap.size,m)∧st.obj g.next=none:=by
 let g':G:={ g with next:=g.next + 1,obj:=fun o=>if o=g.next then some (w.heap.size,m) else g.obj o }
 have hfr:=hs.fresh g.next (Nat.le_refl _)
 have hobj:∀ o x,g.obj o=some x→g'.obj o=some x:=fun o x h=>by
  show (if o=g.next then _ else _)=_
  rw [if_neg (fun e=>by rw [e,hfr.1] at h; cases h)]
  exact h
 have he:Ext g w g' (w.alloc ob):=⟨rfl,Nat.le_succ _,fun _ _ h=>h,fun b i h=>cell_alloc w ob b i (hs.immlt b i h),hobj,fun _ _ h=>h,(Below.refl _ _).alloc hs.base ob,fun _ _ _ h=>h⟩
 have hnone:st.obj g.next=none:=by
  cases h:st.obj g.next with
  | none=>rfl
  | some c=>have:=hs.st_lt h; omega
 have hcase:∀ o x,(st.set g.next c).obj o=some x→(o=g.next∧x=c)∨(o≠g.next∧st.obj o=some x):=by
  intro o x h
  simp only [St.set] at h
  split at h
  ·rename_i e; cases h; exact .inl ⟨e,rfl⟩
  ·rename_i e; exact .inr ⟨e,h⟩
 have hnew:g'.obj g.next=some (w.heap.size,m):=by show (if _ then _ else _)=_; rw [if_pos rfl]
 have hold:∀ o,o≠g.next→g'.obj o=g.obj o:=fun o h=>by show (if _ then _ else _)=_; rw [if_neg h]
 refine ⟨g',he,?_,hnew,hnone⟩
 refine ⟨by show g.base≤(w.alloc ob).heap.size; rw [World.size_alloc]; have:=hs.base; omega,?_,?_,?_,?_,hs.tinj,?_,?_,?_,?_,fun gi row h=>(hs.globs gi row h).ext he⟩
 ·intro o x hx
  rcases hcase o x hx with ⟨rfl,rfl⟩|⟨hne,hx⟩
  ·exact ⟨_,_,hnew,hs.base,hat g' he,fun i hi=>by have:=hs.immlt _ i hi; omega⟩
  ·obtain ⟨b,m',h1,h2,h3,h4⟩:=hs.objs o x hx
   exact ⟨b,m',(hold o hne).trans h1,h2,h3.mono he (Below.heap_alloc w ob b (hs.objlt o b m' h1)),h4⟩
 ·intro o o' x x' b m1 m2 hx hx' hb hb'
  rcases hcase o x hx with ⟨rfl,rfl⟩|⟨hne,hx⟩ <;> rcases hcase o' x' hx' with ⟨rfl,rfl⟩|⟨hne',hx'⟩
  ·rfl
  ·rw [hnew] at hb; rw [hold _ hne'] at hb'
   cases hb
   have:=hs.objlt _ _ _ hb'; omega
  ·rw [hold _ hne] at hb; rw [hnew] at hb'
   cases hb'
   have:=hs.objlt _ _ _ hb; omega
  ·rw [hold _ hne] at hb; rw [hold _ hne'] at hb'
   exact hs.inj o o' x x' b m1 m2 hx hx' hb hb'
 ·intro t ht
  obtain ⟨⟨b,len,cap,e,size⟩,h1,h2⟩:=hs.toks t ht
  refine ⟨_,h1,?_⟩
  cases b with
  | none=>exact h2
  | some b =>
   obtain ⟨a1,a2,a3,a4,⟨cur,a5,a6⟩,a7⟩:=h2
   exact ⟨a1,a2,a3,a4,⟨cur,(Below.heap_alloc w ob b (hs.toklt t b _ h1)).trans a5,a6⟩,a7⟩
 ·intro t o x b r m' ht hx h1 h2
  rcases hcase o x hx with ⟨rfl,rfl⟩|⟨hne,hx⟩
  ·rw [hnew] at h2
   cases h2
   have:=hs.toklt t _ r h1; omega
  ·rw [hold _ hne] at h2
   exact hs.tobj t o x b r m' ht hx h1 h2
 ·intro b i hi
  rw [World.size_alloc]
  have:=hs.immlt b i hi; omega
 ·intro o b m' h
  rw [World.size_alloc]
  by_cases hne:o=g.next
  ·subst hne; rw [hnew] at h; cases h; omega
  ·rw [hold _ hne] at h; have:=hs.objlt o b m' h; omega
 ·intro t b r h
  rw [World.size_alloc]
  have:=hs.toklt t b r h; omega
 ·intro k hk
  have hk':g.next + 1≤k:=hk
  exact ⟨(hold k (by omega)).trans (hs.fresh k (by omega)).1,(hs.fresh k (by omega)).2⟩

theorem Sim.write {g:G} {w:World} {st:St} (hs:Sim g w st) {o:Nat} {c c':AObj} {b m:Nat} (hc:st.obj o=some c) (hb:g.obj o=some (b,m)) (w':World) (hsize:w'.heap.size=w.heap.size) (hos:w'.os=w.os) (htape:w'.tape=w.tape) (hout:w'.output=w.output)
  (hother:∀ k,k≠b→w'.heap[k]?=w.heap[k]?) (hat:Ext g w g w'→ObjAt g w' b m c'):Ext g w g w'∧Sim g w' (st.set o c'):=by
 obtain ⟨hbase,hat0,himm⟩:=hs.objOf hc hb
 have he:Ext g w g w':=by
  refine ⟨rfl,Nat.le_refl _,fun _ _ h=>h,fun k i h=>?_,fun _ _ h=>h,fun _ _ h=>h,⟨hos,htape,hout,by omega,fun k hk=>hother k (by omega)⟩,fun _ _ _ h=>h⟩
  have:k≠b:=fun e=>himm i (e ▸ h)
  exact World.cell?_of_block (w:=w) (hother k this)
 refine ⟨he,?_⟩
 have hcase:∀ p x,(st.set o c').obj p=some x→(p=o∧x=c')∨(p≠o∧st.obj p=some x):=by
  intro p x h
  simp only [St.set] at h
  split at h
  ·rename_i e; cases h; exact .inl ⟨e,rfl⟩
  ·rename_i e; exact .inr ⟨e,h⟩
 have hsome:∀ p x,(st.set o c').obj p=some x→∃ y,st.obj p=some y:=fun p x h=>by
  rcases hcase p x h with ⟨rfl,_⟩|⟨_,h⟩
  ·exact ⟨c,hc⟩
  ·exact ⟨x,h⟩
 refine ⟨by have:=hs.base; omega,?_,?_,?_,?_,hs.tinj,fun b i h=>by have:=hs.immlt b i h; omega,fun o b m h=>by have:=hs.objlt o b m h; omega,fun t b r h=>by have:=hs.toklt t b r h; omega,hs.fresh,fun gi row h=>(hs.globs gi row h).ext he⟩
 ·intro p x hx
  rcases hcase p x hx with ⟨rfl,rfl⟩|⟨hne,hx⟩
  ·exact ⟨b,m,hb,hbase,hat he,himm⟩
  ·obtain ⟨b',m',h1,h2,h3,h4⟩:=hs.objs p x hx
   have:b'≠b:=fun e=>hne (hs.inj p o x c b m' m hx hc (e ▸ h1) hb)
   exact ⟨b',m',h1,h2,h3.mono he (hother b' this),h4⟩
 ·intro p p' x x' b m1 m2 hx hx'
  obtain ⟨y,hy⟩:=hsome p x hx
  obtain ⟨y',hy'⟩:=hsome p' x' hx'
  exact hs.inj p p' y y' b m1 m2 hy hy'
 ·intro t ht
  obtain ⟨⟨b',len,cap,e,size⟩,h1,h2⟩:=hs.toks t ht
  refine ⟨_,h1,?_⟩
  cases b' with
  | none=>exact h2
  | some b' =>
   obtain ⟨a1,a2,a3,a4,⟨cur,a5,a6⟩,a7⟩:=h2
   have:b'≠b:=fun e=>hs.tobj t o c b' _ m ht hc h1 (e ▸ hb)
   exact ⟨a1,a2,a3,a4,⟨cur,(hother b' this).trans a5,a6⟩,a7⟩
 ·intro t p x b r m' ht hx
  obtain ⟨y,hy⟩:=hsome p x hx
  exact hs.tobj t p y b r m' ht hy

theorem Sim.draw {g:G} {w:World} {st:St} (hs:Sim g w st):Ext g w g w.drew∧Sim g w.drew st:=by
 have he:Ext g w g w.drew:=⟨rfl,Nat.le_refl _,fun _ _ h=>h,fun _ _ _=>rfl,fun _ _ h=>h,fun _ _ h=>h,(Below.refl _ _).drew,fun _ _ _ h=>h⟩
 refine ⟨he,hs.base,fun o c hc=>?_,hs.inj,fun t ht=>?_,hs.tobj,hs.tinj,hs.immlt,hs.objlt,hs.toklt,hs.fresh,fun gi row h=>(hs.globs gi row h).ext he⟩
 ·obtain ⟨b,m,h1,h2,h3,h4⟩:=hs.objs o c hc
  exact ⟨b,m,h1,h2,h3.mono he rfl,h4⟩
 ·obtain ⟨⟨b',len,cap,e,size⟩,h1,h2⟩:=hs.toks t ht
  refine ⟨_,h1,?_⟩
  cases b' with
  | none=>exact h2
  | some b'=>exact h2

theorem Sim.nilTok {g:G} {w:World} {st:St} (hs:Sim g w st) (e:TypeId):∃ g',Ext g w g' w∧Sim g' w (st.addTok g.next)∧g'.tok g.next=some (none,0,0,e,0)∧st.tok g.next=false:=by
 let g':G:={ g with next:=g.next + 1,tok:=fun t=>if t=g.next then some (none,0,0,e,0) else g.tok t }
 have hfr:=hs.fresh g.next (Nat.le_refl _)
 have hnew:g'.tok g.next=some (none,0,0,e,0):=by show (if _ then _ else _)=_; rw [if_pos rfl]
 have hold:∀ t,t≠g.next→g'.tok t=g.tok t:=fun t h=>by show (if _ then _ else _)=_; rw [if_neg h]
 have he:Ext g w g' w:=⟨rfl,Nat.le_succ _,fun _ _ h=>h,fun _ _ _=>rfl,fun _ _ h=>h,fun t r h=>(hold t (fun e'=>by rw [e',hfr.2] at h; cases h)).trans h,Below.refl _ _,fun _ _ _ h=>h⟩
 have hf:st.tok g.next=false:=by
  cases h:st.tok g.next with
  | false=>rfl
  | true=>have:=hs.tok_lt h; omega
 have hcase:∀ t,(st.addTok g.next).tok t=true→t=g.next∨(t≠g.next∧st.tok t=true):=by
  intro t h
  simp only [St.addTok] at h
  split at h
  ·rename_i e; exact .inl e
  ·rename_i e; exact .inr ⟨e,h⟩
 refine ⟨g',he,⟨hs.base,fun o c hc=>?_,hs.inj,fun t ht=>?_,?_,?_,hs.immlt,hs.objlt,?_,?_,fun gi row h=>(hs.globs gi row h).ext he⟩,hnew,hf⟩
 ·obtain ⟨b,m,h1,h2,h3,h4⟩:=hs.objs o c hc
  exact ⟨b,m,h1,h2,h3.mono he rfl,h4⟩
 ·rcases hcase t ht with rfl|⟨hne,ht⟩
  ·exact ⟨_,hnew,rfl,rfl⟩
  ·obtain ⟨⟨b',len,cap,e,size⟩,h1,h2⟩:=hs.toks t ht
   refine ⟨_,(hold t hne).trans h1,?_⟩
   cases b' with
   | none=>exact h2
   | some b'=>exact h2
 ·intro t o c b r m ht hc h1
  rcases hcase t ht with rfl|⟨hne,ht⟩
  ·rw [hnew] at h1; cases h1
  ·rw [hold t hne] at h1; exact hs.tobj t o c b r m ht hc h1
 ·intro t t' b r r' ht ht' h1 h1'
  rcases hcase t ht with rfl|⟨hne,ht⟩
  ·rw [hnew] at h1; cases h1
  ·rcases hcase t' ht' with rfl|⟨hne',ht'⟩
   ·rw [hnew] at h1'; cases h1'
   ·rw [hold t hne] at h1; rw [hold t' hne'] at h1'
    exact hs.tinj t t' b r r' ht ht' h1 h1'
 ·intro t b r h
  by_cases hne:t=g.next
  ·subst hne; rw [hnew] at h; cases h
  ·rw [hold t hne] at h; exact hs.toklt t b r h
 ·intro k hk
  have hk':g.next + 1≤k:=hk
  exact ⟨(hs.fresh k (by omega)).1,(hold k (by omega)).trans (hs.fresh k (by omega)).2⟩

theorem Sim.freeze {g:G} {w:World} {st:St} (hs:Sim g w st) {o:Nat} {c:AObj} {b m:Nat} (hc:st.obj o=some c) (hb:g.obj o=some (b,m)) :
  ∃ g',Ext g w g' w∧Sim g' w (st.drop o)∧∀ i,g'.imm b i:=by
 let g':G:={ g with imm:=fun k i=>g.imm k i∨k=b }
 have he:Ext g w g' w:=⟨rfl,Nat.le_refl _,fun _ _ h=>.inl h,fun _ _ _=>rfl,fun _ _ h=>h,fun _ _ h=>h,Below.refl _ _,fun k i hk h=>h.elim id fun h=>absurd hk (by have:=(hs.objOf hc hb).1; omega)⟩
 have hcase:∀ p x,(st.drop o).obj p=some x→p≠o∧st.obj p=some x:=by
  intro p x h
  simp only [St.drop] at h
  split at h
  ·cases h
  ·rename_i e; exact ⟨e,h⟩
 refine ⟨g',he,⟨hs.base,fun p x hx=>?_,fun p p' x x' b m1 m2 hx hx'=>hs.inj p p' x x' b m1 m2 (hcase p x hx).2 (hcase p' x' hx').2,fun t ht=>?_,fun t p x b r m' ht hx=>hs.tobj t p x b r m' ht (hcase p x hx).2,hs.tinj,?_,hs.objlt,hs.toklt,hs.fresh,fun gi row h=>(hs.globs gi row h).ext he⟩,fun i=>.inr rfl⟩
 ·obtain ⟨hne,hx⟩:=hcase p x hx
  obtain ⟨b',m',h1,h2,h3,h4⟩:=hs.objs p x hx
  refine ⟨b',m',h1,h2,h3.mono he rfl,fun i hi=>?_⟩
  rcases hi with hi|hi
  ·exact h4 i hi
  ·exact hne (hs.inj p o x c b m' m hx hc (hi ▸ h1) hb)
 ·obtain ⟨⟨b',len,cap,e,size⟩,h1,h2⟩:=hs.toks t ht
  refine ⟨_,h1,?_⟩
  cases b' with
  | none=>exact h2
  | some b' =>
   obtain ⟨a1,a2,a3,a4,a5,a7⟩:=h2
   refine ⟨a1,a2,a3,a4,a5,fun i hi hi'=>?_⟩
   rcases hi' with hi'|hi'
   ·exact a7 i hi hi'
   ·exact hs.tobj t o c b' _ m ht hc h1 (hi' ▸ hb)
 ·intro k i hi
  rcases hi with hi|hi
  ·exact hs.immlt k i hi
  ·rw [hi]; exact hs.objlt o b m hb

/-! ### Looking an object up behind changes -/

theorem St.obj_set (st:St) (o:Nat) (c:AObj):(st.set o c).obj o=some c:=by simp [St.set]
theorem St.obj_set_ne {st:St} {o p:Nat} {c:AObj} (h:p≠o):(st.set o c).obj p=st.obj p:=by simp [St.set,h]
theorem St.obj_new {st:St} {o p:Nat} {c x:AObj} (h:st.obj o=none) (hp:st.obj p=some x):(st.set o c).obj p=some x:=by
 rw [St.obj_set_ne]
 ·exact hp
 ·intro e; rw [e,h] at hp; cases hp
theorem St.ne_of_new {st:St} {o p:Nat} {x:AObj} (h:st.obj o=none) (hp:st.obj p=some x):p≠o:=fun e=>by rw [e,h] at hp; cases hp
@[simp] theorem St.obj_addTok (st:St) (t:Nat):(st.addTok t).obj=st.obj:=rfl
@[simp] theorem St.obj_untok (st:St) (t:Nat):(st.untok t).obj=st.obj:=rfl
@[simp] theorem St.tok_set (st:St) (o:Nat) (c:AObj):(st.set o c).tok=st.tok:=rfl
@[simp] theorem St.tok_drop (st:St) (o:Nat):(st.drop o).tok=st.tok:=rfl
@[simp] theorem St.glob_set (st:St) (o:Nat) (c:AObj):(st.set o c).glob=st.glob:=rfl
@[simp] theorem St.glob_drop (st:St) (o:Nat):(st.drop o).glob=st.glob:=rfl
@[simp] theorem St.glob_addTok (st:St) (t:Nat):(st.addTok t).glob=st.glob:=rfl
@[simp] theorem St.glob_untok (st:St) (t:Nat):(st.untok t).glob=st.glob:=rfl
theorem St.tok_addTok (st:St) (t:Nat):(st.addTok t).tok t=true:=by simp [St.addTok]
theorem St.obj_drop_ne {st:St} {o p:Nat} (h:p≠o):(st.drop o).obj p=st.obj p:=by simp [St.drop,h]

theorem St.set_set (st:St) (o:Nat) (c c':AObj):(st.set o c).set o c'=st.set o c':=by
 simp only [St.set]
 congr 1
 funext p
 by_cases h:p=o <;> simp [h]
theorem St.set_comm (st:St) {o p:Nat} (h:o≠p) (c d:AObj):(st.set o c).set p d=(st.set p d).set o c:=by
 simp only [St.set]
 congr 1
 funext q
 by_cases h1:q=p <;> by_cases h2:q=o <;> simp [h1,h2]
 ·exact absurd (h2.symm.trans h1) h
 ·intro e; exact absurd e (Ne.symm h)
 ·intro e; exact absurd e h
theorem StLe.new {st st':St} {o:Nat} {c:AObj} (h:st.obj o=none) (l:StLe st st'):StLe (st.set o c) st' :=
 ⟨fun p x hp=>St.obj_new h (l.obj p x hp),l.tok,l.glob⟩
theorem StLe.set {st st':St} (o:Nat) (c:AObj) (l:StLe st st'):StLe (st.set o c) (st'.set o c):=by
 refine ⟨fun p x hp=>?_,l.tok,l.glob⟩
 simp only [St.set] at hp ⊢
 split at hp
 ·rename_i e; rw [if_pos e]; exact hp
 ·rename_i e; rw [if_neg e]; exact l.obj p x hp
theorem StLe.addTok {st st':St} (t:Nat) (l:StLe st st'):StLe (st.addTok t) st' :=
 ⟨l.obj,fun k hk=>by
  simp only [St.addTok]
  split
  ·rfl
  ·exact l.tok k hk,l.glob⟩
theorem StLe.drop {st:St} (o:Nat):StLe st (st.drop o) :=
 ⟨fun p x hp=>by
  simp only [St.drop] at hp
  split at hp
  ·cases hp
  ·exact hp,fun _ h=>h,rfl⟩
theorem StLe.untok {st:St} (t:Nat):StLe st (st.untok t) :=
 ⟨fun _ _ h=>h,fun k hk=>by
  simp only [St.untok] at hk
  split at hk
  ·cases hk
  ·exact hk,rfl⟩

/-! ### The rules -/

section
variable {P:Program} {n:Nat} {K:Post} {E:EPost} {T:Tmps} {st:St} {ops:Array Oper} {rest:List Oper}
variable {ty:TypeId} {pos:String} {es:Array Edge} {gd:Option (Nat × Bool)} {d:Tmp} {x y:Operand} {dd:Option Tmp}

def zrow (z:Value):List AV:=z.cells.toList.map abs1
def zok (sz:Nat) (z:Value):Bool:=Nat.beq z.cells.size sz && z.cells.toList.all Value.oneCell'

theorem zok_spec {sz:Nat} {z:Value} (h:zok sz z=true):z.cells.size=sz∧(∀ v ∈ z.cells,v.oneCell'=true)∧(zrow z).length=sz∧(∀ c ∈ zrow z,c.one=true):=by
 simp only [zok,Bool.and_eq_true] at h
 have h1:=Nat.eq_of_beq_eq_true h.1
 have h2:∀ v ∈ z.cells,v.oneCell'=true:=fun v hv=>List.all_eq_true.1 h.2 v (by simpa using hv)
 refine ⟨h1,fun v hv=>h2 v hv,by simp [zrow,h1],fun c hc=>?_⟩
 simp only [zrow,List.mem_map] at hc
 obtain ⟨v,hv,rfl⟩:=hc
 exact one_abs1 v (h2 v (by simpa using hv))

theorem zrow_get {z:Value} {j:Nat} {c:AV} (h:(zrow z)[j]?=some c) (g:G) (w:World):∃ v,z.cells[j]?=some v∧R g w c v:=by
 simp only [zrow,List.getElem?_map,Option.map_eq_some_iff,Array.getElem?_toList] at h
 obtain ⟨v,h1,rfl⟩:=h
 exact ⟨v,h1,R_abs1 g w v⟩

theorem al {t:TypeId} {sz by_:Nat} {z:Value} [hi:Inf P t sz by_ z] (hg:goes ops n T ⟨dd,.alloc t,ty,pos,es,gd⟩=some d) (hz:zok sz z=true)
  (k:∀ o,st.obj o=none→AOps P n ops rest K E ((d,.cptr o sz 0 0)::T) (st.set o (.cells t sz [zrow z]))):AOps P n ops (⟨dd,.alloc t,ty,pos,es,gd⟩::rest) K E T st:=by
 obtain ⟨hw,hd,hok⟩:=goes_some hg
 simp only at hd
 subst hd
 obtain ⟨z1,z2,z3,z4⟩:=zok_spec hz
 intro g w a hs hk hn
 obtain ⟨g',he,hs',hob,hnone⟩:=hs.newObj (.cells z.cells t) (.cells t sz [zrow z]) sz (fun g' _=>⟨z.cells,heap_alloc_new w _,z1,by simp,by simp [z3],by simpa using z4,fun i j row c hr hc=>by
  cases i with
  | zero =>
   simp only [List.getElem?_cons_zero,Option.some.injEq] at hr
   subst hr
   obtain ⟨v,h1,h2⟩:=zrow_get hc g' (w.alloc (.cells z.cells t))
   exact ⟨v,by simpa using h1,h2⟩
  | succ i=>simp at hr⟩)
 have hrun:(execOp a.eval ⟨some d,.alloc t,ty,pos,es,gd⟩).run P w=.ok (.value (.pointer (some ⟨w.heap.size,0,none⟩))) (w.alloc (.cells z.cells t)):=by
  simp [execOp,Instr.alloc,run_zero (P:=P) (t:=t) w,newVar,newRow]
 have hR:R g' (w.alloc (.cells z.cells t)) (.cptr g.next sz 0 0) (.pointer (some ⟨w.heap.size,0,none⟩)):=by
  have:=R.cptr (w:=w.alloc (.cells z.cells t)) g.next sz 0 0 w.heap.size sz hob
  simpa using this
 have h2:=k g.next hnone g' (w.alloc (.cells z.cells t)) (a.put (some d) (.pointer (some ⟨w.heap.size,0,none⟩))) hs' ((hk.ext he).put (fun t ht=>hn ▸ dstOk_lt hok t ht) hR) (by rw [Act.size_put]; exact hn)
 rw [Act.defers_put] at h2
 unfold wpList
 rw [wanted_of hk hw,if_pos rfl]
 left
 unfold Oper.wp
 rw [hrun]
 exact wpList_mono (fun _ _ _ q=>QOf.ext he q) rest _ _ h2

def storable:AV→Bool
 | .agg _=>true
 | v=>v.one

theorem storable_cells {g:G} {w:World} {v:AV} {rv:Value} (h:R g w v rv) (hst:storable v=true) :
  v.cells.length=rv.cells.size∧(∀ c ∈ v.cells,c.one=true)∧(∀ (i:Nat) c u,v.cells[i]?=some c→rv.cells[i]?=some u→R g w c u)∧∀ u ∈ rv.cells,u.oneCell'=true:=by
 have fin:∀ {v:AV} {rv:Value},v.cells.length=rv.cells.size→(∀ c ∈ v.cells,c.one=true)→(∀ (i:Nat) c u,v.cells[i]?=some c→rv.cells[i]?=some u→R g w c u)→∀ u ∈ rv.cells,u.oneCell'=true:=by
  intro v rv hl h1 hh u hu
  obtain ⟨i,hi,rfl⟩:=Array.getElem_of_mem hu
  have hi':i < v.cells.length:=by omega
  exact (hh i _ _ (List.getElem?_eq_getElem hi') (by simp [hi])).one (h1 _ (List.getElem_mem hi'))
 cases v with
 | lit x =>
  have hx0:rv=x:=by cases h; rfl
  subst hx0
  have h1:rv.oneCell'=true:=hst
  have hx:rv.cells=#[rv]:=by cases rv <;> first|rfl|(simp [Value.oneCell'] at h1)
  refine ⟨by rw [hx]; rfl,fun c hc=>by simp [AV.cells] at hc; subst hc; exact h1,fun i c u hc hu=>?_,fun u hu=>by rw [hx] at hu; simp at hu; subst hu; exact h1⟩
  rw [hx] at hu
  cases i with
  | zero=>simp [AV.cells] at hc hu; subst hc; subst hu; exact .lit _
  | succ i=>simp at hu
 | agg cs =>
  obtain ⟨a,b⟩:=h.cells (fun x e=>by cases e)
  cases h with
  | agg _ vs hl h1 hh=>exact ⟨a,h1,b,fin a h1 b⟩
 | tuple cs=>simp [storable,AV.one] at hst
 | int|bool|str|view|eptr|cptr|msl|iter|amap|iface|func =>
  obtain ⟨a,b⟩:=h.cells (fun x e=>by cases e)
  refine ⟨a,?_,b,fin a ?_ b⟩ <;> (intro c hc; simp only [AV.cells,List.mem_singleton] at hc; rw [hc]; rfl)

def rowSet (row:List AV) (off:Nat) (cs:List AV):List AV:=row.take off++cs++row.drop (off + cs.length)

theorem rowSet_length {row:List AV} {off:Nat} {cs:List AV} (h:off + cs.length≤row.length):(rowSet row off cs).length=row.length:=by
 simp [rowSet]; omega

theorem so {t:TypeId} {sz by_:Nat} {zz:Value} [hi:Inf P t sz by_ zz] {o s:Nat} {rows:List (List AV)} {i off:Nat} {row:List AV} {v:AV} {oty:TypeId} {rows':List (List AV)}
  (hw:wantedA ops T ⟨none,.store t x y,ty,pos,es,gd⟩=some true) (hx:ev st T x=some (.cptr o s i off)) (hy:ev st T y=some v) (ho:st.obj o=some (.cells oty s rows)) (hr:rows[i]?=some row)
  (hv:storable v=true) (hsz:Nat.beq v.cells.length sz=true) (hle:Nat.ble (off + v.cells.length) row.length=true) (he:rows.set i (rowSet row off v.cells)=rows')
  (k:AOps P n ops rest K E T (st.set o (.cells oty s rows'))):AOps P n ops (⟨none,.store t x y,ty,pos,es,gd⟩::rest) K E T st:=by
 refine AOps.step (v:=.lit undef) hw rfl _ ?_ k
 intro g w a hs hk
 have h1:=ev_R hs hk hx
 have h2:=ev_R hs hk hy
 generalize hux:a.eval x=ux at h1
 generalize huy:a.eval y=uy at h2
 subst he
 have hle':=Nat.ble_le hle
 obtain ⟨c1,c2,c3,c4⟩:=storable_cells h2 hv
 cases h1 with
 | cptr _ _ _ _ b m hb =>
  obtain ⟨_,⟨arr,ha,hasz,hml,hl,h1',hc⟩,_⟩:=hs.objOf ho hb
  have hil:i < rows.length:=(List.getElem?_eq_some_iff.1 hr).1
  have hrl:row.length=s:=hl row (List.mem_of_getElem? hr)
  have hfit:i * s + off + uy.cells.toList.length≤arr.size:=by
   have:=Nat.mul_le_mul_right s (show i + 1≤rows.length from hil)
   rw [Nat.add_mul,Nat.one_mul] at this
   simp only [Array.length_toList]
   omega
  have hst:=run_storeCells_at P b (i * s + off) oty uy.cells.toList 0 arr w ha (by simpa using hfit) (fun v hv=>c4 v (by simpa using hv))
  simp only [Nat.add_zero] at hst
  generalize harr':(arr.toList.take (i * s + off)++uy.cells.toList++arr.toList.drop (i * s + off + uy.cells.toList.length)).toArray=arr' at hst
  have hsize':arr'.size=m:=by
   rw [← harr',← hasz]
   simp only [Array.length_toList] at hfit
   simp
   omega
  obtain ⟨he',hs'⟩:=hs.write (c':=.cells oty s (rows.set i (rowSet row off v.cells))) ho hb (w.setRow b arr') (by simp) rfl rfl rfl (fun k hk=>setRow_other w b k arr' hk) (fun he'=>by
   refine ⟨arr',setRow_heap w b arr arr' oty (0,0) ha,hsize',by simpa using hml,?_,?_,?_⟩
   ·intro r hr'
    rcases List.mem_or_eq_of_mem_set hr' with h|h
    ·exact hl r h
    ·rw [h,rowSet_length hle',hrl]
   ·intro r hr'
    rcases List.mem_or_eq_of_mem_set hr' with h|h
    ·exact h1' r h
    ·subst h
     intro c hcm
     simp only [rowSet,List.mem_append] at hcm
     rcases hcm with (h|h)|h
     ·exact h1' row (List.mem_of_getElem? hr) c (List.mem_of_mem_take h)
     ·exact c2 c h
     ·exact h1' row (List.mem_of_getElem? hr) c (List.mem_of_mem_drop h)
   ·intro i' j r c hr' hcj
    have hjl:j < s:=by
     have h3:j < r.length:=(List.getElem?_eq_some_iff.1 hcj).1
     rcases List.mem_or_eq_of_mem_set (List.mem_of_getElem? hr') with h|h
     ·rw [hl r h] at h3; exact h3
     ·rw [h,rowSet_length hle',hrl] at h3; exact h3
    have hi'l:i' < rows.length:=by
     have:=(List.getElem?_eq_some_iff.1 hr').1
     simpa using this
    have flat:∀ q:Nat,arr'[q]?=if q < i * s + off then arr[q]? else if q < i * s + off + uy.cells.size then uy.cells[q - (i * s + off)]? else arr[q]?:=by
     intro q
     rw [← harr']
     simp only [List.getElem?_toArray,List.append_assoc]
     rw [List.getElem?_append]
     simp only [List.length_take,Array.length_toList]
     have hmin:min (i * s + off) arr.size=i * s + off:=by simp only [Array.length_toList] at hfit; omega
     rw [hmin]
     by_cases hq:q < i * s + off
     ·rw [if_pos hq,if_pos hq,List.getElem?_take_of_lt hq,Array.getElem?_toList]
     ·rw [if_neg hq,if_neg hq,List.getElem?_append]
      simp only [Array.length_toList]
      by_cases hq2:q < i * s + off + uy.cells.size
      ·rw [if_pos (by omega),if_pos hq2,Array.getElem?_toList]
      ·rw [if_neg (by omega),if_neg hq2,List.getElem?_drop,Array.getElem?_toList]
       congr 1
       omega
    by_cases hii:i'=i
    ·subst hii
     rw [List.getElem?_set_self hil] at hr'
     simp only [Option.some.injEq] at hr'
     subst hr'
     simp only [rowSet,List.append_assoc] at hcj
     rw [List.getElem?_append] at hcj
     simp only [List.length_take] at hcj
     have hmin:min off row.length=off:=by omega
     rw [hmin] at hcj
     rw [flat]
     by_cases hjo:j < off
     ·rw [if_pos hjo,List.getElem?_take_of_lt hjo] at hcj
      rw [if_pos (by omega)]
      obtain ⟨u,hu1,hu2⟩:=hc i' j row c hr hcj
      exact ⟨u,hu1,hu2.ext he'⟩
     ·rw [if_neg hjo,List.getElem?_append] at hcj
      rw [if_neg (by omega)]
      by_cases hj2:j - off < v.cells.length
      ·rw [if_pos hj2] at hcj
       rw [if_pos (by omega)]
       have hlt:i' * s + j - (i' * s + off) < uy.cells.size:=by omega
       have e:i' * s + j - (i' * s + off)=j - off:=by omega
       refine ⟨uy.cells[i' * s + j - (i' * s + off)],by simp [hlt],?_⟩
       exact (c3 (j - off) c _ hcj (by rw [← e]; simp [hlt])).ext he'
      ·rw [if_neg hj2,List.getElem?_drop] at hcj
       rw [if_neg (by omega)]
       have e:off + v.cells.length + (j - off - v.cells.length)=j:=by omega
       rw [e] at hcj
       obtain ⟨u,hu1,hu2⟩:=hc i' j row c hr hcj
       exact ⟨u,hu1,hu2.ext he'⟩
    ·rw [List.getElem?_set_ne (Ne.symm hii)] at hr'
     obtain ⟨u,hu1,hu2⟩:=hc i' j r c hr' hcj
     refine ⟨u,?_,hu2.ext he'⟩
     rw [flat]
     have hout:i' * s + j < i * s + off∨i * s + off + uy.cells.size≤i' * s + j:=by
      rcases Nat.lt_or_gt_of_ne hii with h|h
      ·left
       have:=Nat.mul_le_mul_right s (show i' + 1≤i from h)
       rw [Nat.add_mul,Nat.one_mul] at this
       omega
      ·right
       have:=Nat.mul_le_mul_right s (show i + 1≤i' from h)
       rw [Nat.add_mul,Nat.one_mul] at this
       omega
     rcases hout with h|h
     ·rw [if_pos h]; exact hu1
     ·rw [if_neg (by omega),if_neg (by omega)]; exact hu1)
  have hcs:uy.cells.size=sz:=by rw [← c1]; exact Nat.eq_of_beq_eq_true hsz
  refine ⟨undef,g,w.setRow b arr',.inr ⟨?_,rfl⟩,he',hs',.lit _⟩
  simp [execOp,hux,huy,Instr.storeAt,Instr.sureAddr,storeVar,run_size (P:=P) (t:=t) w,hcs,hst]

end
end Go.AM
namespace Go.AM
open Go.RowKit (Below)

section
variable {P:Program} {n:Nat} {K:Post} {E:EPost} {T:Tmps} {st:St} {ops:Array Oper} {rest:List Oper}
variable {ty:TypeId} {pos:String} {es:Array Edge} {gd:Option (Nat × Bool)} {d:Tmp} {x y:Operand} {dd:Option Tmp}

theorem AOps.stepAny {o:Oper} (hg:goes ops n T o=some d)
  (h:∀ g w a,Sim g w st→Known g w T a→∃ rv g' w' v st1,(execOp a.eval o).run P w=.ok (.value rv) w'∧Ext g w g' w'∧Sim g' w' st1∧R g' w' v rv∧AOps P n ops rest K E ((d,v)::T) st1) :
  AOps P n ops (o::rest) K E T st:=by
 obtain ⟨hw,hd,hok⟩:=goes_some hg
 intro g w a hs hk hn
 obtain ⟨rv,g',w',v,st1,hrun,he,hs',hR,k⟩:=h g w a hs hk
 have h2:=k g' w' (a.put o.dst rv) hs' (by rw [hd]; exact (hk.ext he).put (fun t ht=>hn ▸ dstOk_lt (hd ▸ hok) t ht) hR) (by rw [Act.size_put]; exact hn)
 rw [Act.defers_put] at h2
 unfold wpList
 rw [wanted_of hk hw,if_pos rfl]
 left
 unfold Oper.wp
 rw [hrun]
 exact wpList_mono (fun _ _ _ q=>QOf.ext he q) rest _ _ h2

theorem AOps.ghost (h:∀ g w a,Sim g w st→Known g w T a→∃ g' T1 st1,Ext g w g' w∧Sim g' w st1∧Known g' w T1 a∧AOps P n ops rest K E T1 st1):AOps P n ops rest K E T st:=by
 intro g w a hs hk hn
 obtain ⟨g',T1,st1,he,hs',hk',k⟩:=h g w a hs hk
 exact wpList_mono (fun _ _ _ q=>QOf.ext he q) rest _ _ (k g' w a hs' hk' hn)

theorem AWP.ghost {c:Code} (h:∀ g w a,Sim g w st→Known g w T a→∃ g' T1 st1,Ext g w g' w∧Sim g' w st1∧Known g' w T1 a∧AWP P n c K E T1 st1):AWP P n c K E T st:=by
 intro g w a hs hk hn
 obtain ⟨g',T1,st1,he,hs',hk',k⟩:=h g w a hs hk
 exact Code.wp_mono (fun _ _ _ q=>QOf.ext he q) (k g' w a hs' hk' hn)

theorem Known.cons {g:G} {w:World} {a:Act} {t:Nat} {v:AV} {rv:Value} (hk:Known g w T a) (h1:a.tmps[t]?=some rv) (h2:R g w v rv):Known g w ((t,v)::T) a:=by
 intro i u hu
 rw [Tmps.get_cons] at hu
 by_cases hi:t=i
 ·subst hi; simp at hu; subst hu; exact ⟨rv,h1,h2⟩
 ·rw [if_neg hi] at hu; exact hk i u hu

theorem TokAt.mkOwn {g:G} {k:Nat} {e:TypeId} {b:Option Nat} {off len cap sz sz':Nat} (h0:off=0) (h:g.tok k=some (b,len,cap,e,sz')) (h1:b≠none→sz'=sz):TokAt g (.own k e) b off len cap sz:=⟨h0,sz',h1,h⟩

theorem AWP.nilTok {c:Code} (t:Nat) (e:TypeId) (sz':Nat) {sz:Nat} (ht:T.get t=some (.view sz [] .nil)) (h:∀ tk,st.tok tk=false→AWP P n c K E ((t,.view sz' [] (.own tk e))::T) (st.addTok tk)):AWP P n c K E T st :=
 AWP.ghost fun g w a hs hk=>by
  obtain ⟨rv,h1,h2⟩:=hk t _ ht
  obtain ⟨g',he,hs',htk,hf⟩:=hs.nilTok e
  have hrv:rv=.slice none 0 0:=by
   cases h2 with
   | vnil=>rfl
   | vemp _ _ _ hn _=>exact absurd rfl hn
   | view _ _ _ _ _ _ _ _ _ _ _ ht'=>simp [TokAt] at ht'
  subst hrv
  exact ⟨g',_,_,he,hs',(hk.ext he).cons h1 (.vnil _ _ (TokAt.mkOwn rfl htk (fun h=>absurd rfl h))),h g.next hf⟩

theorem AOps.nilTok (t:Nat) (e:TypeId) (sz':Nat) {sz:Nat} (ht:T.get t=some (.view sz [] .nil)) (h:∀ tk,st.tok tk=false→AOps P n ops rest K E ((t,.view sz' [] (.own tk e))::T) (st.addTok tk)):AOps P n ops rest K E T st :=
 AOps.ghost fun g w a hs hk=>by
  obtain ⟨rv,h1,h2⟩:=hk t _ ht
  obtain ⟨g',he,hs',htk,hf⟩:=hs.nilTok e
  have hrv:rv=.slice none 0 0:=by
   cases h2 with
   | vnil=>rfl
   | vemp _ _ _ hn _=>exact absurd rfl hn
   | view _ _ _ _ _ _ _ _ _ _ _ ht'=>simp [TokAt] at ht'
  subst hrv
  exact ⟨g',_,_,he,hs',(hk.ext he).cons h1 (.vnil _ _ (TokAt.mkOwn rfl htk (fun h=>absurd rfl h))),h g.next hf⟩

theorem R.frozen {g:G} {w:World} (hs:Sim g w st) {o sz lo len:Nat} {oty:TypeId} {rows:List (List AV)} (ho:st.obj o=some (.cells oty sz rows)) (hl:lo + len≤rows.length) {rv:Value} (h:R g w (.msl o sz lo len) rv) :
  ∃ g',Ext g w g' w∧Sim g' w (st.drop o)∧R g' w (.view sz ((rows.drop lo).take len) .shared) rv:=by
 cases h with
 | msl _ _ _ _ cap b m hb hc hm hs' =>
  obtain ⟨g',he,hsim,himm⟩:=hs.freeze ho hb
  obtain ⟨_,⟨arr,ha,hsz,hml,hlr,h1,hcell⟩,_⟩:=hs.objOf ho hb
  refine ⟨g',he,hsim,?_⟩
  have hlen:((rows.drop lo).take len).length=len:=by simp; omega
  have key:=R.view (g:=g') (w:=w) sz ((rows.drop lo).take len) .shared b (lo * sz) cap (fun i j=>arr.getD (lo * sz + (i * sz + j)) undef) (by rw [hlen]; exact hc) hm
   (fun row hr=>hlr row (List.mem_of_mem_drop (List.mem_of_mem_take hr))) (fun row hr=>h1 row (List.mem_of_mem_drop (List.mem_of_mem_take hr))) trivial
   (fun i j hi hj=>by
    rw [hlen] at hi
    refine ⟨himm _,?_⟩
    have h1:i < len:=hi
    have h2:(lo + i) * sz + j < rows.length * sz:=mul_add_lt (by omega) hj
    rw [Nat.add_mul] at h2
    rw [cell_of_row w b _ arr oty (0,0) ha,Array.getD_eq_getD_getElem?,Array.getElem?_eq_getElem (by omega)]
    rfl)
   (fun i j row c hr hcj=>by
    have hi:i < len:=by
     have:=(List.getElem?_eq_some_iff.1 hr).1
     rw [hlen] at this
     exact this
    rw [List.getElem?_take_of_lt hi,List.getElem?_drop] at hr
    obtain ⟨v,hv1,hv2⟩:=hcell (lo + i) j row c hr hcj
    rw [Nat.add_mul,Nat.add_assoc] at hv1
    rw [Array.getD_eq_getD_getElem?,hv1]
    exact hv2.ext he)
  rw [hlen] at key
  exact key

theorem AWP.freeze {c:Code} (t:Nat) {o sz lo len:Nat} {oty:TypeId} {rows:List (List AV)} (ht:T.get t=some (.msl o sz lo len)) (ho:st.obj o=some (.cells oty sz rows)) (hl:lo + len≤rows.length)
  (h:AWP P n c K E ((t,.view sz ((rows.drop lo).take len) .shared)::T) (st.drop o)):AWP P n c K E T st :=
 AWP.ghost fun g w a hs hk=>by
  obtain ⟨rv,h1,h2⟩:=hk t _ ht
  obtain ⟨g',he,hs',hR⟩:=h2.frozen hs ho hl
  exact ⟨g',_,_,he,hs',(hk.ext he).cons h1 hR,h⟩
theorem AOps.freeze (t:Nat) {o sz lo len:Nat} {oty:TypeId} {rows:List (List AV)} (ht:T.get t=some (.msl o sz lo len)) (ho:st.obj o=some (.cells oty sz rows)) (hl:lo + len≤rows.length)
  (h:AOps P n ops rest K E ((t,.view sz ((rows.drop lo).take len) .shared)::T) (st.drop o)):AOps P n ops rest K E T st :=
 AOps.ghost fun g w a hs hk=>by
  obtain ⟨rv,h1,h2⟩:=hk t _ ht
  obtain ⟨g',he,hs',hR⟩:=h2.frozen hs ho hl
  exact ⟨g',_,_,he,hs',(hk.ext he).cons h1 hR,h⟩

theorem bx {t:TypeId} {v:AV} {sz:Nat} (hg:goes ops n T ⟨dd,.box t x,ty,pos,es,gd⟩=some d) (hx:ev st T x=some v) (hv:storable v=true) (hsz:v.cells.length=sz)
  (k:∀ o,st.obj o=none→AOps P n ops rest K E ((d,.cptr o sz 0 0)::T) (st.set o (.cells t sz [v.cells]))):AOps P n ops (⟨dd,.box t x,ty,pos,es,gd⟩::rest) K E T st :=
 AOps.stepAny hg fun g w a hs hk=>by
  have h1:=ev_R hs hk hx
  generalize hux:a.eval x=ux at h1
  obtain ⟨c1,c2,c3,c4⟩:=storable_cells h1 hv
  subst hsz
  obtain ⟨g',he,hs',hob,hnone⟩:=hs.newObj (.cells ux.cells t) (.cells t v.cells.length [v.cells]) v.cells.length (fun g' he=>⟨ux.cells,heap_alloc_new w _,c1.symm,by simp,by simp,by simpa using c2,fun i j row c hr hc=>by
   cases i with
   | zero =>
    simp only [List.getElem?_cons_zero,Option.some.injEq] at hr
    subst hr
    have hj:j < ux.cells.size:=by rw [← c1]; exact (List.getElem?_eq_some_iff.1 hc).1
    exact ⟨ux.cells[j],by simp [hj],(c3 j c _ hc (by simp [hj])).ext he⟩
   | succ i=>simp at hr⟩)
  refine ⟨.pointer (some ⟨w.heap.size,0,none⟩),g',w.alloc (.cells ux.cells t),_,_,?_,he,hs',?_,k g.next hnone⟩
  ·simp [execOp,hux,Instr.box,newVar,newRow]
  ·have:=R.cptr (w:=w.alloc (.cells ux.cells t)) g.next v.cells.length 0 0 w.heap.size v.cells.length hob
   simpa using this

/-! ### Literals -/

def afill (place:Nat→Option (Nat × Nat)) (cells:List AV):List (Nat × AV)→Option (List AV)
 | []=>some cells
 | (i,v)::rest=>match place i with
  | none=>none
  | some (off,size)=>bif Nat.beq v.cells.length size && Nat.ble (off + size) cells.length && storable v then afill place (rowSet cells off v.cells) rest else none

theorem foldl_set (vs:List Value) (off:Nat):∀ (k:Nat) (cells:Array Value),off + k + vs.length≤cells.size →
  ((vs.zipIdx k).foldl (fun cs (c,j)=>cs.setIfInBounds (off + j) c) cells).toList=cells.toList.take (off + k)++vs++cells.toList.drop (off + k + vs.length):=by
 induction vs with
 | nil=>intro k cells h; simp
 | cons v vs ih =>
  intro k cells h
  simp only [List.zipIdx_cons,List.foldl_cons]
  rw [ih (k + 1) _ (by simp at h ⊢; omega)]
  have e:=list_seg_step cells.toList (off + k) v vs (by simp at h ⊢; omega)
  simpa [Array.toList_setIfInBounds,Nat.add_assoc] using e

theorem afill_run {g:G} {w:World} {place:Nat→Option (Nat × Nat)}:∀ (parts:List (Nat × AV)) (rparts:List (Nat × Value)) (cells:List AV) (rcells:Array Value) (cs:List AV),afill place cells parts=some cs →
  parts.length=rparts.length→(∀ (k:Nat) p q,parts[k]?=some p→rparts[k]?=some q→p.1=q.1∧R g w p.2 q.2) →
  cells.length=rcells.size→(∀ c ∈ cells,c.one=true)→(∀ (i:Nat) c v,cells[i]?=some c→rcells[i]?=some v→R g w c v) →
  ∃ rcs,Instr.fill place rcells rparts=some rcs∧cs.length=rcs.size∧(∀ c ∈ cs,c.one=true)∧∀ (i:Nat) c v,cs[i]?=some c→rcs[i]?=some v→R g w c v
 | [],rparts,cells,rcells,cs,h,hl,_,h1,h2,h3=>by
  have:rparts=[]:=List.eq_nil_of_length_eq_zero (by simpa using hl.symm)
  subst this
  simp only [afill,Option.some.injEq] at h
  subst h
  exact ⟨rcells,rfl,h1,h2,h3⟩
 | (i,v)::parts,[],_,_,_,_,hl,_,_,_,_=>by simp at hl
 | (i,v)::parts,(i',rv)::rparts,cells,rcells,cs,h,hl,hp,h1,h2,h3=>by
  obtain ⟨e1,e2⟩:=hp 0 _ _ rfl rfl
  simp only at e1 e2
  subst e1
  unfold afill at h
  cases hpl:place i with
  | none=>simp [hpl] at h
  | some os =>
   obtain ⟨off,size⟩:=os
   simp only [hpl] at h
   cases hc:(Nat.beq v.cells.length size && Nat.ble (off + size) cells.length && storable v) with
   | false=>simp [hc] at h
   | true =>
    simp only [hc,cond_true] at h
    simp only [Bool.and_eq_true] at hc
    obtain ⟨⟨ha,hb⟩,hst⟩:=hc
    have ha':=Nat.eq_of_beq_eq_true ha
    have hb':=Nat.ble_le hb
    obtain ⟨c1,c2,c3,c4⟩:=storable_cells e2 hst
    have hsz:rv.cells.size=size:=by omega
    have hfold:=foldl_set rv.cells.toList off 0 rcells (by simp; omega)
    simp only [Nat.add_zero,Array.length_toList] at hfold
    have hzip:(rv.cells.zipIdx.foldl (fun cs (c,j)=>cs.setIfInBounds (off + j) c) rcells).toList=rcells.toList.take off++rv.cells.toList++rcells.toList.drop (off + rv.cells.size):=by
     rw [← hfold,← Array.foldl_toList,Array.toList_zipIdx]
    obtain ⟨rcs,hf,r2⟩:=afill_run parts rparts (rowSet cells off v.cells) (rv.cells.zipIdx.foldl (fun cs (c,j)=>cs.setIfInBounds (off + j) c) rcells) cs h (by simpa using hl)
     (fun k p q hk hq=>hp (k + 1) p q (by simpa using hk) (by simpa using hq))
     (by rw [rowSet_length (by omega),h1,← Array.length_toList (xs:=Array.foldl _ _ _),hzip]; simp; omega)
     (fun c hcm=>by
      simp only [rowSet,List.mem_append] at hcm
      rcases hcm with (hcm|hcm)|hcm
      ·exact h2 c (List.mem_of_mem_take hcm)
      ·exact c2 c hcm
      ·exact h2 c (List.mem_of_mem_drop hcm))
     (fun j c u hcj huj=>by
      rw [← Array.getElem?_toList,hzip] at huj
      simp only [rowSet,List.append_assoc] at hcj huj
      rw [List.getElem?_append] at hcj huj
      simp only [List.length_take,Array.length_toList] at hcj huj
      have m1:min off cells.length=off:=by omega
      have m2:min off rcells.size=off:=by omega
      rw [m1] at hcj
      rw [m2] at huj
      by_cases hj:j < off
      ·rw [if_pos hj,List.getElem?_take_of_lt hj] at hcj huj
       exact h3 j c u hcj (by simpa using huj)
      ·rw [if_neg hj,List.getElem?_append] at hcj huj
       simp only [Array.length_toList] at huj
       by_cases hj2:j - off < v.cells.length
       ·rw [if_pos hj2] at hcj
        rw [if_pos (by omega)] at huj
        exact c3 _ c u hcj (by simpa using huj)
       ·rw [if_neg hj2,List.getElem?_drop] at hcj
        rw [if_neg (by omega),List.getElem?_drop] at huj
        have e:off + v.cells.length + (j - off - v.cells.length)=j:=by omega
        have e':off + rv.cells.size + (j - off - rv.cells.size)=j:=by omega
        rw [e] at hcj
        rw [e'] at huj
        exact h3 j c u hcj (by simpa using huj))
    refine ⟨rcs,?_,r2⟩
    unfold Instr.fill
    simp only [hpl]
    rw [if_neg (by simp; omega)]
    exact hf

theorem afill_length {place:Nat→Option (Nat × Nat)}:∀ (parts:List (Nat × AV)) (cells cs:List AV),afill place cells parts=some cs→cs.length=cells.length
 | [],cells,cs,h=>by simp only [afill,Option.some.injEq] at h; rw [h]
 | (i,v)::parts,cells,cs,h=>by
  unfold afill at h
  cases hpl:place i with
  | none=>simp [hpl] at h
  | some os =>
   obtain ⟨off,size⟩:=os
   simp only [hpl] at h
   cases hc:(Nat.beq v.cells.length size && Nat.ble (off + size) cells.length && storable v) with
   | false=>simp [hc] at h
   | true =>
    simp only [hc,cond_true] at h
    simp only [Bool.and_eq_true] at hc
    have ha':=Nat.eq_of_beq_eq_true hc.1.1
    have hb':=Nat.ble_le hc.1.2
    rw [afill_length parts _ cs h,rowSet_length (by omega)]

theorem Sim.ownTok {g:G} {w:World} (hs:Sim g w st) (e:TypeId) (b len cap sz:Nat) (cur:Array Value) (hb:w.heap[b]?=some (.cells cur e (0,0))) (hbase:g.base≤b) (hsz:0 < sz) (hlc:len≤cap) (hm:cap≤maxLen) (hcur:cur.size=cap * sz)
  (himm:∀ i,len * sz≤i→¬ g.imm b i) (htoks:∀ t b' r,st.tok t=true→g.tok t=some (some b',r)→b'≠b) (hobjs:∀ o c b' m,st.obj o=some c→g.obj o=some (b',m)→b'≠b) :
  ∃ g',Ext g w g' w∧Sim g' w (st.addTok g.next)∧g'.tok g.next=some (some b,len,cap,e,sz)∧st.tok g.next=false:=by
 let g':G:={ g with next:=g.next + 1,tok:=fun t=>if t=g.next then some (some b,len,cap,e,sz) else g.tok t }
 have hfr:=hs.fresh g.next (Nat.le_refl _)
 have hnew:g'.tok g.next=some (some b,len,cap,e,sz):=by show (if _ then _ else _)=_; rw [if_pos rfl]
 have hold:∀ t,t≠g.next→g'.tok t=g.tok t:=fun t h=>by show (if _ then _ else _)=_; rw [if_neg h]
 have he:Ext g w g' w:=⟨rfl,Nat.le_succ _,fun _ _ h=>h,fun _ _ _=>rfl,fun _ _ h=>h,fun t r h=>(hold t (fun e'=>by rw [e',hfr.2] at h; cases h)).trans h,Below.refl _ _,fun _ _ _ h=>h⟩
 have hf:st.tok g.next=false:=by
  cases h:st.tok g.next with
  | false=>rfl
  | true=>have:=hs.tok_lt h; omega
 have hcase:∀ t,(st.addTok g.next).tok t=true→t=g.next∨(t≠g.next∧st.tok t=true):=by
  intro t h
  simp only [St.addTok] at h
  split at h
  ·rename_i e; exact .inl e
  ·rename_i e; exact .inr ⟨e,h⟩
 refine ⟨g',he,⟨hs.base,fun o c hc=>?_,hs.inj,fun t ht=>?_,?_,?_,hs.immlt,hs.objlt,?_,?_,fun gi row h=>(hs.globs gi row h).ext he⟩,hnew,hf⟩
 ·obtain ⟨b,m,h1,h2,h3,h4⟩:=hs.objs o c hc
  exact ⟨b,m,h1,h2,h3.mono he rfl,h4⟩
 ·rcases hcase t ht with rfl|⟨hne,ht⟩
  ·exact ⟨_,hnew,hbase,hsz,hlc,hm,⟨cur,hb,hcur⟩,himm⟩
  ·obtain ⟨⟨b',len,cap,e,size⟩,h1,h2⟩:=hs.toks t ht
   refine ⟨_,(hold t hne).trans h1,?_⟩
   cases b' with
   | none=>exact h2
   | some b'=>exact h2
 ·intro t o c b' r m ht hc h1
  rcases hcase t ht with rfl|⟨hne,ht⟩
  ·rw [hnew] at h1; cases h1; exact fun h=>hobjs o c _ m hc h rfl
  ·rw [hold t hne] at h1; exact hs.tobj t o c b' r m ht hc h1
 ·intro t t' b' r r' ht ht' h1 h1'
  rcases hcase t ht with rfl|⟨hne,ht⟩
  ·rw [hnew] at h1
   cases h1
   rcases hcase t' ht' with rfl|⟨hne',ht'⟩
   ·rfl
   ·rw [hold t' hne'] at h1'; exact absurd rfl (htoks t' _ r' ht' h1')
  ·rcases hcase t' ht' with rfl|⟨hne',ht'⟩
   ·rw [hnew] at h1'; cases h1'; rw [hold t hne] at h1; exact absurd rfl (htoks t _ r ht h1)
   ·rw [hold t hne] at h1; rw [hold t' hne'] at h1'
    exact hs.tinj t t' b' r r' ht ht' h1 h1'
 ·intro t b' r h
  by_cases hne:t=g.next
  ·subst hne; rw [hnew] at h; cases h; exact (Array.getElem?_eq_some_iff.1 hb).1
  ·rw [hold t hne] at h; exact hs.toklt t b' r h
 ·intro k hk
  have hk':g.next + 1≤k:=hk
  exact ⟨(hs.fresh k (by omega)).1,(hold k (by omega)).trans (hs.fresh k (by omega)).2⟩

theorem Sim.newView {g:G} {w:World} (hs:Sim g w st) (e:TypeId) (sz cap:Nat) (rows:List (List AV)) (arr:Array Value) (hsz:0 < sz) (hlc:rows.length≤cap) (hm:cap≤maxLen) (harr:arr.size=cap * sz)
  (hl:∀ row ∈ rows,row.length=sz) (h1:∀ row ∈ rows,∀ c ∈ row,c.one=true) (hc:∀ (i j:Nat) row c,rows[i]?=some row→row[j]?=some c→∃ v,arr[i * sz + j]?=some v∧R g w c v) :
  ∃ g' tk,Ext g w g' (w.alloc (.cells arr e))∧Sim g' (w.alloc (.cells arr e)) (st.addTok tk)∧R g' (w.alloc (.cells arr e)) (.view sz rows (.own tk e)) (.slice (some ⟨w.heap.size,0,none⟩) rows.length cap)∧st.tok tk=false∧tk=g.next:=by
 obtain ⟨g1,he1,hs1,himm,hobj,htok,hnext,hbase⟩:=hs.newImm (.cells arr e) (fun i=>i < rows.length * sz)
 obtain ⟨g2,he2,hs2,htk,hf2⟩:=hs1.ownTok e w.heap.size rows.length cap sz arr (heap_alloc_new w _) (by rw [hbase]; exact hs.base) hsz hlc hm harr (fun i hi h=>by rw [himm] at h; omega)
  (fun t b r ht h1 hb=>by rw [htok] at h1; have:=hs.toklt t b r h1; omega) (fun o c b m ho h1 hb=>by rw [hobj] at h1; have:=hs.objlt o b m h1; omega)
 refine ⟨g2,g1.next,he1.trans he2,hs2,?_,hf2,hnext⟩
 have hmul:=Nat.mul_le_mul_right sz hlc
 exact R.view (g:=g2) (w:=w.alloc (.cells arr e)) sz rows (.own g1.next e) w.heap.size 0 cap (fun i j=>arr.getD (i * sz + j) undef) hlc hm hl h1 (TokAt.mkOwn rfl htk (fun _=>rfl))
  (fun i j hi hj=>by
   have hlt:=mul_add_lt hi hj
   refine ⟨he2.imm _ _ ((himm _).2 (by omega)),?_⟩
   rw [cell_of_row _ w.heap.size _ arr e (0,0) (heap_alloc_new w _),Array.getD_eq_getD_getElem?,Nat.zero_add,Array.getElem?_eq_getElem (by omega)]
   rfl)
  (fun i j row c hr hcj=>by
   obtain ⟨v,hv,hR⟩:=hc i j row c hr hcj
   rw [Array.getD_eq_getD_getElem?,hv]
   exact hR.ext (he1.trans he2))

theorem flatten_replicate_get {l:List AV} (hl:0 < l.length):∀ (k i:Nat),i < k * l.length→((List.replicate k l).flatten)[i]?=l[i % l.length]?
 | 0,i,h=>by simp at h
 | k + 1,i,h=>by
  rw [List.replicate_succ,List.flatten_cons,List.getElem?_append]
  by_cases hlt:i < l.length
  ·rw [if_pos hlt,Nat.mod_eq_of_lt hlt]
  ·rw [if_neg hlt,flatten_replicate_get hl k (i - l.length) (by rw [Nat.add_mul,Nat.one_mul] at h; omega)]
   congr 1
   exact (Nat.mod_eq_sub_mod (by omega)).symm

def evParts (st:St) (T:Tmps):List (Nat × Operand)→Option (List (Nat × AV))
 | []=>some []
 | (i,x)::r=>match ev st T x,evParts st T r with
  | some v,some vs=>some ((i,v)::vs)
  | _,_=>none

theorem evParts_R {g:G} {w:World} {a:Act} (hs:Sim g w st) (hk:Known g w T a):∀ (ps:List (Nat × Operand)) (vs:List (Nat × AV)),evParts st T ps=some vs →
  vs.length=(ps.map fun (i,x)=>(i,a.eval x)).length∧∀ (k:Nat) p q,vs[k]?=some p→(ps.map fun (i,x)=>(i,a.eval x))[k]?=some q→p.1=q.1∧R g w p.2 q.2
 | [],vs,h=>by simp [evParts] at h; subst h; exact ⟨rfl,fun k p q hp=>by simp at hp⟩
 | (i,x)::r,vs,h=>by
  unfold evParts at h
  cases h1:ev st T x with
  | none=>simp [h1] at h
  | some u =>
   cases h2:evParts st T r with
   | none=>simp [h1,h2] at h
   | some us =>
    simp [h1,h2] at h
    subst h
    obtain ⟨hl,hr⟩:=evParts_R hs hk r us h2
    refine ⟨by simpa using hl,fun k p q hp hq=>?_⟩
    cases k with
    | zero=>simp at hp hq; subst hp; subst hq; exact ⟨rfl,ev_R hs hk h1⟩
    | succ k=>exact hr k p q (by simpa using hp) (by simpa using hq)

class Places (P:Program) (fs:Array Field) (pl:outParam (List (Nat × Nat))):Prop where
 raw:fs.toList.mapM (fun f=>(P.info? f.type).map fun i=>(f.offset,i.size))=some pl

theorem bds {t:TypeId} {fs:Array Field} {pl:List (Nat × Nat)} {sz by_:Nat} {z:Value} {parts:Array (Nat × Operand)} {vs:List (Nat × AV)} {cs:List AV} [hu:Und P t (.struct fs)] [hi:Inf P t sz by_ z] (hg:goes ops n T ⟨dd,.build t parts,ty,pos,es,gd⟩=some d)
  [hpl:Places P fs pl] (hz:zok sz z=true) (he:evParts st T parts.toList=some vs) (hf:afill (pl[·]?) (zrow z) vs=some cs)
  (k:AOps P n ops rest K E ((d,.agg cs)::T) st):AOps P n ops (⟨dd,.build t parts,ty,pos,es,gd⟩::rest) K E T st:=by
 obtain ⟨hw,hd,hok⟩:=goes_some hg
 simp only at hd
 subst hd
 refine AOps.pure hw hok (.agg cs) (fun g w a hs hk=>?_) k
 obtain ⟨z1,z2,z3,z4⟩:=zok_spec hz
 obtain ⟨hl,hr⟩:=evParts_R hs hk _ _ he
 obtain ⟨rcs,h1,h2,h3,h4⟩:=afill_run (g:=g) (w:=w) vs (parts.toList.map fun (i,x)=>(i,a.eval x)) (zrow z) z.cells cs hf hl hr (by rw [z3,z1]) z4
  (fun i c v hc hv=>by obtain ⟨v',h5,h6⟩:=zrow_get hc g w; rw [h5] at hv; cases hv; exact h6)
 refine ⟨.agg rcs,?_,.agg _ _ h2 h3 h4⟩
 obtain ⟨inf,i1,i2,i3,i4⟩:=hi.out
 have hb:P.built t (parts.map fun (i,x)=>(i,a.eval x)).toList=some rcs:=by
  simp only [Program.built,i1,hu.out,i4,hpl.raw]
  rw [Array.toList_map]
  simpa using h1
 simp [execOp,run_build w t _ rcs hb]

theorem bda {t e:TypeId} {len:Nat} {sz by_ esz eby:Nat} {z ez:Value} {parts:Array (Nat × Operand)} {vs:List (Nat × AV)} {cs:List AV} [hu:Und P t (.array len e)] [hi:Inf P t sz by_ z] [hie:Inf P e esz eby ez] (hg:goes ops n T ⟨dd,.build t parts,ty,pos,es,gd⟩=some d)
  (hz:zok sz z=true) (he:evParts st T parts.toList=some vs) (hf:afill (fun i=>some (i * esz,esz)) (zrow z) vs=some cs)
  (k:AOps P n ops rest K E ((d,.agg cs)::T) st):AOps P n ops (⟨dd,.build t parts,ty,pos,es,gd⟩::rest) K E T st:=by
 obtain ⟨hw,hd,hok⟩:=goes_some hg
 simp only at hd
 subst hd
 refine AOps.pure hw hok (.agg cs) (fun g w a hs hk=>?_) k
 obtain ⟨z1,z2,z3,z4⟩:=zok_spec hz
 obtain ⟨hl,hr⟩:=evParts_R hs hk _ _ he
 obtain ⟨rcs,h1,h2,h3,h4⟩:=afill_run (g:=g) (w:=w) vs (parts.toList.map fun (i,x)=>(i,a.eval x)) (zrow z) z.cells cs hf hl hr (by rw [z3,z1]) z4
  (fun i c v hc hv=>by obtain ⟨v',h5,h6⟩:=zrow_get hc g w; rw [h5] at hv; cases hv; exact h6)
 refine ⟨.agg rcs,?_,.agg _ _ h2 h3 h4⟩
 obtain ⟨inf,i1,i2,i3,i4⟩:=hi.out
 obtain ⟨einf,j1,j2,j3,j4⟩:=hie.out
 have hb:P.built t (parts.map fun (i,x)=>(i,a.eval x)).toList=some rcs:=by
  simp only [Program.built,i1,hu.out,i4,j1,j2]
  rw [Array.toList_map]
  exact h1
 simp [execOp,run_build w t _ rcs hb]

def chunk (sz:Nat):Nat→List AV→List (List AV)
 | 0,_=>[]
 | k + 1,l=>l.take sz::chunk sz k (l.drop sz)

theorem length_chunk (sz:Nat):∀ (k:Nat) (l:List AV),(chunk sz k l).length=k
 | 0,_=>rfl
 | k + 1,l=>by simp [chunk,length_chunk sz k]

theorem chunk_get (sz:Nat):∀ (k:Nat) (l:List AV) (i:Nat) row,(chunk sz k l)[i]?=some row→row=(l.drop (i * sz)).take sz
 | 0,l,i,row,h=>by simp [chunk] at h
 | k + 1,l,0,row,h=>by simp [chunk] at h; simp [h]
 | k + 1,l,i + 1,row,h=>by
  simp only [chunk,List.getElem?_cons_succ] at h
  rw [chunk_get sz k _ i row h,List.drop_drop]
  congr 2
  rw [Nat.add_mul,Nat.one_mul,Nat.add_comm]

theorem run_buildSlice {t e:TypeId} {len sz eby:Nat} {ez:Value} [hu:Und P t (.slice e)] [hie:Inf P e sz eby ez] (hsm:len * sz≤16777216) (parts:Array (Nat × Value)) (rcs:Array Value) (w:World)
  (hf:Instr.fill (fun i=>some (i * sz,sz)) ((Array.range (len * sz)).map (ez.cells[· % ez.cells.size]!)) parts.toList=some rcs) :
  (Instr.buildSlice t len parts).run P w=.ok (.slice (some ⟨w.heap.size,0,none⟩) len len) (w.alloc (.cells rcs e)):=by
 have hlt:¬ (len * sz > 16777216):=by omega
 unfold Instr.buildSlice
 simp only [Sem.run_bind,run_und (P:=P) (t:=t) w,Result.andThen_ok,run_size (P:=P) (t:=e) w]
 by_cases h0:len * sz=0
 ·have e0:((Array.range (len * sz)).map (ez.cells[· % ez.cells.size]!))=#[]:=by rw [h0]; simp
  rw [e0] at hf
  have e1:((Array.range (len * sz)).map fun i=>(#[]:Array Value)[i % (#[]:Array Value).size]!)=#[]:=by rw [h0]; simp
  rw [if_neg hlt,if_pos h0]
  simp only [Sem.run_bind,Sem.run_pure,Result.andThen_ok,e1,hf,newRow,run_newObj,World.alloc_eq]
 ·rw [if_neg hlt,if_neg h0]
  simp only [Sem.run_bind,Sem.run_pure,Result.andThen_ok,run_zero (P:=P) (t:=e) w,hf,newRow,run_newObj,World.alloc_eq]

theorem bs {t e:TypeId} {len:Nat} {esz eby:Nat} {ez:Value} {parts:Array (Nat × Operand)} {vs:List (Nat × AV)} {cs:List AV} [hu:Und P t (.slice e)] [hie:Inf P e (esz + 1) eby ez] (hg:goes ops n T ⟨dd,.buildSlice t len parts,ty,pos,es,gd⟩=some d)
  (hz:zok (esz + 1) ez=true) (hsm:Nat.ble (len * (esz + 1)) 16777216=true) (he:evParts st T parts.toList=some vs) (hf:afill (fun i=>some (i * (esz + 1),esz + 1)) ((List.replicate len (zrow ez)).flatten) vs=some cs)
  (k:∀ tk,st.tok tk=false→AOps P n ops rest K E ((d,.view (esz + 1) (chunk (esz + 1) len cs) (.own tk e))::T) (st.addTok tk)):AOps P n ops (⟨dd,.buildSlice t len parts,ty,pos,es,gd⟩::rest) K E T st:=by
 refine AOps.stepAny hg fun g w a hs hk=>?_
 obtain ⟨z1,z2,z3,z4⟩:=zok_spec hz
 obtain ⟨hl,hr⟩:=evParts_R hs hk _ _ he
 have hsm':=Nat.ble_le hsm
 have hfl:((List.replicate len (zrow ez)).flatten).length=len * (esz + 1):=by simp [z3]
 obtain ⟨rcs,f1,f2,f3,f4⟩:=afill_run (g:=g) (w:=w) vs (parts.toList.map fun (i,x)=>(i,a.eval x)) _ ((Array.range (len * (esz + 1))).map (ez.cells[· % ez.cells.size]!)) cs hf hl hr (by rw [hfl]; simp)
  (fun c hc=>by
   simp only [List.mem_flatten,List.mem_replicate] at hc
   obtain ⟨l,⟨_,rfl⟩,h⟩:=hc
   exact z4 c h)
  (fun i c v hc hv=>by
   have hi:i < len * (esz + 1):=by rw [← hfl]; exact (List.getElem?_eq_some_iff.1 hc).1
   rw [flatten_replicate_get (by rw [z3]; omega) len i (by rw [z3]; exact hi),z3] at hc
   obtain ⟨u,h1,h2⟩:=zrow_get hc g w
   simp only [Array.getElem?_map,Array.getElem?_range,hi,if_true,Option.map_some,Option.some.injEq,z1] at hv
   rw [getElem!_def,h1] at hv
   simp only at hv
   rw [← hv]
   exact h2)
 have hrcs:rcs.size=len * (esz + 1):=by
  rw [← f2,afill_length vs _ cs hf,hfl]
 have hlen:=length_chunk (esz + 1) len cs
 have hcsl:cs.length=len * (esz + 1):=by rw [f2,hrcs]
 have hrow:∀ i row,(chunk (esz + 1) len cs)[i]?=some row→i < len∧row=(cs.drop (i * (esz + 1))).take (esz + 1):=fun i row h =>
  ⟨by have:=(List.getElem?_eq_some_iff.1 h).1; rwa [hlen] at this,chunk_get (esz + 1) len cs i row h⟩
 have hlm:len≤maxLen:=by have h9:=Nat.le_mul_of_pos_right len (show 0 < esz + 1 by omega); unfold maxLen; omega
 obtain ⟨g',tk,het,hs',hR,hf2,_⟩:=hs.newView e (esz + 1) len (chunk (esz + 1) len cs) rcs (Nat.succ_pos _) (by rw [hlen]; exact Nat.le_refl _) hlm hrcs
  (fun row hr=>by
   obtain ⟨i,hi,rfl⟩:=List.getElem_of_mem hr
   obtain ⟨h1,h2⟩:=hrow i _ (List.getElem?_eq_getElem hi)
   rw [h2]
   have:=Nat.mul_le_mul_right (esz + 1) (show i + 1≤len from h1)
   rw [Nat.add_mul,Nat.one_mul] at this
   simp; omega)
  (fun row hr c hc=>by
   obtain ⟨i,hi,rfl⟩:=List.getElem_of_mem hr
   obtain ⟨_,h2⟩:=hrow i _ (List.getElem?_eq_getElem hi)
   rw [h2] at hc
   exact f3 c (List.mem_of_mem_drop (List.mem_of_mem_take hc)))
  (fun i j row c hr hc=>by
   obtain ⟨h1,rfl⟩:=hrow i row hr
   have hj:j < esz + 1:=by
    have:=(List.getElem?_eq_some_iff.1 hc).1
    simp at this; omega
   rw [List.getElem?_take_of_lt hj,List.getElem?_drop] at hc
   have hlt:=mul_add_lt h1 hj
   exact ⟨rcs[i * (esz + 1) + j]'(by omega),by simp [show i * (esz + 1) + j < rcs.size by omega],f4 _ c _ hc (by simp [show i * (esz + 1) + j < rcs.size by omega])⟩)
 rw [hlen] at hR
 refine ⟨.slice (some ⟨w.heap.size,0,none⟩) len len,g',w.alloc (.cells rcs e),_,_,?_,het,hs',hR,k tk hf2⟩
 have:=run_buildSlice (P:=P) (t:=t) (e:=e) (len:=len) hsm' (parts.map fun (i,x)=>(i,a.eval x)) rcs w (by rw [Array.toList_map]; exact f1)
 simp [execOp,this]

end
end Go.AM
namespace Go.AM
open Go.RowKit (Below)

section
variable {P:Program} {n:Nat} {K:Post} {E:EPost} {T:Tmps} {st:St} {ops:Array Oper} {rest:List Oper}
variable {ty:TypeId} {pos:String} {es:Array Edge} {gd:Option (Nat × Bool)} {d:Tmp} {x y:Operand} {dd:Option Tmp}

theorem replicate_get {α:Type} {a b:α} {n i:Nat} (h:(List.replicate n a)[i]?=some b):i < n∧b=a:=by
 rw [List.getElem?_replicate] at h
 split at h
 ·rename_i hi; exact ⟨hi,(Option.some.inj h).symm⟩
 ·cases h

theorem mk {t e:TypeId} {esz by_:Nat} {ez:Value} [hu:Und P t (.slice e)] [hie:Inf P e (esz + 1) by_ ez] {k k':IntKind} {len cap:Nat} (hg:goes ops n T ⟨dd,.makeSlice t x y,ty,pos,es,gd⟩=some d)
  (hx:ev st T x=some (.int k (len:Int))) (hy:ev st T y=some (.int k' (cap:Int))) (hz:zok (esz + 1) ez=true) (hlc:len≤cap) (hb:cap * by_≤140737488355328) (hc:cap < 9223372036854775808)
  (kk:∀ o,st.obj o=none→AOps P n ops rest K E ((d,.msl o (esz + 1) 0 len)::T) (st.set o (.cells e (esz + 1) (List.replicate cap (zrow ez))))):AOps P n ops (⟨dd,.makeSlice t x y,ty,pos,es,gd⟩::rest) K E T st:=by
 refine AOps.stepAny hg fun g w a hs hk=>?_
 obtain ⟨z1,z2,z3,z4⟩:=zok_spec hz
 have h1:=ev_R hs hk hx
 have h2:=ev_R hs hk hy
 generalize hux:a.eval x=ux at h1
 generalize huy:a.eval y=uy at h2
 cases h1
 cases h2
 obtain ⟨inf,i1,i2,i3,i4⟩:=hie.out
 have hrun:=run_make (P:=P) w t e inf ez hu.out i1 i4 k k' len cap (by omega) (by omega) (by
  rw [i3]
  have:((cap * by_:Nat):Int)≤140737488355328:=Int.ofNat_le.2 hb
  rw [Int.natCast_mul,Int.mul_comm] at this
  exact Int.le_trans this (by decide)) (by omega)
 simp only [Int.toNat_natCast,i2] at hrun
 obtain ⟨g',he,hs',hob,hnone⟩:=hs.newObj (.cells (madeCells ez.cells (cap * (esz + 1))) e) (.cells e (esz + 1) (List.replicate cap (zrow ez))) (cap * (esz + 1))
  (fun g' _=>⟨_,heap_alloc_new w _,size_madeCells _ _,by simp,fun row hr=>by rw [(List.mem_replicate.1 hr).2,z3],fun row hr=>by rw [(List.mem_replicate.1 hr).2]; exact z4,fun i j row c hr hc=>by
   obtain ⟨hi,rfl⟩:=replicate_get hr
   have hj:j < esz + 1:=by rw [← z3]; exact (List.getElem?_eq_some_iff.1 hc).1
   have hlt:=mul_add_lt hi hj
   obtain ⟨v,h1,h2⟩:=zrow_get hc g' (w.alloc (.cells (madeCells ez.cells (cap * (esz + 1))) e))
   refine ⟨v,?_,h2⟩
   have hmod:(i * (esz + 1) + j) % (esz + 1)=j:=by rw [Nat.mul_comm,Nat.mul_add_mod,Nat.mod_eq_of_lt hj]
   simp only [madeCells,Array.getElem?_map,Array.getElem?_range,hlt,if_true,Option.map_some,Option.some.injEq,z1,hmod]
   rw [getElem!_def,h1]⟩)
 refine ⟨.slice (some ⟨w.heap.size,0,none⟩) len cap,g',_,_,_,by simp only [execOp,hux,huy,Sem.run_bind,hrun,Sem.run_pure,Result.andThen_ok],he,hs',?_,kk g.next hnone⟩
 have:=R.msl (w:=w.alloc (.cells (madeCells ez.cells (cap * (esz + 1))) e)) g.next (esz + 1) 0 len cap w.heap.size (cap * (esz + 1)) hob hlc (by unfold maxLen; omega) (by simp)
 simpa using this

/-! ### Append -/

def flatV (f:Nat→Nat→Value) (len sz:Nat):List Value:=(List.range (len * sz)).map fun q=>f (q / sz) (q % sz)

theorem flatV_length (f:Nat→Nat→Value) (len sz:Nat):(flatV f len sz).length=len * sz:=by simp [flatV]
theorem flatV_get {f:Nat→Nat→Value} {len sz q:Nat} {v:Value} (h:(flatV f len sz)[q]?=some v):q < len * sz∧v=f (q / sz) (q % sz):=by
 have hq:q < len * sz:=by rw [← flatV_length f len sz]; exact (List.getElem?_eq_some_iff.1 h).1
 simp only [flatV,List.getElem?_map,List.getElem?_range hq,Option.map_some,Option.some.injEq] at h
 exact ⟨hq,h.symm⟩
theorem flatV_at (f:Nat→Nat→Value) {len sz i j:Nat} (hi:i < len) (hj:j < sz):(flatV f len sz)[i * sz + j]?=some (f i j):=by
 have hlt:=mul_add_lt hi hj
 have hsz:0 < sz:=by omega
 simp only [flatV,List.getElem?_map,List.getElem?_range hlt,Option.map_some,Option.some.injEq]
 rw [Nat.mul_comm i sz,Nat.mul_add_div hsz,Nat.mul_add_mod,Nat.div_eq_of_lt hj,Nat.mod_eq_of_lt hj,Nat.add_zero]

theorem mem_flatV {f:Nat→Nat→Value} {len sz:Nat} {u:Value} (h:u ∈ flatV f len sz):∃ i j,i < len∧j < sz∧u=f i j:=by
 obtain ⟨q,hq,rfl⟩:=List.getElem_of_mem h
 obtain ⟨h1,h2⟩:=flatV_get (List.getElem?_eq_getElem hq)
 have hsz:0 < sz:=by
  rcases Nat.eq_zero_or_pos sz with h|h
  ·subst h; simp at h1
  ·exact h
 exact ⟨q / sz,q % sz,by rwa [Nat.div_lt_iff_lt_mul hsz],Nat.mod_lt _ hsz,h2⟩

def Src (g:G) (w:World) (sz:Nat) (rows:List (List AV)) (rv:Value):Prop :=
  ∃ base cap f,rv=.slice base rows.length cap∧(base=none→rows=[]∧cap=0)∧(∀ (i j:Nat) row c,rows[i]?=some row→row[j]?=some c→R g w c (f i j))∧(∀ row ∈ rows,row.length=sz)∧(∀ row ∈ rows,∀ c ∈ row,c.one=true) ∧
   (∀ b,base=some b→∀ (q:Nat) v,(flatV f rows.length sz)[q]?=some v→w.cell? (b.add q)=some v)∧(∀ u ∈ flatV f rows.length sz,u.oneCell'=true)
theorem src_of {g:G} {w:World} {sz:Nat} {rows:List (List AV)} {tk:Tok} {rv:Value} (h:R g w (.view sz rows tk) rv) :
  ∃ base cap f,rv=.slice base rows.length cap∧(base=none→rows=[]∧cap=0)∧(∀ (i j:Nat) row c,rows[i]?=some row→row[j]?=some c→R g w c (f i j))∧(∀ row ∈ rows,row.length=sz)∧(∀ row ∈ rows,∀ c ∈ row,c.one=true) ∧
   (∀ b,base=some b→∀ (q:Nat) v,(flatV f rows.length sz)[q]?=some v→w.cell? (b.add q)=some v)∧(∀ u ∈ flatV f rows.length sz,u.oneCell'=true):=by
 cases h with
 | vnil _ _ ht=>exact ⟨none,0,fun _ _=>undef,rfl,fun _=>⟨rfl,rfl⟩,(fun i j row c hr=>by simp at hr),(fun row hr=>by simp at hr),(fun row hr=>by simp at hr),(fun b h=>by cases h),fun u hu=>by simp [flatV] at hu⟩
 | vemp _ _ ad=>exact ⟨some ad,0,fun _ _=>undef,rfl,(fun h=>by cases h),(fun i j row c hr=>by simp at hr),(fun row hr=>by simp at hr),(fun row hr=>by simp at hr),(fun b h q v hq=>by simp [flatV] at hq),fun u hu=>by simp [flatV] at hu⟩
 | view _ _ _ b off cap f hc hm hsz h1 ht himm hh =>
  refine ⟨some ⟨b,off,none⟩,cap,f,rfl,fun h=>(by cases h),hh,hsz,h1,fun b' hb q v hq=>?_,fun u hu=>?_⟩
  ·cases hb
   obtain ⟨h2,rfl⟩:=flatV_get hq
   have hsz':0 < sz:=by
    rcases Nat.eq_zero_or_pos sz with h|h
    ·subst h; simp at h2
    ·exact h
   have:=(himm (q / sz) (q % sz) (by rwa [Nat.div_lt_iff_lt_mul hsz']) (Nat.mod_lt _ hsz')).2
   rw [Nat.mul_comm (q / sz) sz,Nat.div_add_mod] at this
   rw [addr_add]
   exact this
  ·obtain ⟨i,j,hi,hj,rfl⟩:=mem_flatV hu
   have hr:=List.getElem?_eq_getElem hi
   have hjl:j < rows[i].length:=by rw [hsz _ (List.getElem_mem hi)]; exact hj
   exact (hh i j _ _ hr (List.getElem?_eq_getElem hjl)).one (h1 _ (List.getElem_mem hi) _ (List.getElem_mem hjl))

theorem appended_get {g:G} {w:World} {sz:Nat} {rows rows2:List (List AV)} {f f2:Nat→Nat→Value} (hl:∀ row ∈ rows,row.length=sz) (hl2:∀ row ∈ rows2,row.length=sz)
  (h:∀ (i j:Nat) row c,rows[i]?=some row→row[j]?=some c→R g w c (f i j)) (h2:∀ (i j:Nat) row c,rows2[i]?=some row→row[j]?=some c→R g w c (f2 i j)) (more:List Value) :
  ∀ (i j:Nat) row c,(rows++rows2)[i]?=some row→row[j]?=some c→∃ v,(flatV f rows.length sz++flatV f2 rows2.length sz++more)[i * sz + j]?=some v∧R g w c v:=by
 intro i j row c hr hc
 by_cases hi:i < rows.length
 ·rw [List.getElem?_append_left hi] at hr
  have hj:j < sz:=by rw [← hl row (List.mem_of_getElem? hr)]; exact (List.getElem?_eq_some_iff.1 hc).1
  have hlt:=mul_add_lt hi hj
  refine ⟨f i j,?_,h i j row c hr hc⟩
  rw [List.append_assoc,List.getElem?_append_left (by rw [flatV_length]; exact hlt)]
  exact flatV_at f hi hj
 ·rw [List.getElem?_append_right (by omega)] at hr
  have hi2:i - rows.length < rows2.length:=(List.getElem?_eq_some_iff.1 hr).1
  have hj:j < sz:=by rw [← hl2 row (List.mem_of_getElem? hr)]; exact (List.getElem?_eq_some_iff.1 hc).1
  have hlt:=mul_add_lt hi2 hj
  refine ⟨f2 (i - rows.length) j,?_,h2 _ j row c hr hc⟩
  have e:i * sz + j=rows.length * sz + ((i - rows.length) * sz + j):=by
   rw [← Nat.add_assoc,← Nat.add_mul]
   congr 2
   omega
  rw [e,List.append_assoc,List.getElem?_append_right (by rw [flatV_length]; omega),flatV_length,Nat.add_sub_cancel_left,List.getElem?_append_left (by rw [flatV_length]; exact hlt)]
  exact flatV_at f2 hi2 hj

theorem run_append_nothing {t e:TypeId} {sz by_:Nat} {ez:Value} [hu:Und P t (.slice e)] [hie:Inf P e sz by_ ez] {ty:TypeId} (base:Option Addr) (len cap:Nat) (hlc:len≤cap) (b2:Option Addr) (c2:Nat) (w:World) :
  (Builtin.append_ #[t,t] ty #[.slice base len cap,.slice b2 0 c2]).run P w=.ok (.slice base len cap) w:=by
 cases base with
 | none=>cases b2 <;> simp [Builtin.append_,run_und (P:=P) (t:=t) w,run_size (P:=P) (t:=e) w,Builtin.lenOf,hlc,Builtin.firstCells,loadCells,loadCellsFrom]
 | some a=>cases b2 <;> simp [Builtin.append_,run_und (P:=P) (t:=t) w,run_size (P:=P) (t:=e) w,Builtin.lenOf,hlc,Builtin.firstCells,loadCells,loadCellsFrom,storeCells]

theorem Sim.writeFree {g:G} {w:World} (hs:Sim g w st) (b k:Nat) (cur arr:Array Value) (e:TypeId) (hb:w.heap[b]?=some (.cells cur e (0,0))) (hbase:g.base≤b) (himm:∀ i,g.imm b i→i < k) (hsame:∀ i,i < k→arr[i]?=cur[i]?)
  (htoks:∀ t b' r,st.tok t=true→g.tok t=some (some b',r)→b'≠b) (hobjs:∀ o c b' m,st.obj o=some c→g.obj o=some (b',m)→b'≠b):Ext g w g (w.setRow b arr)∧Sim g (w.setRow b arr) st:=by
 have hoth:∀ k,k≠b→(w.setRow b arr).heap[k]?=w.heap[k]?:=fun k hk=>setRow_other w b k arr hk
 have he:Ext g w g (w.setRow b arr):=by
  refine ⟨rfl,Nat.le_refl _,fun _ _ h=>h,fun b' i h=>?_,fun _ _ h=>h,fun _ _ h=>h,⟨rfl,rfl,rfl,by simp,fun j hj=>hoth j (by omega)⟩,fun _ _ _ h=>h⟩
  by_cases hbb:b'=b
  ·subst hbb
   rw [cell_of_row _ b' i arr e (0,0) (setRow_heap w b' cur arr e (0,0) hb),cell_of_row w b' i cur e (0,0) hb]
   exact hsame i (himm i h)
  ·exact World.cell?_of_block (w:=w) (hoth b' hbb)
 refine ⟨he,by simp; exact hs.base,fun o c hc=>?_,hs.inj,fun t ht=>?_,hs.tobj,hs.tinj,fun b i h=>by simp; exact hs.immlt b i h,fun o b m h=>by simp; exact hs.objlt o b m h,fun t b r h=>by simp; exact hs.toklt t b r h,hs.fresh,fun gi row h=>(hs.globs gi row h).ext he⟩
 ·obtain ⟨b',m,h1,h2,h3,h4⟩:=hs.objs o c hc
  exact ⟨b',m,h1,h2,h3.mono he (hoth b' (hobjs o c b' m hc h1)),h4⟩
 ·obtain ⟨⟨b',len,cap,e',size⟩,h1,h2⟩:=hs.toks t ht
  refine ⟨_,h1,?_⟩
  cases b' with
  | none=>exact h2
  | some b' =>
   obtain ⟨a1,a2,a3,a4,⟨cur',a5,a6⟩,a7⟩:=h2
   exact ⟨a1,a2,a3,a4,⟨cur',(hoth b' (htoks t b' _ ht h1)).trans a5,a6⟩,a7⟩

theorem Sim.immMore {g:G} {w:World} (hs:Sim g w st) (b:Nat) (p:Nat→Prop) (hbase:g.base≤b) (hlt:b < w.heap.size) (htoks:∀ t b' r,st.tok t=true→g.tok t=some (some b',r)→b'≠b) (hobjs:∀ o c b' m,st.obj o=some c→g.obj o=some (b',m)→b'≠b) :
  ∃ g',Ext g w g' w∧Sim g' w st∧(∀ i,g'.imm b i ↔ g.imm b i∨p i)∧g'.obj=g.obj∧g'.tok=g.tok∧g'.next=g.next∧g'.base=g.base:=by
 let g':G:={ g with imm:=fun k i=>g.imm k i∨(k=b∧p i) }
 have he:Ext g w g' w:=⟨rfl,Nat.le_refl _,fun _ _ h=>.inl h,fun _ _ _=>rfl,fun _ _ h=>h,fun _ _ h=>h,Below.refl _ _,fun k i hk h=>h.elim id fun h=>absurd hk (by have:=h.1; omega)⟩
 refine ⟨g',he,⟨hs.base,fun o c hc=>?_,hs.inj,fun t ht=>?_,hs.tobj,hs.tinj,?_,hs.objlt,hs.toklt,hs.fresh,fun gi row h=>(hs.globs gi row h).ext he⟩,fun i=>⟨fun h=>h.imp id (fun h=>h.2),fun h=>h.imp id (fun h=>⟨rfl,h⟩)⟩,rfl,rfl,rfl,rfl⟩
 ·obtain ⟨b',m,h1,h2,h3,h4⟩:=hs.objs o c hc
  refine ⟨b',m,h1,h2,h3.mono he rfl,fun i hi=>?_⟩
  rcases hi with hi|⟨hi,_⟩
  ·exact h4 i hi
  ·exact hobjs o c b' m hc h1 hi
 ·obtain ⟨⟨b',len,cap,e',size⟩,h1,h2⟩:=hs.toks t ht
  refine ⟨_,h1,?_⟩
  cases b' with
  | none=>exact h2
  | some b' =>
   obtain ⟨a1,a2,a3,a4,a5,a7⟩:=h2
   refine ⟨a1,a2,a3,a4,a5,fun i hi hi'=>?_⟩
   rcases hi' with hi'|⟨hi',_⟩
   ·exact a7 i hi hi'
   ·exact htoks t b' _ ht h1 hi'
 ·intro k i hi
  rcases hi with hi|⟨hi,_⟩
  ·exact hs.immlt k i hi
  ·omega

theorem append_emp {g:G} {w:World} (hs0:Sim g w st) {t e:TypeId} {sz by_:Nat} {ez:Value} [hu:Und P t (.slice e)] [hie:Inf P e sz by_ ez] (hsz:0 < sz) (hz:zok sz ez=true) {ty:TypeId} {rows2:List (List AV)} {tk2:Tok} {uy:Value} (ad0:Addr)
  (h2:R g w (.view sz rows2 tk2) uy) (hb:rows2.length * by_≤140737488355328) (hm:rows2.length≤maxLen) :
  ∃ v w' g' tk',(Builtin.append_ #[t,t] ty #[.slice (some ad0) 0 0,uy]).run P w=.ok v w'∧Ext g w g' w'∧Sim g' w' (st.addTok tk')∧R g' w' (.view sz rows2 (.own tk' e)) v∧st.tok tk'=false∧tk'=g.next:=by
 obtain ⟨z1,z2,z3,z4⟩:=zok_spec hz
 obtain ⟨inf,i1,i2,i3,i4⟩:=hie.out
 obtain ⟨base2,cap2,f2,rfl,hnil2,hR2,hl2,h12,hcell2,hone2⟩:=src_of h2
 have hm64:rows2.length≤9223372036854775807:=by simp only [maxLen] at hm; omega
 subst i2
 by_cases h0:rows2.length=0
 ·have h00:rows2=[]:=List.eq_nil_of_length_eq_zero h0
  subst h00
  obtain ⟨g',he,hs',htk',hf⟩:=hs0.nilTok e
  exact ⟨_,w,g',g.next,run_append_nothing (some ad0) 0 0 (Nat.le_refl _) base2 cap2 w,he,hs',.vemp _ _ _ (fun h=>by cases h) (TokAt.mkOwn rfl htk' (fun h=>absurd rfl h)),hf,rfl⟩
 ·obtain ⟨ad,rfl⟩:∃ ad,base2=some ad:=by
   cases base2 with
   | none=>exact absurd (by rw [(hnil2 rfl).1]; rfl) h0
   | some ad=>exact ⟨ad,rfl⟩
  have hr:=run_append_grow (P:=P) w t ty e inf ez hu.out i1 i4 ad0 0 0 [] (by simp) (fun j v h=>by simp at h) ad rows2.length cap2 (flatV f2 rows2.length inf.size) (flatV_length _ _ _) (hcell2 ad rfl) (by omega) (by omega)
   (growslice_fits (by omega) (by rw [i3]; simpa using hb))
  simp only [Nat.zero_add] at hr
  have hge:=grownCap_ge w rows2.length 0 e
  have hgm:=grownCap_le_maxLen w rows2.length 0 e hm
  obtain ⟨hed,hsd⟩:=hs0.draw
  have harr:(([]:List Value).toArray++(flatV f2 rows2.length inf.size).toArray++Builtin.zeroCells ez.cells (grownCap w rows2.length 0 e - rows2.length))=(flatV f2 rows2.length inf.size).toArray++Builtin.zeroCells ez.cells (grownCap w rows2.length 0 e - rows2.length):=by simp
  rw [harr] at hr
  obtain ⟨g',tk',he,hs',hR,hf,htn⟩:=hsd.newView e inf.size (grownCap w rows2.length 0 e) rows2 ((flatV f2 rows2.length inf.size).toArray++Builtin.zeroCells ez.cells (grownCap w rows2.length 0 e - rows2.length)) hsz hge hgm
   (by simp only [Array.size_append,List.size_toArray,flatV_length,size_zeroCells,z1,← Nat.add_mul]; congr 1; omega) hl2 h12
   (fun i j row c hr hc=>by
    obtain ⟨v,hv,hR⟩:=appended_get (g:=g) (w:=w) (rows:=[]) (f:=f2) (fun row hr=>by simp at hr) hl2 (fun i j row c hr=>by simp at hr) hR2 (Builtin.zeroCells ez.cells (grownCap w rows2.length 0 e - rows2.length)).toList i j row c (by simpa using hr) hc
    refine ⟨v,?_,hR.ext hed⟩
    rw [← Array.getElem?_toList]
    simpa [flatV] using hv)
  exact ⟨_,_,g',tk',hr,hed.trans he,hs',hR,hf,htn⟩
theorem append_view {g:G} {w:World} (hs:Sim g w st) {t e:TypeId} {sz by_:Nat} {ez:Value} [hu:Und P t (.slice e)] [hie:Inf P e sz by_ ez] (hsz:0 < sz) (hz:zok sz ez=true) {ty:TypeId} {rows rows2:List (List AV)} {tk:Nat} {tk2:Tok} {ux uy:Value}
  (h1:R g w (.view sz rows (.own tk e)) ux) (h2:R g w (.view sz rows2 tk2) uy) (htk:st.tok tk=true) (hb:(rows.length + rows2.length) * by_≤140737488355328) (hm:rows.length + rows2.length≤maxLen) :
  ∃ v w' g' tk',(Builtin.append_ #[t,t] ty #[ux,uy]).run P w=.ok v w'∧Ext g w g' w'∧Sim g' w' ((st.untok tk).addTok tk')∧R g' w' (.view sz (rows++rows2) (.own tk' e)) v∧st.tok tk'=false:=by
 obtain ⟨z1,z2,z3,z4⟩:=zok_spec hz
 obtain ⟨inf,i1,i2,i3,i4⟩:=hie.out
 obtain ⟨base2,cap2,f2,rfl,hnil2,hR2,hl2,h12,hcell2,hone2⟩:=src_of h2
 have hm64:rows.length + rows2.length≤9223372036854775807:=by simp only [maxLen] at hm; omega
 have hs0:=hs.le (StLe.untok (st:=st) tk)
 have hnew:∀ {tk':Nat},tk'≠tk→(st.untok tk).tok tk'=false→st.tok tk'=false:=by
  intro tk' hne h
  simp only [St.untok,hne,if_false] at h
  exact h
 have hlt:=hs.tok_lt htk
 subst i2
 cases h1 with
 | vnil _ _ ht =>
  simp only [List.length_nil,Nat.zero_add,List.nil_append] at *
  by_cases h0:rows2.length=0
  ·have h00:rows2=[]:=List.eq_nil_of_length_eq_zero h0
   subst h00
   obtain ⟨g',he,hs',htk',hf⟩:=hs0.nilTok e
   exact ⟨_,w,g',g.next,run_append_nothing none 0 0 (Nat.le_refl _) base2 cap2 w,he,hs',.vnil _ _ (TokAt.mkOwn rfl htk' (fun h=>absurd rfl h)),hnew (by omega) hf⟩
  ·obtain ⟨ad,rfl⟩:∃ ad,base2=some ad:=by
    cases base2 with
    | none=>exact absurd (by rw [(hnil2 rfl).1]; rfl) h0
    | some ad=>exact ⟨ad,rfl⟩
   have hr:=run_append_nil (P:=P) w t ty e inf ez hu.out i1 i4 ad rows2.length cap2 (flatV f2 rows2.length inf.size) (flatV_length _ _ _) (hcell2 ad rfl) (by omega) (by omega) (by rw [i3]; omega)
   have hge:=grownCap_ge w rows2.length 0 e
   have hgm:=grownCap_le_maxLen w rows2.length 0 e (by simpa using hm)
   obtain ⟨hed,hsd⟩:=hs0.draw
   obtain ⟨g',tk',he,hs',hR,hf,htn⟩:=hsd.newView e inf.size (grownCap w rows2.length 0 e) rows2 ((flatV f2 rows2.length inf.size).toArray++Builtin.zeroCells ez.cells (grownCap w rows2.length 0 e - rows2.length)) hsz hge hgm
    (by simp only [Array.size_append,List.size_toArray,flatV_length,size_zeroCells,z1,← Nat.add_mul]; congr 1; omega) hl2 h12
    (fun i j row c hr hc=>by
     obtain ⟨v,hv,hR⟩:=appended_get (g:=g) (w:=w) (rows:=[]) (f:=f2) (fun row hr=>by simp at hr) hl2 (fun i j row c hr=>by simp at hr) hR2 (Builtin.zeroCells ez.cells (grownCap w rows2.length 0 e - rows2.length)).toList i j row c (by simpa using hr) hc
     refine ⟨v,?_,hR.ext hed⟩
     rw [← Array.getElem?_toList]
     simpa [flatV] using hv)
   have hne:tk'≠tk:=by omega
   exact ⟨_,_,g',tk',hr,hed.trans he,hs',hR,hnew hne hf⟩
 | vemp _ _ ad0 _ ht =>
  simp only [List.length_nil,Nat.zero_add,List.nil_append] at *
  obtain ⟨v,w',g',tk',hr,he,hs',hR,hf,htn⟩:=append_emp (P:=P) hs0 (t:=t) (ty:=ty) hsz hz ad0 h2 hb hm
  exact ⟨v,w',g',tk',hr,he,hs',hR,hnew (by omega) hf⟩
 | view _ _ _ b off cap f hc hmx hl h1x ht himm hh =>
  obtain ⟨rfl,sz',hszeq,htk'⟩:=ht
  have hsz':=hszeq (by simp)
  subst hsz'
  obtain ⟨hbase,_,_,_,⟨cur,hcur,hcs⟩,hnimm⟩:=hs.tokOf htk htk'
  have htoks:∀ t b' r,(st.untok tk).tok t=true→g.tok t=some (some b',r)→b'≠b:=by
   intro t b' r ht h1 e
   subst e
   simp only [St.untok] at ht
   split at ht
   ·cases ht
   ·rename_i hne; exact hne (hs.tinj t tk b' r _ ht htk h1 htk')
  have hobjs:∀ o c b' m,(st.untok tk).obj o=some c→g.obj o=some (b',m)→b'≠b:=fun o c b' m hc h1 e=>hs.tobj tk o c b _ m htk hc htk' (e ▸ h1)
  have hblt:b < w.heap.size:=(Array.getElem?_eq_some_iff.1 hcur).1
  by_cases h0:rows2.length=0
  ·have h00:rows2=[]:=List.eq_nil_of_length_eq_zero h0
   subst h00
   obtain ⟨g',he,hs',htk2,hf⟩:=hs0.ownTok e b rows.length cap inf.size cur hcur hbase hsz hc hmx hcs hnimm htoks hobjs
   refine ⟨_,w,g',g.next,run_append_nothing (some ⟨b,0,none⟩) rows.length cap hc base2 cap2 w,he,hs',?_,hnew (by omega) hf⟩
   rw [List.append_nil]
   exact .view _ _ _ b 0 cap f hc hmx hl h1x (TokAt.mkOwn rfl htk2 (fun _=>rfl)) (fun i j hi hj=>⟨he.imm _ _ (himm i j hi hj).1,(himm i j hi hj).2⟩) (fun i j row c hr hcj=>(hh i j row c hr hcj).ext he)
  ·obtain ⟨ad,rfl⟩:∃ ad,base2=some ad:=by
    cases base2 with
    | none=>exact absurd (by rw [(hnil2 rfl).1]; rfl) h0
    | some ad=>exact ⟨ad,rfl⟩
   have hlen:(rows++rows2).length=rows.length + rows2.length:=List.length_append
   by_cases hroom:rows.length + rows2.length≤cap
   ·
    have hfit:rows.length * inf.size + (flatV f2 rows2.length inf.size).length≤cur.size:=by rw [flatV_length,hcs,← Nat.add_mul]; exact Nat.mul_le_mul_right _ hroom
    have hr:=run_append_room (P:=P) w t ty e inf hu.out i1 b rows.length cap cur hcur ad rows2.length cap2 (flatV f2 rows2.length inf.size) (flatV_length _ _ _) (hcell2 ad rfl) hone2 hroom hfit
    rw [flatV_length] at hfit hr
    generalize harr:(cur.toList.take (rows.length * inf.size)++flatV f2 rows2.length inf.size++cur.toList.drop (rows.length * inf.size + rows2.length * inf.size)).toArray=arr at hr
    have hmin:min (rows.length * inf.size) cur.size=rows.length * inf.size:=by omega
    have hlow:∀ i,i < rows.length * inf.size→arr[i]?=cur[i]?:=by
     intro i hi
     rw [← harr,List.getElem?_toArray,List.append_assoc,List.getElem?_append_left (by simp; omega),List.getElem?_take_of_lt hi,Array.getElem?_toList]
    have hmid:∀ q,q < rows2.length * inf.size→arr[rows.length * inf.size + q]?=(flatV f2 rows2.length inf.size)[q]?:=by
     intro q hq
     rw [← harr,List.getElem?_toArray,List.append_assoc,List.getElem?_append_right (by simp; omega)]
     simp only [List.length_take,Array.length_toList,hmin]
     rw [Nat.add_sub_cancel_left,List.getElem?_append_left (by rw [flatV_length]; exact hq)]
    have hasz:arr.size=cap * inf.size:=by
     rw [← harr,← hcs]
     simp only [List.size_toArray,List.length_append,List.length_take,List.length_drop,Array.length_toList,flatV_length]
     omega
    obtain ⟨he1,hs1⟩:=hs0.writeFree b (rows.length * inf.size) cur arr e hcur hbase (fun i h=>by
     rcases Nat.lt_or_ge i (rows.length * inf.size) with h'|h'
     ·exact h'
     ·exact absurd h (hnimm i h')) hlow htoks hobjs
    obtain ⟨g2,he2,hs2,himm2,hobj2,htok2,hnext2,hbase2⟩:=hs1.immMore b (fun i=>i < (rows.length + rows2.length) * inf.size) hbase (by simpa using hblt) htoks hobjs
    obtain ⟨g3,he3,hs3,htk3,hf3⟩:=hs2.ownTok e b (rows.length + rows2.length) cap inf.size arr (setRow_heap w b cur arr e (0,0) hcur) (by rw [hbase2]; exact hbase) hsz hroom hmx hasz
     (fun i hi h=>by
      rw [himm2] at h
      rcases h with h|h
      ·exact hnimm i (by rw [Nat.add_mul] at hi; omega) h
      ·omega)
     (fun t b' r ht h1=>htoks t b' r ht (by rw [htok2] at h1; exact h1)) (fun o c b' m ho h1=>hobjs o c b' m ho (by rw [hobj2] at h1; exact h1))
    have het:=he1.trans (he2.trans he3)
    refine ⟨_,_,g3,g2.next,hr,het,hs3,?_,hnew (by omega) hf3⟩
    rw [← hlen]
    have hcellrow:∀ q,(w.setRow b arr).cell? ⟨b,q,none⟩=arr[q]?:=fun q=>cell_of_row _ b q arr e (0,0) (setRow_heap w b cur arr e (0,0) hcur)
    refine R.view (g:=g3) (w:=w.setRow b arr) inf.size (rows++rows2) (.own g2.next e) b 0 cap (fun i j=>arr.getD (i * inf.size + j) undef) (by rw [hlen]; exact hroom) hmx
     (fun row hr=>by rcases List.mem_append.1 hr with h|h; exact hl row h; exact hl2 row h) (fun row hr=>by rcases List.mem_append.1 hr with h|h; exact h1x row h; exact h12 row h)
     (TokAt.mkOwn rfl (by rw [hlen]; exact htk3) (fun _=>rfl)) (fun i j hi hj=>?_) (fun i j row c hr hcj=>?_)
    ·rw [hlen] at hi
     have hlt:=mul_add_lt hi hj
     have hle:=Nat.mul_le_mul_right inf.size hroom
     refine ⟨he3.imm _ _ ((himm2 _).2 (.inr (by omega))),?_⟩
     rw [Nat.zero_add,hcellrow,Array.getD_eq_getD_getElem?,Array.getElem?_eq_getElem (by omega)]
     rfl
    ·rw [Array.getD_eq_getD_getElem?]
     by_cases hi:i < rows.length
     ·rw [List.getElem?_append_left hi] at hr
      have hj:j < inf.size:=by rw [← hl row (List.mem_of_getElem? hr)]; exact (List.getElem?_eq_some_iff.1 hcj).1
      have h9:=(himm i j hi hj).2
      rw [Nat.zero_add,cell_of_row w b _ cur e (0,0) hcur] at h9
      rw [hlow _ (mul_add_lt hi hj),h9]
      exact (hh i j row c hr hcj).ext het
     ·rw [List.getElem?_append_right (by omega)] at hr
      have hi2:i - rows.length < rows2.length:=(List.getElem?_eq_some_iff.1 hr).1
      have hj:j < inf.size:=by rw [← hl2 row (List.mem_of_getElem? hr)]; exact (List.getElem?_eq_some_iff.1 hcj).1
      have e9:i * inf.size + j=rows.length * inf.size + ((i - rows.length) * inf.size + j):=by
       rw [← Nat.add_assoc,← Nat.add_mul]
       congr 2
       omega
      rw [e9,hmid _ (mul_add_lt hi2 hj),flatV_at f2 hi2 hj]
      exact (hR2 _ j row c hr hcj).ext het
   ·
    have holds:∀ (q:Nat) v,(flatV f rows.length inf.size)[q]?=some v→w.cell? ((⟨b,0,none⟩:Addr).add q)=some v:=by
     intro q v hq
     obtain ⟨h2',rfl⟩:=flatV_get hq
     have:=(himm (q / inf.size) (q % inf.size) (by rwa [Nat.div_lt_iff_lt_mul hsz]) (Nat.mod_lt _ hsz)).2
     rw [Nat.mul_comm (q / inf.size) inf.size,Nat.div_add_mod] at this
     rw [addr_add]
     exact this
    have hr:=run_append_grow (P:=P) w t ty e inf ez hu.out i1 i4 ⟨b,0,none⟩ rows.length cap (flatV f rows.length inf.size) (flatV_length _ _ _) holds ad rows2.length cap2 (flatV f2 rows2.length inf.size) (flatV_length _ _ _) (hcell2 ad rfl) (by omega) (by omega)
     (growslice_fits (by omega) (by rw [i3]; exact hb))
    have hge:=grownCap_ge w (rows.length + rows2.length) cap e
    have hgm:=grownCap_le_maxLen w (rows.length + rows2.length) cap e hm
    obtain ⟨hed,hsd⟩:=hs0.draw
    obtain ⟨g',tk',he,hs',hR,hf,htn⟩:=hsd.newView e inf.size (grownCap w (rows.length + rows2.length) cap e) (rows++rows2)
     ((flatV f rows.length inf.size).toArray++(flatV f2 rows2.length inf.size).toArray++Builtin.zeroCells ez.cells (grownCap w (rows.length + rows2.length) cap e - (rows.length + rows2.length))) hsz (by rw [hlen]; exact hge) hgm
     (by simp only [Array.size_append,List.size_toArray,flatV_length,size_zeroCells,z1,← Nat.add_mul]; congr 1; omega)
     (fun row hr=>by rcases List.mem_append.1 hr with h|h; exact hl row h; exact hl2 row h) (fun row hr=>by rcases List.mem_append.1 hr with h|h; exact h1x row h; exact h12 row h)
     (fun i j row c hr hcj=>by
      obtain ⟨v,hv,hR⟩:=appended_get (g:=g) (w:=w) (f:=f) (f2:=f2) hl hl2 hh hR2 (Builtin.zeroCells ez.cells (grownCap w (rows.length + rows2.length) cap e - (rows.length + rows2.length))).toList i j row c hr hcj
      refine ⟨v,?_,hR.ext hed⟩
      rw [← Array.getElem?_toList]
      simpa using hv)
    rw [hlen] at hR
    exact ⟨_,_,g',tk',hr,hed.trans he,hs',hR,hnew (by omega) hf⟩

theorem ap {t e:TypeId} {sz by_:Nat} {ez:Value} [hu:Und P t (.slice e)] [hie:Inf P e (sz + 1) by_ ez] {rows rows2:List (List AV)} {tk:Nat} {tk2:Tok}
  (hg:goes ops n T ⟨dd,.call ⟨.builtin .append,#[x,y],#[t,t]⟩,ty,pos,es,gd⟩=some d) (hx:ev st T x=some (.view (sz + 1) rows (.own tk e))) (hy:ev st T y=some (.view (sz + 1) rows2 tk2)) (htk:st.tok tk=true)
  (hz:zok (sz + 1) ez=true) (hb:(rows.length + rows2.length) * by_≤140737488355328) (hm:rows.length + rows2.length≤maxLen)
  (k:∀ tk',st.tok tk'=false→AOps P n ops rest K E ((d,.view (sz + 1) (rows++rows2) (.own tk' e))::T) ((st.untok tk).addTok tk')) :
  AOps P n ops (⟨dd,.call ⟨.builtin .append,#[x,y],#[t,t]⟩,ty,pos,es,gd⟩::rest) K E T st:=by
 refine AOps.stepAny hg fun g w a hs hk=>?_
 have h1:=ev_R hs hk hx
 have h2:=ev_R hs hk hy
 generalize hux:a.eval x=ux at h1
 generalize huy:a.eval y=uy at h2
 obtain ⟨v,w',g',tk',hr,he,hs',hR,hf⟩:=append_view (P:=P) hs (t:=t) (ty:=ty) (Nat.succ_pos sz) hz h1 h2 htk hb hm
 exact ⟨v,g',w',_,_,by simp [execOp,resolve,invoke,builtin,hux,huy,hr],he,hs',hR,k tk' hf⟩

theorem apn {t e:TypeId} {sz by_ s0:Nat} {ez:Value} [hu:Und P t (.slice e)] [hie:Inf P e (sz + 1) by_ ez] {rows2:List (List AV)} {tk2:Tok}
  (hg:goes ops n T ⟨dd,.call ⟨.builtin .append,#[x,y],#[t,t]⟩,ty,pos,es,gd⟩=some d) (hx:ev st T x=some (.view s0 [] .nil)) (hy:ev st T y=some (.view (sz + 1) rows2 tk2))
  (hz:zok (sz + 1) ez=true) (hb:rows2.length * by_≤140737488355328) (hm:rows2.length≤maxLen)
  (k:∀ tk',st.tok tk'=false→AOps P n ops rest K E ((d,.view (sz + 1) rows2 (.own tk' e))::T) (st.addTok tk')) :
  AOps P n ops (⟨dd,.call ⟨.builtin .append,#[x,y],#[t,t]⟩,ty,pos,es,gd⟩::rest) K E T st:=by
 refine AOps.stepAny hg fun g w a hs hk=>?_
 have h1:=ev_R hs hk hx
 have h2:=ev_R hs hk hy
 generalize hux:a.eval x=ux at h1
 generalize huy:a.eval y=uy at h2
 obtain ⟨g1,he1,hs1,htk1,hf1⟩:=hs.nilTok e
 have hrv:ux=.slice none 0 0:=by
  cases h1 with
  | vnil=>rfl
  | vemp _ _ _ hn _=>exact absurd rfl hn
  | view _ _ _ _ _ _ _ _ _ _ _ ht'=>simp [TokAt] at ht'
 subst hrv
 obtain ⟨v,w',g',tk',hr,he,hs',hR,hf⟩:=append_view (P:=P) hs1 (t:=t) (ty:=ty) (rows:=[]) (tk:=g.next) (Nat.succ_pos sz) hz (.vnil _ _ (TokAt.mkOwn rfl htk1 (fun h=>absurd rfl h))) (h2.ext he1) (St.tok_addTok _ _) (by simpa using hb) (by simpa using hm)
 have hne:tk'≠g.next:=by intro e'; rw [e',St.tok_addTok] at hf; cases hf
 have hf':st.tok tk'=false:=by simpa [St.addTok,hne] using hf
 have hst:StLe (((st.addTok g.next).untok g.next).addTok tk') (st.addTok tk'):=⟨fun _ _ h=>h,fun t ht=>by
  simp only [St.addTok,St.untok] at ht ⊢
  by_cases h1:t=tk'
  ·simp [h1]
  ·simp only [h1,if_false] at ht ⊢
   by_cases h2:t=g.next
   ·subst h2; rw [hf1] at ht; cases ht
   ·simp [h2,ht],rfl⟩
 exact ⟨v,g',w',_,_,by simp [execOp,resolve,invoke,builtin,hux,huy,hr],he1.trans he,hs'.le hst,by simpa using hR,k tk' hf'⟩

end
end Go.AM
namespace Go.AM
open Go.RowKit (Below)

def edgesOf (o : Oper) : List Nat := o.after.toList.filterMap fun e => bif Region.binds .any e then some e.on else none

def predStep (acc : List Nat) (o : Oper) : Nat := (edgesOf o).foldl (fun s e => s ||| (2 ^ e ||| acc.getD e 0)) 0

def predSets : List Oper → List Nat → List Nat
  | [], acc => acc
  | o :: r, acc => predSets r (acc ++ [predStep acc o])

/-- All that was listed waits for nothing that was not. -/
def Closed (l : List Oper) (listed : Array Bool) : Prop := ∀ i o, l[i]? = some o → listed.getD i false = true → ∀ e ∈ edgesOf o, listed.getD e false = true

theorem foldl_testBit (acc : List Nat) (j : Nat) : ∀ (es : List Nat) (s : Nat), (es.foldl (fun s e => s ||| (2 ^ e ||| acc.getD e 0)) s).testBit j = true → s.testBit j = true ∨ ∃ e ∈ es, j = e ∨ (acc.getD e 0).testBit j = true
  | [], s, h => .inl h
  | e :: es, s, h => by
    rcases foldl_testBit acc j es _ h with h | ⟨e', he', h⟩
    · rw [Nat.testBit_or, Nat.testBit_or] at h
      simp only [Bool.or_eq_true] at h
      rcases h with h | h | h
      · exact .inl h
      · rw [Nat.testBit_two_pow] at h
        exact .inr ⟨e, by simp, .inl (by simpa using (of_decide_eq_true h).symm)⟩
      · exact .inr ⟨e, by simp, .inr h⟩
    · exact .inr ⟨e', List.mem_cons_of_mem _ he', h⟩

theorem predSets_spec (all : List Oper) (listed : Array Bool) (hc : Closed all listed) : ∀ (r : List Oper) (acc : List Nat), (∀ j, r[j]? = all[acc.length + j]?) →
    (∀ i o, i < acc.length → all[i]? = some o → (∀ e ∈ edgesOf o, listed.getD e false = true) → ∀ j, (acc.getD i 0).testBit j = true → listed.getD j false = true) →
    ∀ i o, i < (predSets r acc).length → all[i]? = some o → (∀ e ∈ edgesOf o, listed.getD e false = true) → ∀ j, ((predSets r acc).getD i 0).testBit j = true → listed.getD j false = true
  | [], acc, _, h => h
  | o :: r, acc, hr, h => by
    have h0 : all[acc.length]? = some o := by simpa using (hr 0).symm
    refine predSets_spec all listed hc r (acc ++ [predStep acc o]) (fun j => by have := hr (j + 1); simpa [Nat.add_assoc, Nat.add_comm 1 j] using this) ?_
    intro i o' hi ho' he j hj
    by_cases hlt : i < acc.length
    · rw [List.getD_eq_getElem?_getD, List.getElem?_append_left hlt, ← List.getD_eq_getElem?_getD] at hj
      exact h i o' hlt ho' he j hj
    · have hie : i = acc.length := by simp at hi; omega
      subst hie
      rw [h0] at ho'
      cases ho'
      simp only [List.getD_eq_getElem?_getD, List.getElem?_concat_length, Option.getD_some] at hj
      rcases foldl_testBit acc j _ _ hj with hj | ⟨e, hee, hj⟩
      · simp at hj
      · have hel := he e hee
        rcases hj with rfl | hj
        · exact hel
        · have helt : e < acc.length := by
            rcases Nat.lt_or_ge e acc.length with h' | h'
            · exact h'
            · rw [List.getD_eq_getElem?_getD, List.getElem?_eq_none h'] at hj; simp at hj
          cases hoe : all[e]? with
          | none =>
            exact absurd hoe (by
              have := (List.getElem?_eq_some_iff.1 h0).1
              rw [List.getElem?_eq_getElem (by omega)]
              simp)
          | some oe => exact h e oe helt hoe (hc e oe hoe hel) j hj

theorem predSets_length : ∀ (r : List Oper) (acc : List Nat), (predSets r acc).length = acc.length + r.length
  | [], acc => rfl
  | o :: r, acc => by rw [predSets, predSets_length r]; simp; omega

/-- The form that is asked of a region: k operations in whatever order, the rest behind them in the text's; number e changes the state (e ≥ k: none does). -/
def drawOk (l : List Oper) (k e : Nat) : Bool :=
  let S := predSets l []
  Nat.ble k l.length && (List.range l.length).all fun i =>
    match l[i]? with
    | none => false
    | some o => (edgesOf o).all (fun x => Nat.blt x i) &&
      (bif Nat.blt i k then
        o.dst.isSome && (List.range k).all (fun j => match l[j]? with
          | none => false
          | some p => (bif Nat.beq i j then true else (match o.dst, p.dst with | some a, some b => !(Nat.beq a b) | _, _ => false)) &&
            (match p.dst with
              | some t => bif (o.looksAt l.toArray).contains t then ((S.getD i 0).testBit j && !(Nat.beq j e)) else true
              | none => false))
      else (List.range i).all fun j => (S.getD i 0).testBit j)

section
variable {P : Program} {n : Nat} {K : Post} {E : EPost} {T : Tmps} {st : St}

def St.notok (st : St) : St := { st with tok := fun _ => false }

/-- An operation that leaves the state alone, whatever tokens and new objects there are beside it. -/
def Quiet (P : Program) (n : Nat) (st : St) (T : Tmps) (o : Oper) (v : AV) : Prop :=
  ∀ st' g w a (K' : Act → World → Prop) (Q' : Exit → Act → World → Prop), StLe st' st.notok → Sim g w st' → Known g w T a → a.tmps.size = n →
    (∀ rv g' w', Ext g w g' w' → Sim g' w' st' → R g' w' v rv → K' (a.put o.dst rv) w') → o.wp P a w K' Q'

/-- One that changes the state, but no object that there was. -/
def Eff (P : Program) (n : Nat) (st : St) (T : Tmps) (o : Oper) (Φ : AV → St → Prop) : Prop :=
  ∀ g w a (K' : Act → World → Prop) (Q' : Exit → Act → World → Prop), Sim g w st → Known g w T a → a.tmps.size = n →
    (∀ rv g' w' v st1, Ext g w g' w' → Sim g' w' st1 → R g' w' v rv → Φ v st1 → StLe st1 st.notok → K' (a.put o.dst rv) w') → o.wp P a w K' Q'

def QStep (P : Program) (n : Nat) (st : St) (ops : Array Oper) (T : Tmps) (o : Oper) (v : AV) : Prop :=
  (wantedA ops T o = some true ∧ Quiet P n st T o v) ∨ (wantedA ops T o = some false ∧ v = .lit undef)

/-- What an operation looks at, of all that is known. -/
def see (ops : Array Oper) (o : Oper) (T : Tmps) : Tmps := T.filter fun p => (o.looksAt ops).contains p.1

/-- The walk, in the text's order, past number e. -/
def DRun (P : Program) (n : Nat) (st : St) (ops : Array Oper) (e : Nat) (Φ : AV → St → Prop) : Nat → List Oper → Tmps → (Tmps → Prop) → Prop
  | _, [], T, k => k T
  | i, o :: r, T, k => bif Nat.beq i e then (∃ d, o.dst = some d ∧ Nat.blt d n = true ∧ wantedA ops (see ops o T) o = some true ∧ Eff P n st (see ops o T) o Φ ∧ DRun P n st ops e Φ (i + 1) r T k)
    else ∃ d v, o.dst = some d ∧ Nat.blt d n = true ∧ QStep P n st ops (see ops o T) o v ∧ DRun P n st ops e Φ (i + 1) r ((d, v) :: T) k

/-- The entries that the walk has made: number, temporary, value. -/
theorem DRun.out {ops : Array Oper} {e : Nat} {Φ : AV → St → Prop} {k : Tmps → Prop} : ∀ (l : List Oper) (i0 : Nat) (T : Tmps), DRun P n st ops e Φ i0 l T k →
    ∃ vs : List (Nat × Tmp × AV), k ((vs.map (·.2)).reverse ++ T) ∧
      (∀ i o, l[i]? = some o → ∃ d, o.dst = some d ∧ d < n ∧ ∃ us : List (Nat × Tmp × AV), (∃ us', vs = us ++ us' ∧ (∀ x ∈ us, x.1 < i0 + i) ∧ (∀ x ∈ us', i0 + i ≤ x.1)) ∧
        ((i0 + i = e ∧ wantedA ops (see ops o ((us.map (·.2)).reverse ++ T)) o = some true ∧ Eff P n st (see ops o ((us.map (·.2)).reverse ++ T)) o Φ) ∨
         (i0 + i ≠ e ∧ ∃ v, (i0 + i, d, v) ∈ vs ∧ QStep P n st ops (see ops o ((us.map (·.2)).reverse ++ T)) o v))) ∧
      (∀ x ∈ vs, i0 ≤ x.1 ∧ x.1 ≠ e ∧ ∃ o, l[x.1 - i0]? = some o ∧ o.dst = some x.2.1) ∧ (∀ x ∈ vs, ∀ y ∈ vs, x.1 = y.1 → x = y)
  | [], i0, T, h => ⟨[], h, (fun i o ho => by simp at ho), (fun x hx => by simp at hx), fun x hx => by simp at hx⟩
  | o :: r, i0, T, h => by
    unfold DRun at h
    by_cases he : i0 = e
    · rw [he, nbeq_self, cond_true] at h
      obtain ⟨d, hd, hdn, hw, heff, hr⟩ := h
      obtain ⟨vs, h1, h2, h3, h4⟩ := DRun.out r (e + 1) T hr
      refine ⟨vs, h1, fun i o' ho' => ?_, fun x hx => ?_, h4⟩
      · cases i with
        | zero =>
          simp only [List.getElem?_cons_zero, Option.some.injEq] at ho'
          subst ho'
          exact ⟨d, hd, by simpa using hdn, [], ⟨vs, rfl, fun x hx => by simp at hx, fun x hx => by have := (h3 x hx).1; omega⟩, .inl ⟨by omega, hw, heff⟩⟩
        | succ i =>
          obtain ⟨d', hd', hdn', us, ⟨us', a1, a2, a3⟩, a4⟩ := h2 i o' (by simpa using ho')
          have e1 : e + 1 + i = i0 + (i + 1) := by omega
          rw [e1] at a2 a3 a4
          exact ⟨d', hd', hdn', us, ⟨us', a1, a2, a3⟩, a4⟩
      · obtain ⟨b1, b2, o', b3, b4⟩ := h3 x hx
        refine ⟨by omega, b2, o', ?_, b4⟩
        rw [show x.1 - i0 = (x.1 - (e + 1)) + 1 by omega]
        simpa using b3
    · rw [nbeq_ne he, cond_false] at h
      obtain ⟨d, v, hd, hdn, hq, hr⟩ := h
      obtain ⟨vs, h1, h2, h3, h4⟩ := DRun.out r (i0 + 1) ((d, v) :: T) hr
      refine ⟨(i0, d, v) :: vs, by simpa using h1, fun i o' ho' => ?_, fun x hx => ?_, fun x hx y hy hxy => ?_⟩
      · cases i with
        | zero =>
          simp only [List.getElem?_cons_zero, Option.some.injEq] at ho'
          subst ho'
          exact ⟨d, hd, by simpa using hdn, [], ⟨(i0, d, v) :: vs, rfl, fun x hx => by simp at hx, fun x hx => by
            rcases List.mem_cons.1 hx with rfl | hx
            · exact Nat.le_refl _
            · have := (h3 x hx).1; omega⟩, .inr ⟨by omega, v, by simp, hq⟩⟩
        | succ i =>
          obtain ⟨d', hd', hdn', us, ⟨us', a1, a2, a3⟩, a4⟩ := h2 i o' (by simpa using ho')
          have e1 : i0 + 1 + i = i0 + (i + 1) := by omega
          rw [e1] at a2 a3 a4
          refine ⟨d', hd', hdn', (i0, d, v) :: us, ⟨us', by rw [a1]; rfl, fun x hx => ?_, a3⟩, ?_⟩
          · rcases List.mem_cons.1 hx with rfl | hx
            · show i0 < _; omega
            · exact a2 x hx
          · have e2 : (((i0, d, v) :: us).map (·.2)).reverse ++ T = (us.map (·.2)).reverse ++ ((d, v) :: T) := by simp
            rw [e2]
            rcases a4 with ⟨b1, b2, b3⟩ | ⟨b1, v', b2, b3⟩
            · exact .inl ⟨b1, b2, b3⟩
            · exact .inr ⟨b1, v', List.mem_cons_of_mem _ b2, b3⟩
      · rcases List.mem_cons.1 hx with rfl | hx
        · exact ⟨Nat.le_refl _, he, o, by simp, hd⟩
        · obtain ⟨b1, b2, o', b3, b4⟩ := h3 x hx
          refine ⟨by omega, b2, o', ?_, b4⟩
          rw [show x.1 - i0 = (x.1 - (i0 + 1)) + 1 by omega]
          simpa using b3
      · rcases List.mem_cons.1 hx with rfl | hx <;> rcases List.mem_cons.1 hy with rfl | hy
        · rfl
        · have := (h3 y hy).1; simp only at hxy; omega
        · have := (h3 x hx).1; simp only at hxy; omega
        · exact h4 x hx y hy hxy

/-! ### The tail -/

theorem ready_edges {l : List Oper} {listed : Array Bool} {i : Nat} (h : i ∈ Region.ready .any l.toArray listed) : listed.getD i true = false ∧ ∃ o, l[i]? = some o ∧ ∀ e ∈ edgesOf o, listed.getD e false = true := by
  obtain ⟨h1, o, h2, h3⟩ := mem_ready.1 h
  refine ⟨h1, o, by simpa using h2, fun e he => ?_⟩
  simp only [edgesOf, List.mem_filterMap, Array.mem_toList_iff] at he
  obtain ⟨x, hx, hb⟩ := he
  cases hbb : Region.binds .any x with
  | false => rw [hbb] at hb; cases hb
  | true => rw [hbb] at hb; cases hb; exact h3 x hx hbb

theorem ready_of_edges {l : List Oper} {listed : Array Bool} {i : Nat} {o : Oper} (h1 : listed.getD i true = false) (ho : l[i]? = some o) (h : ∀ e ∈ edgesOf o, listed.getD e false = true) : i ∈ Region.ready .any l.toArray listed := by
  refine mem_ready.2 ⟨h1, o, by simpa using ho, fun e he hb => h e.on ?_⟩
  simp only [edgesOf, List.mem_filterMap, Array.mem_toList_iff]
  exact ⟨e, he, by rw [hb]; rfl⟩

theorem Closed.set {l : List Oper} {listed : Array Bool} (hc : Closed l listed) {i : Nat} {o : Oper} (ho : l[i]? = some o) (he : ∀ e ∈ edgesOf o, listed.getD e false = true) : Closed l (listed.setIfInBounds i true) := by
  intro j p hp hj e hee
  by_cases hij : i = j
  · subst hij
    rw [ho] at hp
    cases hp
    exact getD_set_true (he e hee)
  · rw [getD_set_ne false hij] at hj
    exact getD_set_true (hc j p hp hj e hee)

/-- Behind the first i, all of them listed and no other, the order is the text's. -/
theorem wpAny_tail {l : List Oper} {Q : Exit → Act → World → Prop} (hl : ∀ i o, l[i]? = some o → ∀ e ∈ edgesOf o, e < i) (k : Nat)
    (htail : ∀ i o, k ≤ i → l[i]? = some o → ∀ listed : Array Bool, Closed l listed → (∀ e ∈ edgesOf o, listed.getD e false = true) → ∀ j, j < i → listed.getD j false = true) :
    ∀ (m i : Nat) (listed : Array Bool) (a : Act) (w : World), k ≤ i → i ≤ l.length → l.length ≤ i + m → listed.size = l.length → (∀ j, j < l.length → listed.getD j true = decide (j < i)) → Closed l listed →
      wpList P l.toArray Q (l.drop i) a w → wpAny P .any l.toArray Q m listed a w
  | 0, i, listed, a, w, _, _, him, hsz, hli, _, h => by
    have hd : l.drop i = [] := List.drop_eq_nil_of_le (by omega)
    rw [hd] at h
    refine ⟨?_, h⟩
    apply List.eq_nil_iff_forall_not_mem.2
    intro j hj
    obtain ⟨h1, o, h2, _⟩ := ready_edges hj
    have hjl := (List.getElem?_eq_some_iff.1 h2).1
    rw [hli j hjl] at h1
    simp at h1
    omega
  | m + 1, i, listed, a, w, hki, hile, him, hsz, hli, hc, h => by
    rcases Nat.eq_or_lt_of_le hile with hil | hil
    · have hd : l.drop i = [] := List.drop_eq_nil_of_le (by omega)
      rw [hd] at h
      refine ⟨fun _ => h, fun j hj => ?_⟩
      exfalso
      obtain ⟨h1, o, h2, _⟩ := ready_edges hj
      have hjl := (List.getElem?_eq_some_iff.1 h2).1
      rw [hli j hjl] at h1
      simp at h1
      omega
    have hoi : l[i]? = some l[i] := List.getElem?_eq_getElem hil
    have hready : i ∈ Region.ready .any l.toArray listed := ready_of_edges (by rw [hli i hil]; simp) hoi (fun e he => by
      have hlt := hl i _ hoi e he
      have h1 := hli e (by omega)
      rw [decide_eq_true hlt] at h1
      rw [Array.getD_eq_getD_getElem?, Array.getElem?_eq_getElem (by omega)] at h1 ⊢
      simpa using h1)
    refine ⟨fun h0 => (by rw [h0] at hready; cases hready), fun j hj => ?_⟩
    obtain ⟨h1, o, h2, h3⟩ := ready_edges hj
    have hjl := (List.getElem?_eq_some_iff.1 h2).1
    have hji : j = i := by
      rw [hli j hjl] at h1
      have hge : i ≤ j := by simpa using h1
      rcases Nat.eq_or_lt_of_le hge with h' | h'
      · exact h'.symm
      · have := htail j o (by omega) h2 listed hc h3 i h'
        have h4 := hli i hil
        rw [Array.getD_eq_getD_getElem?, Array.getElem?_eq_getElem (by omega)] at this h4
        simp at this h4
        rw [this] at h4
        simp at h4
    subst hji
    rw [hoi] at h2
    cases h2
    rw [List.drop_eq_getElem_cons hil] at h
    have hstep : wpOp P l.toArray Q j (wpList P l.toArray Q (l.drop (j + 1))) a w := by
      unfold wpOp
      simp only [List.getElem?_toArray, hoi]
      exact h
    refine wpOp_mono (fun a' w' h' => wpAny_tail hl k htail m (j + 1) _ a' w' (by omega) (by omega) (by omega) (by simpa using hsz) (fun q hq => ?_) (hc.set hoi h3) h') hstep
    by_cases hqj : j = q
    · subst hqj
      rw [Array.getD_eq_getD_getElem?, Array.getElem?_setIfInBounds_self_of_lt (by omega)]
      simp
    · rw [getD_set_ne true hqj, hli q hq]
      congr 1
      rw [eq_iff_iff]
      omega


/-! ### The whole -/

theorem get_mem {T : Tmps} {t : Nat} {v : AV} (h : T.get t = some v) : (t, v) ∈ T := by
  induction T with
  | nil => cases h
  | cons p r ih =>
    obtain ⟨j, u⟩ := p
    rw [Tmps.get_cons] at h
    by_cases hj : j = t
    · subst hj; simp at h; subst h; simp
    · rw [if_neg hj] at h; exact List.mem_cons_of_mem _ (ih h)

theorem get_append (A B : Tmps) (t : Nat) : Tmps.get (A ++ B) t = match Tmps.get A t with | some v => some v | none => Tmps.get B t := by
  induction A with
  | nil => rfl
  | cons p r ih =>
    obtain ⟨j, u⟩ := p
    rw [List.cons_append, Tmps.get_cons, Tmps.get_cons]
    by_cases hj : j = t
    · simp [hj]
    · simp only [hj, if_false]; exact ih

theorem get_none_of {A : Tmps} {t : Nat} (h : ∀ p ∈ A, p.1 ≠ t) : Tmps.get A t = none := by
  induction A with
  | nil => rfl
  | cons p r ih =>
    obtain ⟨j, u⟩ := p
    rw [Tmps.get_cons, if_neg (h (j, u) (by simp))]
    exact ih fun p hp => h p (List.mem_cons_of_mem _ hp)

theorem get_filter (f : Nat → Bool) : ∀ (T : Tmps) (t : Nat) v, Tmps.get (T.filter fun p => f p.1) t = some v → f t = true ∧ Tmps.get T t = some v
  | [], t, v, h => by cases h
  | (j, u) :: r, t, v, h => by
    rw [List.filter_cons] at h
    by_cases hf : f j = true
    · rw [if_pos hf, Tmps.get_cons] at h
      rw [Tmps.get_cons]
      by_cases hj : j = t
      · subst hj; simp at h ⊢; exact ⟨hf, h⟩
      · rw [if_neg hj] at h ⊢; exact get_filter f r t v h
    · rw [if_neg hf] at h
      obtain ⟨h1, h2⟩ := get_filter f r t v h
      rw [Tmps.get_cons, if_neg (fun hjt => hf (by rw [hjt]; exact h1))]
      exact ⟨h1, h2⟩

theorem countP_range_ge (k : Nat) (p : Nat → Bool) : ∀ (N : Nat), (∀ j, k ≤ j → j < N → p j = true) → N - k ≤ (List.range N).countP p
  | 0, _ => by simp
  | N + 1, h => by
    have ih := countP_range_ge k p N fun j h1 h2 => h j h1 (by omega)
    rw [List.range_succ, List.countP_append, List.countP_singleton]
    by_cases hk : k ≤ N
    · rw [if_pos (h N hk (by omega))]; omega
    · omega

/-- What drawOk says, in words. -/
theorem drawOk_spec {l : List Oper} {k e : Nat} (h : drawOk l k e = true) : k ≤ l.length ∧ (∀ i o, l[i]? = some o → ∀ x ∈ edgesOf o, x < i) ∧
    (∀ i o, l[i]? = some o → i < k → o.dst.isSome = true ∧ ∀ j p, j < k → l[j]? = some p → (i ≠ j → ∀ a b, o.dst = some a → p.dst = some b → a ≠ b) ∧
      (∀ t, p.dst = some t → (o.looksAt l.toArray).contains t = true → j ≠ e ∧ ∀ listed : Array Bool, Closed l listed → (∀ x ∈ edgesOf o, listed.getD x false = true) → listed.getD j false = true)) ∧
    (∀ i o, k ≤ i → l[i]? = some o → ∀ listed : Array Bool, Closed l listed → (∀ x ∈ edgesOf o, listed.getD x false = true) → ∀ j, j < i → listed.getD j false = true) := by
  simp only [drawOk, Bool.and_eq_true] at h
  obtain ⟨h0, hall⟩ := h
  have hS : ∀ listed, Closed l listed → ∀ i o, l[i]? = some o → (∀ x ∈ edgesOf o, listed.getD x false = true) → ∀ j, ((predSets l []).getD i 0).testBit j = true → listed.getD j false = true := by
    intro listed hc i o ho he j hj
    exact predSets_spec l listed hc l [] (fun j => by simp) (fun i o hi => by simp at hi) i o (by rw [predSets_length]; simpa using (List.getElem?_eq_some_iff.1 ho).1) ho he j hj
  have hat : ∀ i o, l[i]? = some o → ((edgesOf o).all (fun x => Nat.blt x i) = true ∧
      (bif Nat.blt i k then
        o.dst.isSome && (List.range k).all (fun j => match l[j]? with
          | none => false
          | some p => (bif Nat.beq i j then true else (match o.dst, p.dst with | some a, some b => !(Nat.beq a b) | _, _ => false)) &&
            (match p.dst with
              | some t => bif (o.looksAt l.toArray).contains t then (((predSets l []).getD i 0).testBit j && !(Nat.beq j e)) else true
              | none => false))
      else (List.range i).all fun j => ((predSets l []).getD i 0).testBit j) = true) := by
    intro i o ho
    have hi := (List.getElem?_eq_some_iff.1 ho).1
    have := List.all_eq_true.1 hall i (List.mem_range.2 hi)
    simp only [ho, Bool.and_eq_true] at this
    exact this
  refine ⟨Nat.ble_le h0, fun i o ho x hx => ?_, fun i o ho hik => ?_, fun i o hki ho listed hc he j hj => ?_⟩
  · have := List.all_eq_true.1 (hat i o ho).1 x hx
    simpa using this
  · have h2 := (hat i o ho).2
    have hb : Nat.blt i k = true := by simpa using hik
    rw [hb, cond_true, Bool.and_eq_true] at h2
    refine ⟨h2.1, fun j p hj hp => ?_⟩
    have h3 := List.all_eq_true.1 h2.2 j (List.mem_range.2 hj)
    simp only [hp, Bool.and_eq_true] at h3
    refine ⟨fun hne a b ha hb' => ?_, fun t ht hlook => ?_⟩
    · have h4 := h3.1
      rw [nbeq_ne hne, cond_false, ha, hb'] at h4
      intro hab
      subst hab
      simp at h4
    · have h4 := h3.2
      rw [ht] at h4
      simp only [hlook, cond_true, Bool.and_eq_true] at h4
      refine ⟨fun hje => ?_, fun listed hc he => hS listed hc i o ho he j h4.1⟩
      rw [hje, nbeq_self] at h4
      simp at h4
  · have h2 := (hat i o ho).2
    have hb : Nat.blt i k = false := by
      cases hb : Nat.blt i k with
      | false => rfl
      | true => have : i < k := by simpa using hb
                omega
    rw [hb, cond_false] at h2
    have h3 := List.all_eq_true.1 h2 j (List.mem_range.2 hj)
    exact hS listed hc i o ho he j h3

/-- A region that draws its order. -/
theorem AWP.draw {l : List Oper} {id : Nat} (hm : P.follows .mixedOrders = true) (k e : Nat) (Φ : AV → St → Prop) (hok : drawOk l k e = true)
    (h : DRun P n st l.toArray e Φ 0 (l.take k) T fun T' =>
      (k ≤ e → AOps P n l.toArray (l.drop k) K E T' st) ∧ (e < k → ∀ v st1 d, (l[e]?).bind (·.dst) = some d → Φ v st1 → AOps P n l.toArray (l.drop k) K E ((d, v) :: T') st1)) :
    AWP P n (.region id l.toArray true) K E T st := by
  obtain ⟨hkl, hedge, hbody, htail⟩ := drawOk_spec hok
  obtain ⟨vs, hfin, hops, hvs, hvone⟩ := DRun.out _ _ _ h
  simp only [Nat.zero_add, Nat.sub_zero] at hops hvs
  intro g0 w0 a0 hs0 hk0 hn0
  refine wp_region_any hm ?_
  obtain ⟨hed, hsd⟩ := hs0.draw
  generalize hTF : (vs.map (·.2)).reverse ++ T = TF at hfin
  -- the entries of the walk
  have hentry : ∀ i d v, (i, d, v) ∈ vs → i < k ∧ i ≠ e ∧ ∃ o, l[i]? = some o ∧ o.dst = some d := by
    intro i d v hx
    obtain ⟨_, h2, o, h3, h4⟩ := hvs _ hx
    have hi : i < k := by
      have := (List.getElem?_eq_some_iff.1 h3).1
      simp at this; omega
    exact ⟨hi, h2, o, by rwa [List.getElem?_take_of_lt hi] at h3, h4⟩
  have huniq : ∀ i d v i' d' v', (i, d, v) ∈ vs → (i', d', v') ∈ vs → d = d' → i = i' := by
    intro i d v i' d' v' h1 h2 hd
    obtain ⟨a1, a2, o, a3, a4⟩ := hentry i d v h1
    obtain ⟨b1, b2, p, b3, b4⟩ := hentry i' d' v' h2
    by_cases hii : i = i'
    · exact hii
    · exact absurd hd (((hbody i o a3 a1).2 i' p b1 b3).1 hii d d' a4 b4)
  -- what an operation sees is known
  have hsee : ∀ i o (us : List (Nat × Tmp × AV)), l[i]? = some o → i < k → (∃ us', vs = us ++ us' ∧ (∀ x ∈ us, x.1 < i) ∧ (∀ x ∈ us', i ≤ x.1)) → ∀ t v, Tmps.get (see l.toArray o ((us.map (·.2)).reverse ++ T)) t = some v → Tmps.get TF t = some v ∧ (o.looksAt l.toArray).contains t = true := by
    intro i o us ho hik ⟨us', hus, hlt, hge⟩ t v ht
    obtain ⟨hlook, hget⟩ := get_filter _ _ _ _ ht
    refine ⟨?_, hlook⟩
    rw [← hTF, hus, List.map_append, List.reverse_append, List.append_assoc, get_append]
    have hnone : Tmps.get ((us'.map (·.2)).reverse) t = none := get_none_of fun p hp hpt => by
      simp only [List.mem_reverse, List.mem_map] at hp
      obtain ⟨⟨j, d, u⟩, hx, rfl⟩ := hp
      simp only at hpt
      subst hpt
      obtain ⟨b1, b2, p, b3, b4⟩ := hentry j d u (by rw [hus]; exact List.mem_append_right _ hx)
      have hij := hge _ hx
      simp only at hij
      -- it would wait for what stands behind it
      obtain ⟨_, hw⟩ := ((hbody i o ho hik).2 j p b1 b3).2 d b4 hlook
      have hcl : Closed l (Array.ofFn fun q : Fin l.length => decide (q.val < i)) := by
        intro q oq hq hq' x hx'
        have hql := (List.getElem?_eq_some_iff.1 hq).1
        rw [Array.getD_eq_getD_getElem?, Array.getElem?_ofFn] at hq' ⊢
        simp only [hql, dif_pos, Option.getD_some, decide_eq_true_eq] at hq'
        have hxq := hedge q oq hq x hx'
        simp only [show x < l.length by omega, dif_pos, Option.getD_some, decide_eq_true_eq]
        omega
      have := hw _ hcl (fun x hx' => by
        have hxi := hedge i o ho x hx'
        have hil := (List.getElem?_eq_some_iff.1 ho).1
        rw [Array.getD_eq_getD_getElem?, Array.getElem?_ofFn]
        simp only [show x < l.length by omega, dif_pos, Option.getD_some, decide_eq_true_eq]
        exact hxi)
      have hjl := (List.getElem?_eq_some_iff.1 b3).1
      rw [Array.getD_eq_getD_getElem?, Array.getElem?_ofFn] at this
      simp only [hjl, dif_pos, Option.getD_some, decide_eq_true_eq] at this
      omega
    rw [hnone]
    exact hget
  -- the value of an entry is what the end knows of its temporary
  have hval : ∀ i d v, (i, d, v) ∈ vs → Tmps.get TF d = some v := by
    intro i d v hx
    have hmem : (d, v) ∈ (vs.map (·.2)).reverse := by
      simp only [List.mem_reverse, List.mem_map]
      exact ⟨_, hx, rfl⟩
    rw [← hTF, get_append]
    cases hg : Tmps.get ((vs.map (·.2)).reverse) d with
    | none =>
      exfalso
      have : ∀ (A : Tmps), (d, v) ∈ A → Tmps.get A d = none → False := by
        intro A
        induction A with
        | nil => intro h; simp at h
        | cons p r ih =>
          intro h h0
          obtain ⟨j, u⟩ := p
          rw [Tmps.get_cons] at h0
          by_cases hj : j = d
          · rw [if_pos hj] at h0; cases h0
          · rw [if_neg hj] at h0
            rcases List.mem_cons.1 h with h | h
            · cases h; exact hj rfl
            · exact ih h h0
      exact this _ hmem hg
    | some u =>
      have h1 := get_mem hg
      simp only [List.mem_reverse, List.mem_map] at h1
      obtain ⟨⟨i', d', u'⟩, h2, h3⟩ := h1
      cases h3
      have hii := huniq i d v i' d u hx h2 rfl
      subst hii
      have := hvone _ hx _ h2 rfl
      cases this
      rfl
  -- the invariant
  let Inv : Array Bool → Act → World → Prop := fun listed a w => listed.size = l.length ∧ Closed l listed ∧ (∀ j, k ≤ j → j < l.length → listed.getD j true = false) ∧ a.tmps.size = n ∧ a.defers = a0.defers ∧
    ∃ g st1, Ext g0 w0 g w ∧ Sim g w st1 ∧ StLe st1 st.notok ∧
      (∀ t v, Tmps.get TF t = some v → (e < k → ∀ o, l[e]? = some o → o.dst ≠ some t) → (∀ i o, i < k → l[i]? = some o → o.dst = some t → listed.getD i false = true) → ∃ rv, a.tmps[t]? = some rv ∧ R g w v rv) ∧
      ((listed.getD e false = false ∨ k ≤ e) → st1 = st) ∧ (e < k → listed.getD e false = true → ∃ v d rv, (l[e]?).bind (·.dst) = some d ∧ Φ v st1 ∧ a.tmps[d]? = some rv ∧ R g w v rv)
  let μ : Array Bool → Nat := fun listed => (List.range l.length).countP fun j => !listed.getD j true
  have hμ : ∀ (listed : Array Bool) i, i < l.length → listed.size = l.length → listed.getD i true = false → μ (listed.setIfInBounds i true) + 1 ≤ μ listed := by
    intro listed i hil hsz hi
    have gen : ∀ (A : List Nat), i ∈ A → A.countP (fun j => !(listed.setIfInBounds i true).getD j true) + 1 ≤ A.countP (fun j => !listed.getD j true) := by
      have le : ∀ (A : List Nat), A.countP (fun j => !(listed.setIfInBounds i true).getD j true) ≤ A.countP (fun j => !listed.getD j true) := fun A => List.countP_mono_left fun j _ hj => by
        by_cases hij : i = j
        · subst hij
          rw [Array.getD_eq_getD_getElem?, Array.getElem?_setIfInBounds_self_of_lt (by omega)] at hj
          simp at hj
        · rw [getD_set_ne true hij] at hj; exact hj
      intro A
      induction A with
      | nil => intro h; simp at h
      | cons x A ih =>
        intro h
        rw [List.countP_cons, List.countP_cons]
        by_cases hx : x = i
        · subst hx
          have h1 : (!(listed.setIfInBounds x true).getD x true) = false := by
            rw [Array.getD_eq_getD_getElem?, Array.getElem?_setIfInBounds_self_of_lt (by omega)]; rfl
          have h2 : (!listed.getD x true) = true := by rw [hi]; rfl
          rw [h1, h2, if_neg (by decide), if_pos rfl]
          have := le A
          omega
        · have hm' : i ∈ A := by rcases List.mem_cons.1 h with h | h; exact absurd h.symm hx; exact h
          have := ih hm'
          have h3 : (listed.setIfInBounds i true).getD x true = listed.getD x true := getD_set_ne true (Ne.symm hx)
          rw [h3]
          omega
    exact gen _ (List.mem_range.2 hil)
  -- when all of the body is done
  have done : ∀ (m : Nat) (listed : Array Bool) (a : Act) (w : World), Inv listed a w → (∀ j, j < k → listed.getD j true = true) → l.length ≤ k + m → wpAny P .any l.toArray (QOf n a0.defers g0 w0 K E) m listed a w := by
    intro m listed a w ⟨hsz, hcl, htl, hn, hd, g, st1, he, hs, hle, hk, hst, heff⟩ hall hm'
    have hlist : ∀ j, j < k → listed.getD j false = true := fun j hj => by
      have h1 := hall j hj
      rw [Array.getD_eq_getD_getElem?, Array.getElem?_eq_getElem (by omega)] at h1 ⊢
      simpa using h1
    refine wpAny_tail hedge k htail m k listed a w (Nat.le_refl _) hkl hm' hsz (fun j hj => ?_) hcl ?_
    · by_cases hjk : j < k
      · rw [hall j hjk, decide_eq_true hjk]
      · rw [htl j (by omega) hj, decide_eq_false hjk]
    · rcases Nat.lt_or_ge e k with hek | hek
      · obtain ⟨v, d, rv, h1, h2, h3, h4⟩ := heff hek (hlist e hek)
        have h5 := hfin.2 hek v st1 d h1 h2 g w a hs (fun t u hu => by
          rw [Tmps.get_cons] at hu
          by_cases htd : d = t
          · subst htd; simp at hu; subst hu; exact ⟨rv, h3, h4⟩
          · rw [if_neg htd] at hu
            refine hk t u hu (fun _ o ho hot => ?_) (fun i o hi ho hot => hlist i hi)
            rw [ho] at h1
            simp only [Option.bind_some, hot, Option.some.injEq] at h1
            exact htd h1.symm) hn
        rw [hd] at h5
        exact wpList_mono (fun _ _ _ q => QOf.ext he q) _ _ _ h5
      · have hst1 := hst (.inr hek)
        subst hst1
        have h5 := hfin.1 hek g w a hs (fun t u hu => hk t u hu (fun h' => by omega) (fun i o hi ho hot => hlist i hi)) hn
        rw [hd] at h5
        exact wpList_mono (fun _ _ _ q => QOf.ext he q) _ _ _ h5
  -- a step of the body
  have step : ∀ (K' : Act → World → Prop) (listed : Array Bool) (a : Act) (w : World) (i : Nat), Inv listed a w → i < k → i ∈ Region.ready .any l.toArray listed → (∀ a' w', Inv (listed.setIfInBounds i true) a' w' → K' a' w') →
      wpOp P l.toArray (QOf n a0.defers g0 w0 K E) i K' a w := by
    intro K' listed a w i ⟨hsz, hcl, htl, hn, hd, g, st1, he, hs, hle, hk, hst, heff⟩ hik hri hK
    obtain ⟨hun, o, ho, hed'⟩ := ready_edges hri
    have hil := (List.getElem?_eq_some_iff.1 ho).1
    obtain ⟨d, hod, hdn, us, hus, hcase⟩ := hops i o (by rw [List.getElem?_take_of_lt hik]; exact ho)
    have hunf : listed.getD i false = false := by
      rw [Array.getD_eq_getD_getElem?, Array.getElem?_eq_getElem (by omega)] at hun ⊢
      simpa using hun
    have hcl' := hcl.set ho hed'
    have hsz' : (listed.setIfInBounds i true).size = l.length := by simpa using hsz
    have htl' : ∀ j, k ≤ j → j < l.length → (listed.setIfInBounds i true).getD j true = false := fun j h1 h2 => by
      rw [getD_set_ne true (by omega)]; exact htl j h1 h2
    -- what it sees is known
    have hknown : Known g w (see l.toArray o ((us.map (·.2)).reverse ++ T)) a := fun t v ht => by
      obtain ⟨h1, hlook⟩ := hsee i o us ho hik hus t v ht
      refine hk t v h1 (fun hek p hp hpt => ?_) (fun j p hj hp hpt => ?_)
      · exact (((hbody i o ho hik).2 e p hek hp).2 t hpt hlook).1 rfl
      · exact (((hbody i o ho hik).2 j p hj hp).2 t hpt hlook).2 listed hcl hed'
    -- other temporaries are kept
    have hother : ∀ t, t ≠ d → ∀ rv', (a.put o.dst rv').tmps[t]? = a.tmps[t]? := fun t ht rv' => by
      rw [hod]
      simp only [Act.put, Array.getElem?_setIfInBounds]
      rw [if_neg (Ne.symm ht)]
    have hself : ∀ rv', (a.put o.dst rv').tmps[d]? = some rv' := fun rv' => by
      rw [hod]
      simp only [Act.put, Array.getElem?_setIfInBounds]
      simp [hn, hdn]
    -- a quiet operation's outcome
    have quiet : ∀ v rv g' w', i ≠ e → (i, d, v) ∈ vs → Ext g w g' w' → Sim g' w' st1 → R g' w' v rv → Inv (listed.setIfInBounds i true) (a.put o.dst rv) w' := by
      intro v rv g' w' hie hmem he' hs' hR
      refine ⟨hsz', hcl', htl', by rw [Act.size_put]; exact hn, by rw [Act.defers_put]; exact hd, g', st1, he.trans he', hs', hle, fun t u ht hte hwr => ?_, fun h' => hst ?_, fun hek hel => ?_⟩
      · by_cases htd : t = d
        · subst htd
          rw [hval i t v hmem] at ht
          cases ht
          exact ⟨rv, hself rv, hR⟩
        · obtain ⟨ru, h1, h2⟩ := hk t u ht hte (fun j p hj hp hpt => by
            have h3 := hwr j p hj hp hpt
            by_cases hij : i = j
            · subst hij
              rw [ho] at hp
              cases hp
              rw [hod] at hpt
              cases hpt
              exact absurd rfl htd
            · rwa [getD_set_ne false hij] at h3)
          exact ⟨ru, by rw [hother t htd]; exact h1, h2.ext he'⟩
      · rcases h' with h' | h'
        · left; rwa [getD_set_ne false hie] at h'
        · exact .inr h'
      · rw [getD_set_ne false hie] at hel
        obtain ⟨v', d', rv', h1, h2, h3, h4⟩ := heff hek hel
        refine ⟨v', d', rv', h1, h2, ?_, h4.ext he'⟩
        rw [hother d' ?_]
        · exact h3
        · cases hoe : l[e]? with
          | none => rw [hoe] at h1; cases h1
          | some p =>
            rw [hoe] at h1
            exact fun hdd => (((hbody i o ho hik).2 e p hek hoe).1 hie d d' hod (by simpa using h1)) hdd.symm
    unfold wpOp
    simp only [List.getElem?_toArray, ho]
    rcases hcase with ⟨hie, hw, heffi⟩ | ⟨hie, v, hmem, hq⟩
    · -- the one that changes the state
      rw [wanted_of hknown hw, if_pos rfl]
      left
      have hst1 := hst (.inl (hie ▸ hunf))
      subst hst1
      refine heffi g w a K' _ hs hknown hn fun rv g' w' v st2 he' hs' hR hΦ hle2 => hK _ _ ?_
      refine ⟨hsz', hcl', htl', by rw [Act.size_put]; exact hn, by rw [Act.defers_put]; exact hd, g', st2, he.trans he', hs', hle2, fun t u ht hte hwr => ?_, fun h' => ?_, fun hek hel => ⟨v, d, rv, by rw [← hie, ho]; exact hod, hΦ, hself rv, hR⟩⟩
      · have htd : t ≠ d := fun htd => hte (by omega) o (by rw [← hie]; exact ho) (by rw [htd]; exact hod)
        obtain ⟨ru, h1, h2⟩ := hk t u ht hte (fun j p hj hp hpt => by
          have h3 := hwr j p hj hp hpt
          by_cases hij : i = j
          · subst hij
            rw [ho] at hp
            cases hp
            rw [hod] at hpt
            cases hpt
            exact absurd rfl htd
          · rwa [getD_set_ne false hij] at h3)
        exact ⟨ru, by rw [hother t htd]; exact h1, h2.ext he'⟩
      · exfalso
        rcases h' with h' | h'
        · rw [← hie, Array.getD_eq_getD_getElem?, Array.getElem?_setIfInBounds_self_of_lt (by omega)] at h'
          simp at h'
        · omega
    · rcases hq with ⟨hw, hq⟩ | ⟨hw, rfl⟩
      · rw [wanted_of hknown hw, if_pos rfl]
        left
        exact hq st1 g w a K' _ hle hs hknown hn fun rv g' w' he' hs' hR => hK _ _ (quiet v rv g' w' hie hmem he' hs' hR)
      · rw [wanted_of hknown hw, if_neg (by simp)]
        exact hK _ _ (quiet _ undef g w hie hmem (.refl _ _) hs (.lit _))
  have key : ∀ (m : Nat) (listed : Array Bool) (a : Act) (w : World), Inv listed a w → μ listed ≤ m → wpAny P .any l.toArray (QOf n a0.defers g0 w0 K E) m listed a w := by
    intro m
    induction m with
    | zero =>
      intro listed a w hi hm0
      -- nothing is left
      have hall : ∀ j, j < l.length → listed.getD j true = true := fun j hj => by
        cases hv : listed.getD j true with
        | true => rfl
        | false => have := hμ listed j hj hi.1 hv; omega
      have hlk : l.length = k := by
        rcases Nat.eq_or_lt_of_le hkl with h' | h'
        · exact h'.symm
        · have h1 := hall k h'
          have h2 := hi.2.2.1 k (Nat.le_refl _) h'
          rw [h1] at h2
          cases h2
      exact done 0 listed a w hi (fun j hj => hall j (by omega)) (by omega)
    | succ m ih =>
      intro listed a w hi hm1
      by_cases hall : ∀ j, j < k → listed.getD j true = true
      · refine done (m + 1) listed a w hi hall ?_
        -- the tail is unlisted: it is counted
        have : l.length - k ≤ μ listed := by
          exact countP_range_ge k _ l.length fun j h1 h2 => by rw [hi.2.2.1 j h1 h2]; rfl
        omega
      · have hex : ∃ j, j < k ∧ listed.getD j true = false ∧ ∀ q, q < j → listed.getD q true = true := by
          have : ∃ j, j < k ∧ listed.getD j true = false := by
            apply Classical.byContradiction
            intro hno
            apply hall
            intro j hj
            cases hv : listed.getD j true with
            | true => rfl
            | false => exact absurd ⟨j, hj, hv⟩ hno
          obtain ⟨j, hj⟩ := this
          induction j using Nat.strongRecOn with
          | _ j ihj =>
            by_cases hq : ∀ q, q < j → listed.getD q true = true
            · exact ⟨j, hj.1, hj.2, hq⟩
            · simp only [Classical.not_forall] at hq
              obtain ⟨q, hqj, hq⟩ := hq
              exact ihj q hqj ⟨by omega, by simpa using hq⟩
        obtain ⟨j0, hj0, hv0, hmin⟩ := hex
        have hsz := hi.1
        have hjl : j0 < l.length := by omega
        have hready : j0 ∈ Region.ready .any l.toArray listed := ready_of_edges hv0 (List.getElem?_eq_getElem hjl) (fun x hx => by
          have hxj := hedge j0 _ (List.getElem?_eq_getElem hjl) x hx
          have h1 := hmin x hxj
          rw [Array.getD_eq_getD_getElem?, Array.getElem?_eq_getElem (by omega)] at h1 ⊢
          simpa using h1)
        refine ⟨fun h0 => (by rw [h0] at hready; cases hready), fun i hri => ?_⟩
        obtain ⟨hun, o, ho, hed'⟩ := ready_edges hri
        have hil := (List.getElem?_eq_some_iff.1 ho).1
        have hik : i < k := by
          rcases Nat.lt_or_ge i k with h' | h'
          · exact h'
          · have h1 := htail i o h' ho listed hi.2.1 hed' j0 (by omega)
            rw [Array.getD_eq_getD_getElem?, Array.getElem?_eq_getElem (by omega)] at h1 hv0
            simp at h1 hv0
            rw [h1] at hv0
            cases hv0
        exact step _ listed a w i hi hik hri fun a' w' hi' => ih _ a' w' hi' (by have := hμ listed i hil hsz hun; omega)
  refine key _ _ a0 _ ?_ ?_
  · refine ⟨by simp, fun i o ho hi' => ?_, fun j _ hj => by simp [hj], hn0, rfl, g0, st, hed, hsd, ⟨fun _ _ h => h, (fun t ht => by cases ht), rfl⟩, fun t v ht hte hwr => ?_, fun _ => rfl, fun hek hel => ?_⟩
    · rw [Array.getD_eq_getD_getElem?, Array.getElem?_replicate] at hi'
      split at hi' <;> simp at hi'
    · -- nobody has written it
      have hno : ∀ i o, i < k → l[i]? = some o → o.dst ≠ some t := fun i o hi ho hot => by
        have := hwr i o hi ho hot
        rw [Array.getD_eq_getD_getElem?, Array.getElem?_replicate] at this
        split at this <;> simp at this
      rw [← hTF, get_append, get_none_of] at ht
      · exact (hk0.ext hed) t v ht
      · intro p hp hpt
        simp only [List.mem_reverse, List.mem_map] at hp
        obtain ⟨⟨j, d, u⟩, hx, rfl⟩ := hp
        simp only at hpt
        subst hpt
        obtain ⟨b1, _, p, b3, b4⟩ := hentry j d u hx
        exact hno j p b1 b3 b4
    · rw [Array.getD_eq_getD_getElem?, Array.getElem?_replicate] at hel
      split at hel <;> simp at hel
  · have := List.countP_le_length (p := fun j => !(Array.replicate l.length false).getD j true) (l := List.range l.length)
    exact Nat.le_trans this (by simp)

end
end Go.AM
namespace Go.AM
open Go.RowKit (Below)

section
variable {P:Program} {n:Nat} {T:Tmps} {st:St} {ops:Array Oper}

theorem wp_put {o:Oper} {a:Act} {w:World} {K1 K2:Act→World→Prop} {Q1 Q2:Exit→Act→World→Prop} (h:o.wp P a w K1 Q1)
  (hk:∀ a' w',a'.defers=a.defers→K1 a' w'→(∃ rv,a'=a.put o.dst rv)→K2 a' w') (hd:∀ a' w',K1 a' w'→a'.defers=a.defers) (hq:∀ e a w,e≠.normal→Q1 e a w→Q2 e a w):o.wp P a w K2 Q2:=by
 unfold Oper.wp at h ⊢
 generalize (execOp a.eval o).run P w=r at h
 cases r with
 | ok x w' =>
  cases x <;> simp only [Oper.upon] at h ⊢
  case value v=>exact hk _ _ (Act.defers_put _ _ _) h ⟨v,rfl⟩
  case skip=>exact hk _ _ (Act.defers_put _ _ _) h ⟨undef,rfl⟩
  case defer d =>
   have:=hd _ _ h
   rw [Act.defers_put] at this
   simp at this
  case enter f args =>
   refine h.mono fun e w'' he=>?_
   cases e with
   | returned v=>exact hk _ _ (Act.defers_put _ _ _) he ⟨v,rfl⟩
   | panicked ch=>exact hq _ _ _ (by simp) he
   | outgrown=>obtain ⟨a,w,h2⟩:=he; exact ⟨a,w,hq _ _ _ (by simp) h2⟩
  case row=>exact h.mono fun v w'' hv=>hk _ _ (Act.defers_put _ _ _) hv ⟨v,rfl⟩
 | halt x w'=>cases x <;> simp only [Oper.upon] at h ⊢ <;> exact hq _ _ _ (by simp) h

theorem AOps.single {o:Oper} {d:Tmp} (hd:o.dst=some d) (hdn:d < n) {v:AV→St→Prop} (h:AOps P n ops [o] (fun T' st'=>∃ u,T'=(d,u)::T∧v u st') (fun _ _ _=>False) T st) (hw:wantedA ops T o=some true)
  {g:G} {w:World} {a:Act} (hs:Sim g w st) (hk:Known g w T a) (K':Act→World→Prop) (Q':Exit→Act→World→Prop)
  (hK:∀ rv g' w' u st',Ext g w g' w'→Sim g' w' st'→R g' w' u rv→v u st'→K' (a.put o.dst rv) w') (hn:a.tmps.size=n):o.wp P a w K' Q':=by
 have h1:=h g w a hs hk hn
 unfold wpList at h1
 rw [wanted_of hk hw,if_pos rfl] at h1
 rcases h1 with h1|⟨_,h1⟩
 ·refine wp_put h1 (fun a' w' hda hq ⟨rv,hrv⟩=>?_) (fun a' w' hq=>hq.2.1) (fun e a' w' hne hq=>?_)
  ·obtain ⟨h2,h3,g',T',st',h4,h5,h6,u,hT,hv⟩:=hq
   subst hT
   subst hrv
   obtain ⟨ru,h7,h8⟩:=h6 d u (by rw [Tmps.get_cons,if_pos rfl])
   rw [hd] at h7
   simp only [Act.put,Array.getElem?_setIfInBounds] at h7
   simp [hn,hdn] at h7
   subst h7
   exact hK rv g' w' u st' h4 h5 h8 hv
  ·obtain ⟨_,_,g',T',st',_,_,_,h6⟩:=hq
   cases e with
   | normal=>exact absurd rfl hne
   | exit id=>exact h6.elim
   | ret=>exact h6.elim
   | panic ch=>obtain ⟨_,_,_,_,h7⟩:=h6; exact h7.elim
   | goto l=>exact h6.elim
   | outgrown=>exact h6.elim
 ·exact absurd h1 LetsOut.not_QOf

theorem dq {e:Nat} {Φ:AV→St→Prop} {i:Nat} {o:Oper} {r:List Oper} {d:Tmp} {v:AV} {k:Tmps→Prop} (hi:Nat.beq i e=false) (hd:dstA n o.dst=some d) (hw:wantedA ops (see ops o T) o=some true)
  (h:∀ st',StLe st' st.notok→AOps P n ops [o] (fun T' st''=>∃ u,T'=(d,u)::see ops o T∧(u=v∧st''=st')) (fun _ _ _=>False) (see ops o T) st')
  (hr:DRun P n st ops e Φ (i + 1) r ((d,v)::T) k):DRun P n st ops e Φ i (o::r) T k:=by
 obtain ⟨hd1,hd2⟩:=dstA_some hd
 unfold DRun
 rw [hi,cond_false]
 have hdn:d < n:=dstOk_lt hd2 d hd1
 refine ⟨d,v,hd1,by simpa using hdn,.inl ⟨hw,?_⟩,hr⟩
 intro st' g w a K' Q' hle hs hk hn hK
 exact AOps.single hd1 hdn (h st' hle) hw hs hk K' Q' (fun rv g' w' u st'' he hs' hR hu=>by obtain ⟨rfl,rfl⟩:=hu; exact hK rv g' w' he hs' hR) hn

theorem ds {e:Nat} {Φ:AV→St→Prop} {i:Nat} {o:Oper} {r:List Oper} {d:Tmp} {v:AV} {k:Tmps→Prop} (hi:Nat.beq i e=false) (hs:step1 ops n st (see ops o T) o=some (d,v))
  (hr:DRun P n st ops e Φ (i + 1) r ((d,v)::T) k):DRun P n st ops e Φ i (o::r) T k:=by
 have hgo:goes ops n (see ops o T) o=some d:=by
  unfold step1 at hs
  split at hs
  ·rename_i h1 h2; cases hs; exact h1
  ·cases hs
 obtain ⟨hw,hd,hok⟩:=goes_some hgo
 refine dq hi (by rw [hd] at hok ⊢; show (bif Nat.blt d n then some d else none)=some d; rw [show Nat.blt d n=true from hok]; rfl) hw (fun st' hle=>?_) hr
 have hev:∀ x,ev st' (see ops o T) x=ev st (see ops o T) x:=fun x=>by
  cases x <;> simp [ev,St.row]
  have:st'.glob=st.glob:=hle.glob.symm
  rw [this]
 have hval:valA st' (see ops o T) o.op=valA st (see ops o T) o.op:=by
  cases o.op <;> simp only [valA,hev]
 refine sm (d:=d) (v:=v) ?_ (nl ⟨v,rfl,rfl,rfl⟩)
 unfold step1 at hs ⊢
 rw [hval]
 exact hs

end
end Go.AM
