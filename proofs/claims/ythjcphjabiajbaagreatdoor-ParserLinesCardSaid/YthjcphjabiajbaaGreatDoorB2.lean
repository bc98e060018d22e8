/- Laid variables: what they hold, out of the premise that lays them; a law's contract where variables are laid. No conditions: definitions and lemmas only. -/
import Derived.LaidLaws
import Derived.LaidHandle
import Derived.ChangeVars
import Derived.Laws.Cover3
import Derived.Laws.Small
import Derived.Laws.IdiomStrings
import Derived.Laws.BytesArg
import Derived.Laws.RangeAny
import Derived.Lib.OthersKept
import Derived.Laws.StructEq
import Derived.ChangeKeysEq
import Derived.Lib.LaidTab
import Derived.Sort.Grow
import Derived.Recover
import Derived.Laws.Panics
import Derived.Test.YthjcphjabiajbaaGreatDoorB1
namespace Go.AM
open Go.RowKit (Below shut_bool)
open Go.ChangeShapes Go.WideShapes Go.ChangeAt
mutual
def litRow:DataW Unit→Option (List AV)
 | .lit (.int k n)=>some [.int k n]
 | .lit (.bool b)=>some [.bool b]
 | .lit (.string l)=>some [.str l]
 | .agg ds=>litRows ds
 | _=>none
def litRows:List (DataW Unit)→Option (List AV)
 | []=>some []
 | d::ds=>match litRow d,litRows ds with
  | some a,some b=>some (a++b)
  | _,_=>none
end

theorem segs_lit {g:G} {w:World} {cs:List Value}:∀ (l:List (Nat × Nat)) (o:Nat) (ds:List (DataW Unit)) (row:List AV),contig o l cs.length=true→ds.length=l.length →
  (∀ (i:Nat) x d r,l[i]?=some x→ds[i]?=some d→litRow d=some r→RL g w r ((cs.drop x.1).take x.2))→litRows ds=some row→RL g w row (cs.drop o)
 | [],o,[],row,h,_,_,hr=>by
  have:=Nat.eq_of_beq_eq_true h;subst this;unfold litRows at hr;cases hr;rw [List.drop_length];exact .nil g w
 | [],_,_::_,_,_,hl,_,_=>by cases hl
 | _::_,_,[],_,_,hl,_,_=>by cases hl
 | (off,sz)::l,o,d::ds,row,h,hl,hp,hr=>by
  simp only [contig,Bool.and_eq_true] at h;have ho:=Nat.eq_of_beq_eq_true h.1;subst ho;unfold litRows at hr;split at hr
  ·rename_i a b ha hb;cases hr;have h1:=hp 0 (o,sz) d a rfl rfl ha
   have h2:=segs_lit l (o + sz) ds b h.2 (by simpa using hl) (fun i x d r h1 h2 h3=>hp (i + 1) x d r (by simpa using h1) (by simpa using h2) h3) hb
   have hsplit:cs.drop o=(cs.drop o).take sz++cs.drop (o + sz):=by
    rw [← List.drop_drop,List.take_append_drop]
   rw [hsplit];exact h1.append h2
  ·cases hr

theorem trod_lit {P:Program} {enc:TypeId × Value→Unit} {S:List TypeId} (hS:∀ t ∈ S,kindOk P S t=true) {w:World} {sp:Nat→Bool} {held:Bool}:∀ (fuel:Nat) (t:TypeId) (cs:List Value) (d:DataW Unit) (ps:List MemPlace) (row:List AV),t ∈ S →
  DataW.trod enc P w 0 sp held fuel t cs=some (d,ps)→litRow d=some row→RL (G0 w) w row cs
 | 0,t,cs,d,ps,row,_,h,_=>by cases h
 | fuel + 1,t,cs,d,ps,row,ht,h,hr=>by
  have hk:=hS t ht
  have ih:=fun t cs d ps row=>trod_lit hS (w:=w) (sp:=sp) (enc:=enc) (held:=held) fuel t cs d ps row
  have h0:=h;unfold DataW.trod at h;unfold kindOk at hk;cases hu:P.underlying t with
  | none=>rw [hu] at hk; cases hk
  | some td =>
   rw [hu] at h hk;cases td <;> simp only [Bool.false_eq_true] at hk
   case bool =>
    split at h <;> first|(cases h; done)|skip
    all_goals (try (rename_i heq _; cases heq; done))
    all_goals (try (rename_i heq; cases heq; done))
    cases h;unfold litRow at hr;cases hr;exact .single rfl (.bool _)
   case int k =>
    split at h <;> first|(cases h; done)|skip
    all_goals (try (rename_i heq _; cases heq; done))
    all_goals (try (rename_i heq; cases heq; done))
    rename_i k1 k' x heq;cases heq;split at h
    ·rename_i hc;obtain ⟨rfl,hwf⟩:=hc;cases h;unfold litRow at hr;cases hr;exact .single rfl (.int _ _)
    ·cases h
   case string =>
    split at h <;> first|(cases h; done)|skip
    all_goals (try (rename_i heq _; cases heq; done))
    all_goals (try (rename_i heq; cases heq; done))
    rename_i s heq;split at h
    ·cases h;unfold litRow at hr;cases hr;obtain ⟨⟨l⟩⟩:=s;exact .single rfl (.str l)
    ·cases h
   case slice e =>
    split at h <;> first|(cases h; done)|skip
    all_goals (try (rename_i heq _; cases heq; done))
    all_goals (try (rename_i heq; cases heq; done))
    ·cases h;unfold litRow at hr;cases hr
    ·simp only at h;split at h
     ·obtain ⟨elems,h1,h2⟩:=Option.bind_eq_some_iff.1 h;obtain ⟨rest,h3,h4⟩:=Option.map_eq_some_iff.1 h2;cases h4;unfold litRow at hr;cases hr
     ·cases h
   case array m e =>
    simp only [Bool.and_eq_true] at hk;obtain ⟨hsz,heS⟩:=hk;have heS':e ∈ S:=by simpa using heS
    have hsz':=Nat.eq_of_beq_eq_true hsz;clear h;obtain ⟨xs,m0,hm0,hx,hlen,hxl,h1⟩:=DataW.trod_array hu h0;obtain rfl:fuel=m0:=by omega
    cases hx;unfold litRow at hr;have hcont:contig 0 ((List.range m).map fun i=>(i * P.cellsOf e,P.cellsOf e)) cs.length=true:=by
     rw [hlen,← hsz'];have:=contig_range (P.cellsOf e) m 0;rw [Nat.zero_mul,Nat.zero_add] at this;rw [List.range_eq_range'];exact this
    have:=segs_lit (g:=G0 w) (w:=w) (cs:=cs) _ 0 _ row hcont (by simp [hxl]) (fun i x d r hl hd hr=>by
     simp only [List.getElem?_map,Option.map_eq_some_iff] at hl hd;obtain ⟨j,hj,rfl⟩:=hl;obtain ⟨y,hy,rfl⟩:=hd;have hj':=List.getElem?_eq_some_iff.1 hj;obtain ⟨hj1,hj2⟩:=hj';simp only [List.getElem_range] at hj2;subst hj2;have h2:=h1 i (by simpa using hj1);rw [hy] at h2;exact ih e _ y.1 y.2 r heS' h2 hr) hr
    rwa [List.drop_zero] at this
   case struct fs =>
    simp only [Bool.and_eq_true] at hk;obtain ⟨hcont0,hall⟩:=hk;clear h;obtain ⟨xs,m0,hm0,hx,hlen,hxl,h1⟩:=DataW.trod_struct hu h0;obtain rfl:fuel=m0:=by omega
    cases hx;unfold litRow at hr;have hcont:contig 0 (fs.toList.map fun f=>(f.offset,P.cellsOf f.type)) cs.length=true:=by
     rw [hlen];exact hcont0
    have:=segs_lit (g:=G0 w) (w:=w) (cs:=cs) _ 0 _ row hcont (by simp [hxl]) (fun i x d r hl hd hr=>by
     simp only [List.getElem?_map,Option.map_eq_some_iff] at hl hd;obtain ⟨f,hf,rfl⟩:=hl;obtain ⟨y,hy,rfl⟩:=hd;have h2:=h1 i f (by rw [← Array.getElem?_toList]; exact hf);rw [hy] at h2;have hfS:f.type ∈ S:=by
      have:=List.all_eq_true.1 hall f (List.mem_of_getElem? hf)
      simpa using this
     exact ih _ _ y.1 y.2 r hfS h2 hr) hr
    rwa [List.drop_zero] at this

theorem laid_find {P:Program} {w:World}:∀ {laid:List (String × DataW Unit)} {ps:List MemPlace},DataW.LaidVars P w laid ps→∀ n d,(n,d) ∈ laid →
  ∃ g t cs fuel p,P.globalNamed n=some g∧(P.globals[g]?).map (·.type)=some t∧w.var? P n=some cs∧DataW.trod (fun _=>()) P w 0 (fun _=>true) false fuel t cs.toList=some (d,p)
 | [],_,_,n,d,h=>by cases h
 | (n0,d0)::r,ps,hL,n,d,h=>by
  obtain ⟨g,t,cs,fuel,p,q,h1,h2,h3,h4,h5,_⟩:=hL;rcases List.mem_cons.1 h with h|h
  ·cases h;exact ⟨g,t,cs,fuel,p,h1,h2,h3,h4⟩
  ·exact laid_find h5 n d h

theorem laid_row {P:Program} {S:List TypeId} (hS:∀ t ∈ S,kindOk P S t=true) {w:World} {laid:List (String × DataW Unit)} (hl:laidMet P laid w) {n:String} {d:DataW Unit} {row:List AV} {gi:Nat} {t:TypeId} (hm:(n,d) ∈ laid)
  (hd:litRow d=some row) (hg:P.globalNamed n=some gi) (ht:(P.globals[gi]?).map (·.type)=some t) (htS:t ∈ S) (hne:row≠[]) :
  GlobAt (G0 w) w gi row:=by
 obtain ⟨ps,hL,_⟩:=hl;obtain ⟨g,t',cs,fuel,p,h1,h2,h3,h4⟩:=laid_find hL n d hm;obtain rfl:=Option.some.inj (h1.symm.trans hg);obtain rfl:=Option.some.inj (h2.symm.trans ht);have hR:=trod_lit hS fuel _ _ _ _ row htS h4 hd
 have hcell:=fun i=>World.var?_cell h1 h3 i
 have hlen:row.length=cs.size:=by simpa using hR.len
 have h0:0 < row.length:=List.length_pos_iff.2 hne
 have hb:g < w.heap.size:=by
  have:=hcell 0;rw [Array.getElem?_eq_getElem (by omega)] at this;exact block_lt_of_cell this
 refine ⟨?_,hb,?_⟩
 rotate_left
 ·unfold World.var? at h3;rw [h1] at h3;simp only [Option.bind_some] at h3;split at h3
  ·rename_i cs' ty fr hh;cases h3;exact ⟨_,_,_,hh,hlen.symm⟩
  ·cases h3
 have:=R.eptr (g:=G0 w) (w:=w) row.length [row] 0 0 g 0 (fun _ j=>(cs[j]?).getD undef) (by simp) (by simpa using hR.one) (fun i j hi hj=>⟨hb,by
  have hi0:i=0:=by simpa using hi
  subst hi0;rw [Nat.zero_mul,Nat.zero_add,Nat.zero_add,hcell j,Array.getElem?_eq_getElem (by omega)];rfl⟩) (fun i j row' c hr hc=>by
  have hi0:i=0∧row'=row:=by
   cases i with
   | zero=>simp at hr; exact ⟨rfl,hr.symm⟩
   | succ i=>simp at hr
  obtain ⟨rfl,rfl⟩:=hi0;have hj:j < row'.length:=(List.getElem?_eq_some_iff.1 hc).1
  have hj2:j < cs.size:=by omega
  rw [Array.getElem?_eq_getElem hj2];exact hR.rel j c _ hc (by simp [hj2]))
 simpa using this

end Go.AM
namespace Go.AM
variable {P:Program} {t:TypeId} {a:AV}

theorem arg_one {td:TypeDesc} (hu:P.underlying t=some td) (ha:aggD td=false) (h:ArgTy P t a):∃ fuel,HasTy P fuel t [a]:=by
 obtain ⟨fuel,cs,h1,h2⟩:=h;rcases h2 with ⟨td',hu',ha',_⟩|⟨_,_,_,rfl⟩
 ·rw [hu] at hu';cases hu';rw [ha] at ha';cases ha'
 ·exact ⟨fuel,h1⟩

theorem arg_ints {e:TypeId} {k:IntKind} (hu:P.underlying t=some (.slice e)) (he:P.underlying e=some (.int k)) (hc:P.cellsOf e=1) (h:ArgTy P t a) :
  ∃ l:List Int,a=.view 1 (l.map fun x=>[.int k x]) .shared∧l.length≤maxLen∧∀ x ∈ l,(Lit.int k x).wf=true:=by
 obtain ⟨fuel,h1⟩:=arg_one hu rfl h;cases fuel with
 | zero=>exact h1.elim
 | succ fuel =>
  unfold HasTy at h1;rw [hu] at h1;obtain ⟨rows,hr,hl,hrow⟩:=h1;rw [hc] at hr;cases hr;have:∀ rows:List (List AV),(∀ row ∈ rows,HasTy P fuel e row)→∃ l:List Int,rows=l.map (fun x=>[.int k x])∧∀ x ∈ l,(Lit.int k x).wf=true:=by
   intro rows
   induction rows with
   | nil=>exact fun _=>⟨[],rfl,fun x hx=>by cases hx⟩
   | cons row rows ih =>
    intro hrow;obtain ⟨l,rfl,hl⟩:=ih fun r hr=>hrow r (List.mem_cons_of_mem _ hr);have h0:=hrow row (by simp);cases fuel with
    | zero=>exact h0.elim
    | succ fuel =>
     unfold HasTy at h0;rw [he] at h0;obtain ⟨x,rfl,hx⟩:=h0;refine ⟨x::l,rfl,fun y hy=>?_⟩;rcases List.mem_cons.1 hy with rfl|hy
     ·exact hx
     ·exact hl y hy
  obtain ⟨l,rfl,hl2⟩:=this rows hrow;exact ⟨l,rfl,by simpa using hl,hl2⟩

end Go.AM
namespace Go.AM
open Go.RowKit (Below shut_bool)
open Go.ChangeShapes Go.WideShapes Go.ChangeAt
def Small (P:Program) (t:TypeId):AV→Prop
 | .str l=>l.length≤140737488351232
 | .view _ rows _=>match P.underlying t with
  | some (.slice e)=>rows.length * P.bytesOf e≤140737488351232
  | _=>True
 | _=>True

theorem small_ints {P:Program} {t e:TypeId} {l:List Int} {f:Int→List AV} {sz:Nat} {tk:Tok} (hu:P.underlying t=some (.slice e)) (hb:P.bytesOf e=8) (h:Small P t (.view sz (l.map f) tk)):l.length≤17592186043904:=by
 unfold Small at h;rw [hu] at h;simp only [hb,List.length_map] at h;omega

section
variable {H:Type} {enc:TypeId × Value→H} {P:Program}

theorem trodAll_get {W:World} {sp:Nat→Bool} {held:Bool}:∀ {ts:List TypeId} {vs:List Value} {ds:List (DataW H)} {p:List MemPlace},DataW.TrodAll enc P W 0 sp held ts vs ds p →
  ∀ (i:Nat) t v d,ts[i]?=some t→vs[i]?=some v→ds[i]?=some d→∃ q,DataW.Trod enc P W 0 sp held t v d q
 | [],_,_,_,_,i,t,v,d,h,_,_=>by simp at h
 | _::_,[],_,_,_,i,t,v,d,_,h,_=>by simp at h
 | _::_,_::_,[],_,_,i,t,v,d,_,_,h=>by simp at h
 | t0::ts,v0::vs,d0::ds,p,h,i,t,v,d,h1,h2,h3=>by
  obtain ⟨p1,q1,k1,k2,_⟩:=h;cases i with
  | zero=>simp at h1 h2 h3; subst h1; subst h2; subst h3; exact ⟨_,k1⟩
  | succ i=>exact trodAll_get k2 i t v d (by simpa using h1) (by simpa using h2) (by simpa using h3)

theorem weights_get {us:List TypeId} {gs:List (DataW H)} {p:Nat→Bool}:∀ {ts:List TypeId} {ds:List (DataW H)},ts.length=ds.length→(DataW.weightsEach P (ts++us) (ds++gs)).all p=true →
  ∀ (i:Nat) t d,ts[i]?=some t→ds[i]?=some d→(d.weights P t).all p=true
 | [],_,_,_,i,t,d,h,_=>by simp at h
 | _::_,[],h,_,_,_,_,_,_=>by cases h
 | t0::ts,d0::ds,hl,h,i,t,d,h1,h2=>by
  rw [List.cons_append,List.cons_append] at h;unfold DataW.weightsEach at h;rw [List.all_append,Bool.and_eq_true] at h;cases i with
  | zero=>simp at h1 h2; subst h1; subst h2; exact h.1
  | succ i=>exact weights_get (by simpa using hl) h.2 i t d (by simpa using h1) (by simpa using h2)

theorem arg_small {W:World} {sp:Nat→Bool} {t:TypeId} {v:Value} {d:DataW H} {p:List MemPlace} {a:AV} {g:G} (ht:DataW.Trod enc P W 0 sp true t v d p) (hR:R g W a v) (hty:ArgTy P t a)
  (hw:(d.weights P t).all (·≤reachBytes)=true):Small P t a:=by
 obtain ⟨fuel,h⟩:=ht;cases fuel with
 | zero=>cases h
 | succ fuel =>
  obtain ⟨f0,cs,k1,k2⟩:=hty;cases a with
  | str l =>
   rcases k2 with ⟨td,_,_,k3⟩|⟨td,hu,ha,_⟩
   ·cases k3
   ·cases hR;unfold DataW.trod at h;rw [hu] at h;cases td <;> simp only [aggD,reduceCtorEq] at ha <;> simp [Value.cells] at h
    obtain ⟨_,rfl,_⟩:=h;simp only [DataW.weights,List.all_cons,List.all_nil,Bool.and_true,decide_eq_true_eq] at hw;exact hw
  | view sz rows tk =>
   rcases k2 with ⟨td,_,_,k3⟩|⟨td,hu,ha,_⟩
   ·cases k3
   ·unfold Small;rw [hu];cases td <;> first|trivial|skip
    rename_i e;simp only;cases hR with
    | vnil=>simp
    | vemp=>simp
    | view _ _ _ b off cap f hc hm =>
     unfold DataW.trod at h;rw [hu] at h;simp only [Value.cells] at h;split at h
     ·obtain ⟨elems,h1,h2⟩:=Option.bind_eq_some_iff.1 h;obtain ⟨rest,h3,h4⟩:=Option.map_eq_some_iff.1 h2;have hl:=mapM_some_length h1;simp only [List.length_range] at hl;cases h4;unfold DataW.weights at hw;rw [hu] at hw;simp only [List.all_cons,List.length_map,Bool.and_eq_true,decide_eq_true_eq] at hw;have:=hw.1;rw [hl] at this;exact Nat.le_trans (Nat.mul_le_mul_right _ (Nat.le_add_right _ _)) this
     ·cases h
  | _=>trivial

theorem law_contractS {s:ChangeSpec} {fn:Func} {f:FuncId} {tb:TypeId} {S:List TypeId} (globs:List (Nat × List AV)) (hl:laidOutB P=true) (hS:∀ t ∈ S,kindOk P S t=true) (hparams:∀ t ∈ fn.params.toList,t ∈ S∧P.readableRec t=true∧t < P.types.size)
  (hvars:s.vars=[]) (hfn:∀ ds:List (DataW H),ds.length=fn.params.size→s.fn H ds={ results:=[.lit (.bool true)],args:=ds }) (hres:fn.resultTypes=#[tb]) (hb:P.underlying tb=some .bool)
  (W:World) (base:Nat) (args:Array Value) (ds gs:List (DataW H)) (before:List MemPlace)
  (hval:∀ (j:Nat) t v,fn.params[j]?=some t→args[j]?=some v→Value.okWide P W .any base t v)
  (hW:DataW.Whole enc P fn.params.toList s.vars false W args.toList ds gs before)
  {us:List TypeId} (hwt:(DataW.weightsEach P (fn.params.toList++us) (ds++gs)).all (·≤reachBytes)=true)
  (hglob:∀ gi row,(gi,row) ∈ globs→GlobAt (G0 W) W gi row)
  (walk:∀ avs:List AV,avs.length=fn.params.size→(∀ (i:Nat) t a,fn.params[i]?=some t→avs[i]?=some a→ArgTy P t a)→(∀ (i:Nat) t a,fn.params[i]?=some t→avs[i]?=some a→Small P t a) →
   ACalls P f avs { obj:=fun _=>none,tok:=fun _=>false,glob:=globs } (fun v _=>v=.bool true) (fun _ _=>False)) :
  Calls P f args W fun e W'=>∃ v,e=.returned v∧s.post enc P fn false true false false W args v W':=by
 have hW':=hW;obtain ⟨p,q,hA,hV,rfl,_,_⟩:=hW;obtain ⟨avs,l1,l2,l3,hR,hT⟩:=args_R hS fn.params.toList args.toList ds p (fun t ht=>(hparams t ht).1) (fun j t v h1 h2=>hval j t v (by simpa using h1) (by simpa using h2)) hA;rw [hvars] at hV;obtain ⟨rfl,rfl⟩:=trodVars_none hV;have hlen:avs.length=fn.params.size:=by rw [l1,← l2]; simp
 have hsm:∀ (i:Nat) t a,fn.params[i]?=some t→avs[i]?=some a→Small P t a:=by
  intro i t a h1 h2;have h1':fn.params.toList[i]?=some t:=by simpa using h1
  have hi:i < fn.params.toList.length:=(List.getElem?_eq_some_iff.1 h1').1
  have hv:args.toList[i]?=some (args.toList[i]'(by omega)):=List.getElem?_eq_getElem _
  have hd:ds[i]?=some (ds[i]'(by omega)):=List.getElem?_eq_getElem _;obtain ⟨q,hq⟩:=trodAll_get hA i t _ _ h1' hv hd;exact arg_small hq (hR i a _ h2 hv) (hT i t a h1' h2) (weights_get (by omega) hwt i t _ h1' hd)
 have hcall:=walk avs hlen (fun i t a h1 h2=>hT i t a (by simpa using h1) h2) hsm (G0 W) W args (Sim0 W globs hglob) (by rw [l1]; simp) (fun i c v h1 h2=>hR i c v h1 (by simpa using h2));refine hcall.mono fun e W' ⟨g',st',he,_,hq⟩=>?_;cases e with
 | panicked ch=>obtain ⟨_,_,_,_,h⟩:=hq; exact h.elim
 | outgrown=>exact hq.elim
 | returned rv =>
  obtain ⟨v,hRv,rfl⟩:=hq;have hrv:rv=.bool true:=by cases hRv; rfl
  subst hrv;have hbelow:Below W.heap.size W W':=he.below
  have hsp:=hfn (ds++[]) (by simp; rw [l3]; simp);refine ⟨_,rfl,ds,[],p++[],[],p++[],[],hW',?_,?_,?_,hbelow.frame _,fun h=>by cases h⟩
  ·rw [hsp,hres];exact trodAll_cons_mk (shut_bool hb true) trodAll_mk0
  ·rw [hsp,List.append_nil,List.append_nil];exact TrodAll.below hl hbelow _ _ _ _ (fun t ht=>(hparams t ht).2) (fun x hx=>hW'.lt x (by simpa using hx)) hA
  ·rw [hsp,hvars];rfl

end
end Go.AM
namespace Go.AM
open Go.RowKit (Below)
section
variable {P:Program} {n:Nat} {K:Post} {E:EPost} {T:Tmps} {st:St} {ops:Array Oper} {rest:List Oper}
variable {ty:TypeId} {pos:String} {es:Array Edge} {gd:Option (Nat × Bool)} {d:Tmp} {x y:Operand} {dd:Option Tmp}

theorem R.frozenC {g:G} {w:World} (hs:Sim g w st) {o sz i off:Nat} {oty:TypeId} {rows:List (List AV)} (ho:st.obj o=some (.cells oty sz rows)) {rv:Value} (h:R g w (.cptr o sz i off) rv) :
  ∃ g',Ext g w g' w∧Sim g' w (st.drop o)∧R g' w (.eptr sz rows i off) rv:=by
 cases h with
 | cptr _ _ _ _ b m hb =>
  obtain ⟨g',he,hsim,himm⟩:=hs.freeze ho hb;obtain ⟨_,⟨arr,ha,hsz,hml,hlr,h1,hcell⟩,_⟩:=hs.objOf ho hb;refine ⟨g',he,hsim,?_⟩;have key:=R.eptr (g:=g') (w:=w) sz rows i off b 0 (fun i j=>arr.getD (i * sz + j) undef) hlr h1
   (fun i j hi hj=>by
    refine ⟨himm _,?_⟩;have h2:i * sz + j < rows.length * sz:=mul_add_lt hi hj;rw [cell_of_row w b _ arr oty (0,0) ha,Array.getD_eq_getD_getElem?,Nat.zero_add,Array.getElem?_eq_getElem (by omega)];rfl)
   (fun i j row c hr hcj=>by
    obtain ⟨v,hv1,hv2⟩:=hcell i j row c hr hcj;rw [Array.getD_eq_getD_getElem?,hv1];exact hv2.ext he)
  rw [Nat.zero_add] at key;exact key

theorem StLe.ofNew {st:St} {o:Nat} {c:AObj} (h:st.obj o=none):StLe ((st.set o c).drop o) st :=
 ⟨fun p x hp=>by
  have:p≠o:=St.ne_of_new h hp;rw [St.obj_drop_ne this,St.obj_set_ne this]; exact hp,fun _ h=>h,rfl⟩

theorem AOps.fz (t:Nat) {o s i off:Nat} {oty:TypeId} {rows:List (List AV)} (ht:T.get t=some (.cptr o s i off)) (ho:st.obj o=none)
  (h:AOps P n ops rest K E ((t,.eptr s rows i off)::T) st):AOps P n ops rest K E T (st.set o (.cells oty s rows)) :=
 AOps.ghost fun g w a hs hk=>by
  obtain ⟨rv,h1,h2⟩:=hk t _ ht;obtain ⟨g',he,hs',hR⟩:=h2.frozenC hs (St.obj_set _ _ _);exact ⟨g',_,_,he,hs'.le (StLe.ofNew ho),(hk.ext he).cons h1 hR,h⟩

theorem bxe {t:TypeId} {v:AV} {sz:Nat} (hg:goes ops n T ⟨dd,.box t x,ty,pos,es,gd⟩=some d) (hx:ev st T x=some v) (hv:storable v=true) (hsz:v.cells.length=sz)
  (k:AOps P n ops rest K E ((d,.eptr sz [v.cells] 0 0)::T) st):AOps P n ops (⟨dd,.box t x,ty,pos,es,gd⟩::rest) K E T st:=by
 refine bx hg hx hv hsz fun o ho=>?_;refine AOps.fz d (by rw [Tmps.get_cons,if_pos rfl]) ho ?_;refine AOps.weaken (T':=(d,.eptr sz [v.cells] 0 0)::T) ?_ (.refl _) k;intro i v' hi;rw [Tmps.get_cons] at hi;rw [Tmps.get_cons,Tmps.get_cons];by_cases h:d=i
 ·rw [if_pos h] at hi ⊢;exact ⟨_,rfl,by cases hi; exact .refl _⟩
 ·rw [if_neg h] at hi ⊢;rw [if_neg h];exact ⟨_,hi,.refl _⟩

theorem bsh {t e:TypeId} {len:Nat} {esz eby:Nat} {ez:Value} {parts:Array (Nat × Operand)} {vs:List (Nat × AV)} {cs:List AV} [hu:Und P t (.slice e)] [hie:Inf P e (esz + 1) eby ez] (hg:goes ops n T ⟨dd,.buildSlice t len parts,ty,pos,es,gd⟩=some d)
  (hz:zok (esz + 1) ez=true) (hsm:Nat.ble (len * (esz + 1)) 16777216=true) (he:evParts st T parts.toList=some vs) (hf:afill (fun i=>some (i * (esz + 1),esz + 1)) ((List.replicate len (zrow ez)).flatten) vs=some cs)
  (k:AOps P n ops rest K E ((d,.view (esz + 1) (chunk (esz + 1) len cs) .shared)::T) st):AOps P n ops (⟨dd,.buildSlice t len parts,ty,pos,es,gd⟩::rest) K E T st:=by
 refine bs hg hz hsm he hf fun tk htk=>?_;refine AOps.weaken (T':=(d,.view (esz + 1) (chunk (esz + 1) len cs) .shared)::T) ?_ (StLe.addTok _ (.refl _)) k;intro i v' hi;rw [Tmps.get_cons] at hi ⊢;by_cases h:d=i
 ·rw [if_pos h] at hi ⊢;cases hi;exact ⟨_,rfl,.shared _ _ _⟩
 ·rw [if_neg h] at hi ⊢;exact ⟨_,hi,.refl _⟩

theorem rowSet_all {row cs:List AV} (h:cs.length=row.length):rowSet row 0 cs=cs:=by
 simp [rowSet,h]

theorem bs1 {t e:TypeId} {esz eby:Nat} {ez:Value} {v:AV} [hu:Und P t (.slice e)] [hie:Inf P e (esz + 1) eby ez] (hg:goes ops n T ⟨dd,.buildSlice t 1 #[(0,x)],ty,pos,es,gd⟩=some d)
  (hz:zok (esz + 1) ez=true) (hsm:Nat.ble (1 * (esz + 1)) 16777216=true) (hx:ev st T x=some v) (hl:Nat.beq v.cells.length (esz + 1)=true) (hv:storable v=true)
  (k:AOps P n ops rest K E ((d,.view (esz + 1) [v.cells] .shared)::T) st):AOps P n ops (⟨dd,.buildSlice t 1 #[(0,x)],ty,pos,es,gd⟩::rest) K E T st:=by
 have hl':=Nat.eq_of_beq_eq_true hl;obtain ⟨z1,z2,z3,z4⟩:=zok_spec hz;have hr:rowSet (zrow ez) 0 v.cells=v.cells:=rowSet_all (by rw [hl',z3]);refine bsh (vs:=[(0,v)]) (cs:=v.cells) hg hz hsm (by simp [evParts,hx]) ?_ ?_
 ·simp only [List.replicate_one,List.flatten_cons,List.flatten_nil,List.append_nil,afill,Nat.zero_mul,hl',nbeq_self,hv,z3,Nat.zero_add,Nat.ble_self_eq_true,Bool.and_self,cond_true,hr]
 ·have:chunk (esz + 1) 1 v.cells=[v.cells]:=by simp [chunk,← hl']
  rw [this];exact k

theorem bs1o {t e:TypeId} {esz eby:Nat} {ez:Value} {v:AV} [hu:Und P t (.slice e)] [hie:Inf P e (esz + 1) eby ez] (hg:goes ops n T ⟨dd,.buildSlice t 1 #[(0,x)],ty,pos,es,gd⟩=some d)
  (hz:zok (esz + 1) ez=true) (hsm:Nat.ble (1 * (esz + 1)) 16777216=true) (hx:ev st T x=some v) (hl:Nat.beq v.cells.length (esz + 1)=true) (hv:storable v=true)
  (k:∀ tk,st.tok tk=false→AOps P n ops rest K E ((d,.view (esz + 1) [v.cells] (.own tk e))::T) (st.addTok tk)):AOps P n ops (⟨dd,.buildSlice t 1 #[(0,x)],ty,pos,es,gd⟩::rest) K E T st:=by
 have hl':=Nat.eq_of_beq_eq_true hl;obtain ⟨z1,z2,z3,z4⟩:=zok_spec hz;have hr:rowSet (zrow ez) 0 v.cells=v.cells:=rowSet_all (by rw [hl',z3]);refine bs (vs:=[(0,v)]) (cs:=v.cells) hg hz hsm (by simp [evParts,hx]) ?_ fun tk htk=>?_
 ·simp only [List.replicate_one,List.flatten_cons,List.flatten_nil,List.append_nil,afill,Nat.zero_mul,hl',nbeq_self,hv,z3,Nat.zero_add,Nat.ble_self_eq_true,Bool.and_self,cond_true,hr]
 ·have:chunk (esz + 1) 1 v.cells=[v.cells]:=by simp [chunk,← hl']
  rw [this];exact k tk htk

theorem sel_all {row:List AV} {sz:Nat} (h:Nat.beq sz row.length=true):sel true sz row 0=some (.agg row):=by
 have:=Nat.eq_of_beq_eq_true h;subst this;simp [sel,Nat.ble_self_eq_true]

theorem leW {t:TypeId} {td:TypeDesc} [hu:Und P t td] {sz by_:Nat} {zz:Value} [hi:Inf P t sz by_ zz] {s:Nat} {rows:List (List AV)} {i:Nat} {row:List AV}
  (hg:goes ops n T ⟨dd,.load t x,ty,pos,es,gd⟩=some d) (ha:aggD td=true) (hx:ev st T x=some (.eptr s rows i 0)) (hr:rows[i]?=some row) (hl:Nat.beq sz row.length=true)
  (k:AOps P n ops rest K E ((d,.agg row)::T) st):AOps P n ops (⟨dd,.load t x,ty,pos,es,gd⟩::rest) K E T st :=
 le hg hx hr (by rw [ha]; exact sel_all hl) k

theorem lcW {t:TypeId} {td:TypeDesc} [hu:Und P t td] {sz by_:Nat} {zz:Value} [hi:Inf P t sz by_ zz] {o s:Nat} {rows:List (List AV)} {i:Nat} {row:List AV}
  (hg:goes ops n T ⟨dd,.load t x,ty,pos,es,gd⟩=some d) (ha:aggD td=true) (hx:ev st T x=some (.cptr o s i 0)) {oty:TypeId} (ho:st.obj o=some (.cells oty s rows)) (hr:rows[i]?=some row) (hl:Nat.beq sz row.length=true)
  (k:AOps P n ops rest K E ((d,.agg row)::T) st):AOps P n ops (⟨dd,.load t x,ty,pos,es,gd⟩::rest) K E T st :=
 lc hg hx ho hr (by rw [ha]; exact sel_all hl) k

theorem sos {t:TypeId} {sz by_:Nat} {zz:Value} [hi:Inf P t sz by_ zz] {o s:Nat} {rows:List (List AV)} {i off:Nat} {row:List AV} {v:AV} {oty:TypeId} {rows':List (List AV)}
  (hw:wantedA ops T ⟨none,.store t x y,ty,pos,es,gd⟩=some true) (hx:ev (st.set o (.cells oty s rows)) T x=some (.cptr o s i off)) (hy:ev (st.set o (.cells oty s rows)) T y=some v) (hr:rows[i]?=some row)
  (hv:storable v=true) (hsz:Nat.beq v.cells.length sz=true) (hle:Nat.ble (off + v.cells.length) row.length=true) (he:rows.set i (rowSet row off v.cells)=rows')
  (k:AOps P n ops rest K E T (st.set o (.cells oty s rows'))):AOps P n ops (⟨none,.store t x y,ty,pos,es,gd⟩::rest) K E T (st.set o (.cells oty s rows)) :=
 so hw hx hy (St.obj_set _ _ _) hr hv hsz hle he (by rw [St.set_set]; exact k)

theorem soV {t:TypeId} {sz by_:Nat} {zz:Value} [hi:Inf P t sz by_ zz] {o s:Nat} {row:List AV} {v:AV} {oty:TypeId}
  (hw:wantedA ops T ⟨none,.store t x y,ty,pos,es,gd⟩=some true) (hx:ev (st.set o (.cells oty s [row])) T x=some (.cptr o s 0 0)) (hy:ev (st.set o (.cells oty s [row])) T y=some v)
  (hv:storable v=true) (hsz:Nat.beq v.cells.length sz=true) (hle:Nat.beq v.cells.length row.length=true)
  (k:AOps P n ops rest K E T (st.set o (.cells oty s [v.cells]))):AOps P n ops (⟨none,.store t x y,ty,pos,es,gd⟩::rest) K E T (st.set o (.cells oty s [row])):=by
 have h:=Nat.eq_of_beq_eq_true hle;refine sos (row:=row) hw hx hy rfl hv hsz (by rw [Nat.zero_add,h]; exact Nat.ble_self_eq_true _) ?_ k;rw [rowSet_all h];rfl

theorem soN (t':Nat) {t:TypeId} {sz by_:Nat} {zz:Value} [hi:Inf P t sz by_ zz] {o s:Nat} {row:List AV} {v:AV} {oty:TypeId}
  (hw:wantedA ops T ⟨none,.store t (.tmp t') y,ty,pos,es,gd⟩=some true) (hx:T.get t'=some (.cptr o s 0 0)) (hy:ev (st.set o (.cells oty s [row])) T y=some v)
  (hv:storable v=true) (hsz:Nat.beq v.cells.length sz=true) (hle:Nat.beq v.cells.length row.length=true) (ho:st.obj o=none)
  (k:AOps P n ops rest K E ((t',.eptr s [v.cells] 0 0)::T) st):AOps P n ops (⟨none,.store t (.tmp t') y,ty,pos,es,gd⟩::rest) K E T (st.set o (.cells oty s [row])) :=
 soV hw hx hy hv hsz hle (AOps.fz t' hx ho k)

theorem seqk {c c':Code} (T':Tmps) (st':St) (h:AWP P n c (fun T1 st1=>TLe T1 T'∧StLe st1 st') E T st) (k:AWP P n c' K E T' st'):AWP P n (.seq c c') K E T st :=
 AWP.seq (AWP.mono h (fun _ _ ⟨h2,h3⟩=>AWP.weaken h2 h3 k) (fun _ _ _ he=>he))

theorem tst {c c':Code} (d:Nat) (v:AV) (h:AWP P n c (fun T1 st1=>TLe T1 ((d,v)::T)∧StLe st1 st) E T st) (k:AWP P n c' K E ((d,v)::T) st):AWP P n (.seq c c') K E T st :=
 seqk _ _ h k

theorem TLe.consE {T T':Tmps} {i:Nat} {v v':AV} (h:T.get i=some v) (e:v=v') (ht:TLe T T'):TLe T ((i,v')::T'):=e ▸ TLe.cons' h ht

theorem ACalls.ofBody {f:FuncId} {fn:Func} {c:Code} {args:List AV} {Rt RP:AV→St→Prop} (hf:P.funcs[f]?=some fn) (hb:fn.body=some c) (hn:fn.ntmps=n) (hl:Nat.ble args.length n=true)
  (h:AWP P n c (fun T' st'=>∃ vs v st1,resA P st' T' fn.results.toList=some vs∧Le (packA vs) v∧StLe st' st1∧Rt v st1)
   (fun e T' st'=>match e with
    | .ret=>∃ vs v st1,resA P st' T' fn.results.toList=some vs∧Le (packA vs) v∧StLe st' st1∧Rt v st1
    | .panic pv=>∃ st1,StLe st' st1∧RP pv st1
    | .exit _=>False) (zipFrom 0 args) st):ACalls P f args st Rt RP:=by
 have key:=ACalls.of_body (P:=P) (Rt:=fun v st'=>∃ st1,StLe st' st1∧Rt v st1) (RP:=fun v st'=>∃ st1,StLe st' st1∧RP v st1) hf hb hn (Nat.ble_le hl) (AWP.mono h
  (fun T' st' ⟨vs,v,st1,h1,h2,h3,h4⟩=>⟨vs,v,h1,h2,st1,h3,h4⟩)
  (fun e T' st' he=>by
   cases e with
   | ret=>obtain ⟨vs,v,st1,h1,h2,h3,h4⟩:=he; exact ⟨vs,v,h1,h2,st1,h3,h4⟩
   | panic pv=>exact he
   | exit id=>exact he))
 intro g w rargs hs hlen ha;refine (key g w rargs hs hlen ha).mono fun e w' ⟨g',st',he,hs',hq⟩=>?_;cases e with
 | returned rv=>obtain ⟨v,x1,st1,x2,x3⟩:=hq; exact ⟨g',st1,he,hs'.le x2,v,x1,x3⟩
 | panicked ch=>obtain ⟨pv,v,x1,x2,st1,x3,x4⟩:=hq; exact ⟨g',st1,he,hs'.le x3,pv,v,x1,x2,x4⟩
 | outgrown=>exact hq.elim

theorem inc {t u:TypeId} {a:Nat} (hg:goes ops n T ⟨dd,.binOp .add t x y u,ty,pos,es,gd⟩=some d)
  (hx:ev st T x=some (.int .i64 (a:Int))) (hy:ev st T y=some (.int .i64 1)) (hc:a < 9223372036854775807)
  (k:AOps P n ops rest K E ((d,.int .i64 ((a + 1:Nat):Int))::T) st):AOps P n ops (⟨dd,.binOp .add t x y u,ty,pos,es,gd⟩::rest) K E T st :=
 adn (b:=1) hg hx hy (by omega) k

theorem cl {f:FuncId} [hf:GoFun P f] {args:Array Operand} {tys:Array TypeId} {avs:List AV} {Rt:AV→St→Prop}
  (hg:goes ops n T ⟨dd,.call ⟨.value (.func f),args,tys⟩,ty,pos,es,gd⟩=some d) (ha:evs st T args.toList=some avs)
  (hc:ACalls P f avs st Rt (fun _ _=>False)) (h:∀ v st',Rt v st'→AOps P n ops rest K E ((d,v)::T) st') :
  AOps P n ops (⟨dd,.call ⟨.value (.func f),args,tys⟩,ty,pos,es,gd⟩::rest) K E T st:=by
 obtain ⟨hw,hd,hok⟩:=goes_some hg;simp only at hd;subst hd;exact AOps.callFn hw hok ha hc h (fun _ _ h=>h.elim)

theorem cle {f:FuncId} [hf:GoFun P f] {args:Array Operand} {tys:Array TypeId} {avs:List AV} {X:AV}
  (hg:goes ops n T ⟨dd,.call ⟨.value (.func f),args,tys⟩,ty,pos,es,gd⟩=some d) (ha:evs st T args.toList=some avs)
  (hc:ACalls P f avs st (fun v st'=>v=X∧st'=st) (fun _ _=>False)) (h:AOps P n ops rest K E ((d,X)::T) st) :
  AOps P n ops (⟨dd,.call ⟨.value (.func f),args,tys⟩,ty,pos,es,gd⟩::rest) K E T st :=
 cl hg ha hc (by rintro _ _ ⟨rfl,rfl⟩; exact h)

theorem tl0 {T:Tmps}:TLe T []:=TLe.nil T
theorem tl1 {T:Tmps} {i0:Nat} {v0:AV} (h0:T.get i0=some v0):TLe T [(i0,v0)]:=TLe.cons' h0 (TLe.nil T)
theorem tl2 {T:Tmps} {i0 i1:Nat} {v0 v1:AV} (h0:T.get i0=some v0) (h1:T.get i1=some v1):TLe T [(i0,v0),(i1,v1)]:=TLe.cons' h0 (TLe.cons' h1 (TLe.nil T))
theorem tl3 {T:Tmps} {i0 i1 i2:Nat} {v0 v1 v2:AV} (h0:T.get i0=some v0) (h1:T.get i1=some v1) (h2:T.get i2=some v2):TLe T [(i0,v0),(i1,v1),(i2,v2)]:=TLe.cons' h0 (TLe.cons' h1 (TLe.cons' h2 (TLe.nil T)))
theorem tl4 {T:Tmps} {i0 i1 i2 i3:Nat} {v0 v1 v2 v3:AV} (h0:T.get i0=some v0) (h1:T.get i1=some v1) (h2:T.get i2=some v2) (h3:T.get i3=some v3):TLe T [(i0,v0),(i1,v1),(i2,v2),(i3,v3)]:=TLe.cons' h0 (TLe.cons' h1 (TLe.cons' h2 (TLe.cons' h3 (TLe.nil T))))
theorem tl5 {T:Tmps} {i0 i1 i2 i3 i4:Nat} {v0 v1 v2 v3 v4:AV} (h0:T.get i0=some v0) (h1:T.get i1=some v1) (h2:T.get i2=some v2) (h3:T.get i3=some v3) (h4:T.get i4=some v4):TLe T [(i0,v0),(i1,v1),(i2,v2),(i3,v3),(i4,v4)]:=TLe.cons' h0 (TLe.cons' h1 (TLe.cons' h2 (TLe.cons' h3 (TLe.cons' h4 (TLe.nil T)))))
theorem tl6 {T:Tmps} {i0 i1 i2 i3 i4 i5:Nat} {v0 v1 v2 v3 v4 v5:AV} (h0:T.get i0=some v0) (h1:T.get i1=some v1) (h2:T.get i2=some v2) (h3:T.get i3=some v3) (h4:T.get i4=some v4) (h5:T.get i5=some v5):TLe T [(i0,v0),(i1,v1),(i2,v2),(i3,v3),(i4,v4),(i5,v5)]:=TLe.cons' h0 (TLe.cons' h1 (TLe.cons' h2 (TLe.cons' h3 (TLe.cons' h4 (TLe.cons' h5 (TLe.nil T))))))
theorem tl7 {T:Tmps} {i0 i1 i2 i3 i4 i5 i6:Nat} {v0 v1 v2 v3 v4 v5 v6:AV} (h0:T.get i0=some v0) (h1:T.get i1=some v1) (h2:T.get i2=some v2) (h3:T.get i3=some v3) (h4:T.get i4=some v4) (h5:T.get i5=some v5) (h6:T.get i6=some v6):TLe T [(i0,v0),(i1,v1),(i2,v2),(i3,v3),(i4,v4),(i5,v5),(i6,v6)]:=TLe.cons' h0 (TLe.cons' h1 (TLe.cons' h2 (TLe.cons' h3 (TLe.cons' h4 (TLe.cons' h5 (TLe.cons' h6 (TLe.nil T)))))))
theorem tl8 {T:Tmps} {i0 i1 i2 i3 i4 i5 i6 i7:Nat} {v0 v1 v2 v3 v4 v5 v6 v7:AV} (h0:T.get i0=some v0) (h1:T.get i1=some v1) (h2:T.get i2=some v2) (h3:T.get i3=some v3) (h4:T.get i4=some v4) (h5:T.get i5=some v5) (h6:T.get i6=some v6) (h7:T.get i7=some v7):TLe T [(i0,v0),(i1,v1),(i2,v2),(i3,v3),(i4,v4),(i5,v5),(i6,v6),(i7,v7)]:=TLe.cons' h0 (TLe.cons' h1 (TLe.cons' h2 (TLe.cons' h3 (TLe.cons' h4 (TLe.cons' h5 (TLe.cons' h6 (TLe.cons' h7 (TLe.nil T))))))))
theorem tl9 {T:Tmps} {i0 i1 i2 i3 i4 i5 i6 i7 i8:Nat} {v0 v1 v2 v3 v4 v5 v6 v7 v8:AV} (h0:T.get i0=some v0) (h1:T.get i1=some v1) (h2:T.get i2=some v2) (h3:T.get i3=some v3) (h4:T.get i4=some v4) (h5:T.get i5=some v5) (h6:T.get i6=some v6) (h7:T.get i7=some v7) (h8:T.get i8=some v8):TLe T [(i0,v0),(i1,v1),(i2,v2),(i3,v3),(i4,v4),(i5,v5),(i6,v6),(i7,v7),(i8,v8)]:=TLe.cons' h0 (TLe.cons' h1 (TLe.cons' h2 (TLe.cons' h3 (TLe.cons' h4 (TLe.cons' h5 (TLe.cons' h6 (TLe.cons' h7 (TLe.cons' h8 (TLe.nil T)))))))))
theorem rets {Rt:AV→St→Prop} {fn:Func} {T':Tmps} {st':St} {vs:List AV} {v:AV} {st1:St} (h:resA P st' T' fn.results.toList=some vs) (hl:Le (packA vs) v) (hs:StLe st' st1) (hR:Rt v st1) :
  ∃ vs v st1,resA P st' T' fn.results.toList=some vs∧Le (packA vs) v∧StLe st' st1∧Rt v st1:=⟨vs,v,st1,h,hl,hs,hR⟩

end
end Go.AM
namespace Go.AM
open Go.RowKit (Below)
section
variable {P:Program} {n:Nat} {K:Post} {E:EPost} {T:Tmps} {st:St} {ops:Array Oper} {rest:List Oper}
variable {ty:TypeId} {pos:String} {es:Array Edge} {gd:Option (Nat × Bool)} {d:Tmp} {x y:Operand} {dd:Option Tmp}

theorem St.drop_set_self (st:St) (o:Nat) (c:AObj):(st.drop o).set o c=st.set o c:=by
 simp only [St.drop,St.set]
 congr 1
 funext p
 by_cases h:p=o <;> simp [h]

theorem St.set_drop {st:St} {o p:Nat} (h:o≠p) (c:AObj):(st.drop p).set o c=(st.set o c).drop p:=by
 simp only [St.drop,St.set]
 congr 1
 funext q
 by_cases h1:q=o
 ·subst h1; simp [h]
 ·simp [h1]

theorem StLe.regrow {st:St} {o o':Nat} {c c':AObj} (h:st.obj o=none):StLe (((st.set o c).drop o).set o' c') (st.set o' c') :=
 ⟨fun p x hp=>by
  by_cases h1:p=o'
  ·subst h1; rw [St.obj_set] at hp ⊢; exact hp
  ·rw [St.obj_set_ne h1] at hp ⊢;have h2:p≠o:=St.ne_of_new h hp;rw [St.obj_drop_ne h2,St.obj_set_ne h2];exact hp,fun _ h=>h,rfl⟩

theorem append_msl {g:G} {w:World} (hs:Sim g w st) {t e:TypeId} {sz by_:Nat} {ez:Value} [hu:Und P t (.slice e)] [hie:Inf P e sz by_ ez] (hsz:0 < sz) (hz:zok sz ez=true) {ty:TypeId} {o len:Nat} {rows rows2:List (List AV)} {tk2:Tok} {ux uy:Value}
  (h1:R g w (.msl o sz 0 len) ux) (ho:st.obj o=some (.cells e sz rows)) (hlr:len≤rows.length) (h2:R g w (.view sz rows2 tk2) uy) (h0:rows2≠[]) (hb:(len + rows2.length) * by_≤140737488355328) (hm:len + rows2.length≤maxLen) :
  ∃ v w' g' o',(Builtin.append_ #[t,t] ty #[ux,uy]).run P w=.ok v w'∧Ext g w g' w'∧Sim g' w' ((st.drop o).set o' (.cells e sz (rows.take len++rows2)))∧R g' w' (.msl o' sz 0 (len + rows2.length)) v∧(o'=o∨st.obj o'=none):=by
 obtain ⟨z1,z2,z3,z4⟩:=zok_spec hz;obtain ⟨inf,i1,i2,i3,i4⟩:=hie.out;obtain ⟨base2,cap2,f2,rfl,hnil2,hR2,hl2,h12,hcell2,hone2⟩:=src_of h2;have hm64:len + rows2.length≤9223372036854775807:=by simp only [maxLen] at hm; omega
 have hpos:0 < rows2.length:=List.length_pos_iff.2 h0;obtain ⟨ad,rfl⟩:∃ ad,base2=some ad:=by
  cases base2 with
  | none=>exact absurd (hnil2 rfl).1 h0
  | some ad=>exact ⟨ad,rfl⟩
 subst i2;cases h1 with
 | msl _ _ _ _ cap b m hob hc hmx hfit0 =>
  obtain ⟨hbase,⟨arr,ha,hasz,hml,hl,h1',hcell⟩,hnimm⟩:=hs.objOf ho hob;simp only [Nat.zero_mul,Nat.zero_add] at hfit0 ⊢;have hlt:(rows.take len).length=len:=by simp; omega
  have hlrow:∀ row ∈ rows.take len++rows2,row.length=inf.size:=fun row hr=>by
   rcases List.mem_append.1 hr with h|h
   ·exact hl row (List.mem_of_mem_take h)
   ·exact hl2 row h
  have h1row:∀ row ∈ rows.take len++rows2,∀ c ∈ row,c.one=true:=fun row hr=>by
   rcases List.mem_append.1 hr with h|h
   ·exact h1' row (List.mem_of_mem_take h)
   ·exact h12 row h
  have hll:(rows.take len++rows2).length=len + rows2.length:=by rw [List.length_append,hlt]
  let f:Nat→Nat→Value:=fun i j=>arr.getD (i * inf.size + j) undef
  have hfR:∀ (i j:Nat) row c,(rows.take len)[i]?=some row→row[j]?=some c→R g w c (f i j):=by
   intro i j row c hr hcj;have hi:i < len:=by have:=(List.getElem?_eq_some_iff.1 hr).1; rwa [hlt] at this
   rw [List.getElem?_take_of_lt hi] at hr;obtain ⟨v,hv1,hv2⟩:=hcell i j row c hr hcj;show R g w c (arr.getD _ _);rw [Array.getD_eq_getD_getElem?,hv1];exact hv2
  by_cases hroom:len + rows2.length≤cap
  ·
   have hfit:len * inf.size + (flatV f2 rows2.length inf.size).length≤arr.size:=by
    rw [flatV_length,hasz,← Nat.add_mul];exact Nat.le_trans (Nat.mul_le_mul_right _ hroom) hfit0
   have hr:=run_append_room (P:=P) w t ty e inf hu.out i1 b len cap arr ha ad rows2.length cap2 (flatV f2 rows2.length inf.size) (flatV_length _ _ _) (hcell2 ad rfl) hone2 hroom hfit;rw [flatV_length] at hfit hr;generalize harr:(arr.toList.take (len * inf.size)++flatV f2 rows2.length inf.size++arr.toList.drop (len * inf.size + rows2.length * inf.size)).toArray=arr' at hr;have hmin:min (len * inf.size) arr.size=len * inf.size:=by omega
   have hlow:∀ i,i < len * inf.size→arr'[i]?=arr[i]?:=by
    intro i hi;rw [← harr,List.getElem?_toArray,List.append_assoc,List.getElem?_append_left (by simp; omega),List.getElem?_take_of_lt hi,Array.getElem?_toList]
   have hmid:∀ q,q < rows2.length * inf.size→arr'[len * inf.size + q]?=(flatV f2 rows2.length inf.size)[q]?:=by
    intro q hq;rw [← harr,List.getElem?_toArray,List.append_assoc,List.getElem?_append_right (by simp; omega)];simp only [List.length_take,Array.length_toList,hmin];rw [Nat.add_sub_cancel_left,List.getElem?_append_left (by rw [flatV_length]; exact hq)]
   have hsize':arr'.size=m:=by
    rw [← harr,← hasz];simp only [List.size_toArray,List.length_append,List.length_take,List.length_drop,Array.length_toList,flatV_length];omega
   obtain ⟨he,hs'⟩:=hs.write (c':=.cells e inf.size (rows.take len++rows2)) ho hob (w.setRow b arr') (by simp) rfl rfl rfl (fun k hk=>setRow_other w b k arr' hk) (fun he=>by
    refine ⟨arr',setRow_heap w b arr arr' e (0,0) ha,hsize',?_,hlrow,h1row,fun i j row c hr hcj=>?_⟩
    ·rw [hll]; exact Nat.le_trans (Nat.mul_le_mul_right _ hroom) hfit0
    ·have hj:j < inf.size:=by rw [← hlrow row (List.mem_of_getElem? hr)]; exact (List.getElem?_eq_some_iff.1 hcj).1
     by_cases hi:i < len
     ·rw [List.getElem?_append_left (by rw [hlt]; exact hi),List.getElem?_take_of_lt hi] at hr;obtain ⟨v,hv1,hv2⟩:=hcell i j row c hr hcj;exact ⟨v,by rw [hlow _ (mul_add_lt hi hj)]; exact hv1,hv2.ext he⟩
     ·rw [List.getElem?_append_right (by rw [hlt]; omega),hlt] at hr;have hi2:i - len < rows2.length:=(List.getElem?_eq_some_iff.1 hr).1
      have e9:i * inf.size + j=len * inf.size + ((i - len) * inf.size + j):=by
       rw [← Nat.add_assoc,← Nat.add_mul]
       congr 2
       omega
      refine ⟨f2 (i - len) j,?_,(hR2 _ j row c hr hcj).ext he⟩;rw [e9,hmid _ (mul_add_lt hi2 hj),flatV_at f2 hi2 hj])
   refine ⟨_,_,g,o,hr,he,by rw [St.drop_set_self]; exact hs',?_,.inl rfl⟩;have:=R.msl (g:=g) (w:=w.setRow b arr') o inf.size 0 (len + rows2.length) cap b m hob hroom hmx (by simpa using hfit0)
   simpa using this
  ·
   have holds:∀ (q:Nat) v,(flatV f len inf.size)[q]?=some v→w.cell? ((⟨b,0,none⟩:Addr).add q)=some v:=by
    intro q v hq;obtain ⟨h2',rfl⟩:=flatV_get hq;have hq':q < arr.size:=by
     rw [hasz];exact Nat.lt_of_lt_of_le h2' (Nat.le_trans (Nat.mul_le_mul_right _ hc) hfit0)
    rw [addr_add,Nat.zero_add,cell_of_row w b _ arr e (0,0) ha];show arr[q]?=some (arr.getD _ _);rw [Nat.mul_comm (q / inf.size) inf.size,Nat.div_add_mod,Array.getD_eq_getD_getElem?,Array.getElem?_eq_getElem hq'];rfl
   have hr:=run_append_grow (P:=P) w t ty e inf ez hu.out i1 i4 ⟨b,0,none⟩ len cap (flatV f len inf.size) (flatV_length _ _ _) holds ad rows2.length cap2 (flatV f2 rows2.length inf.size) (flatV_length _ _ _) (hcell2 ad rfl) (by omega) (by omega)
    (growslice_fits (by omega) (by rw [i3]; exact hb))
   have hge:=grownCap_ge w (len + rows2.length) cap e
   have hgm:=grownCap_le_maxLen w (len + rows2.length) cap e hm;obtain ⟨hed,hsd⟩:=hs.draw;generalize hcp:grownCap w (len + rows2.length) cap e=cp at hr hge hgm;generalize harr:(flatV f len inf.size).toArray++(flatV f2 rows2.length inf.size).toArray++Builtin.zeroCells ez.cells (cp - (len + rows2.length))=arr' at hr;have hsize':arr'.size=cp * inf.size:=by
    rw [← harr];simp only [Array.size_append,List.size_toArray,flatV_length,size_zeroCells,z1,← Nat.add_mul]
    congr 1
    omega
   obtain ⟨g',he,hs',hob',hnone⟩:=hsd.newObj (.cells arr' e) (.cells e inf.size (rows.take len++rows2)) (cp * inf.size) (fun g' he=>by
    refine ⟨arr',heap_alloc_new _ _,hsize',?_,hlrow,h1row,fun i j row c hr hcj=>?_⟩
    ·rw [hll]; exact Nat.mul_le_mul_right _ hge
    ·have hap:=appended_get (g:=g) (w:=w) (rows:=rows.take len) (rows2:=rows2) (f:=f) (f2:=f2) (sz:=inf.size) (fun row hr=>hl row (List.mem_of_mem_take hr)) hl2 hfR hR2 (Builtin.zeroCells ez.cells (cp - (len + rows2.length))).toList i j row c hr hcj;rw [hlt] at hap;obtain ⟨v,hv,hR⟩:=hap;refine ⟨v,?_,(hR.ext hed).ext he⟩;rw [← harr,← Array.getElem?_toList]
     simpa using hv)
   have hne:g.next≠o:=fun e=>by rw [← e] at ho; rw [ho] at hnone; cases hnone
   refine ⟨_,_,g',g.next,hr,hed.trans he,?_,?_,.inr hnone⟩
   ·rw [St.set_drop hne];exact hs'.le (StLe.drop o)
   ·have:=R.msl (g:=g') (w:=w.drew.alloc (.cells arr' e)) g.next inf.size 0 (len + rows2.length) cp w.drew.heap.size (cp * inf.size) hob' hge hgm (by simp)
    simpa using this

theorem apm {t e:TypeId} {sz by_:Nat} {ez:Value} [hu:Und P t (.slice e)] [hie:Inf P e (sz + 1) by_ ez] {o len:Nat} {rows rows2:List (List AV)} {tk2:Tok}
  (hg:goes ops n T ⟨dd,.call ⟨.builtin .append,#[x,y],#[t,t]⟩,ty,pos,es,gd⟩=some d) (hx:ev st T x=some (.msl o (sz + 1) 0 len)) (hy:ev st T y=some (.view (sz + 1) rows2 tk2)) (ho:st.obj o=some (.cells e (sz + 1) rows))
  (hlr:len≤rows.length) (h0:rows2≠[]) (hz:zok (sz + 1) ez=true) (hb:(len + rows2.length) * by_≤140737488355328) (hm:len + rows2.length≤maxLen)
  (k:∀ o',(o'=o∨st.obj o'=none)→AOps P n ops rest K E ((d,.msl o' (sz + 1) 0 (len + rows2.length))::T) ((st.drop o).set o' (.cells e (sz + 1) (rows.take len++rows2)))) :
  AOps P n ops (⟨dd,.call ⟨.builtin .append,#[x,y],#[t,t]⟩,ty,pos,es,gd⟩::rest) K E T st:=by
 refine AOps.stepAny hg fun g w a hs hk=>?_;have h1:=ev_R hs hk hx
 have h2:=ev_R hs hk hy;generalize hux:a.eval x=ux at h1;generalize huy:a.eval y=uy at h2;obtain ⟨v,w',g',o',hr,he,hs',hR,hf⟩:=append_msl (P:=P) hs (t:=t) (ty:=ty) (Nat.succ_pos sz) hz h1 ho hlr h2 h0 hb hm;exact ⟨v,g',w',_,_,by simp [execOp,resolve,invoke,builtin,hux,huy,hr],he,hs',hR,k o' hf⟩

end
end Go.AM
namespace Go.AM
open Go.RowKit (Below)
def slot (sz:Nat) (e:TypeId) (rows:List (List AV)):Option Nat→AV
 | none=>.view 0 [] .nil
 | some k=>.view sz rows (.own k e)

def St.toks (st:St) (L:List (Option Nat)):St:={ st with tok:=fun t=>decide (some t ∈ L) || st.tok t }

structure TokL (st:St) (L:List (Option Nat)):Prop where
 one:∀ (i j t:Nat),L[i]?=some (some t)→L[j]?=some (some t)→i=j
 fresh:∀ (i t:Nat),L[i]?=some (some t)→st.tok t=false

theorem TokL.none (st:St) (m:Nat):TokL st (List.replicate m none) where
 one:=fun i j t h=>by simp [List.getElem?_replicate] at h
 fresh:=fun i t h=>by simp [List.getElem?_replicate] at h

theorem St.toks_none (st:St) (m:Nat):st.toks (List.replicate m none)=st:=by
 cases st;simp [St.toks,List.mem_replicate]

theorem St.toks_tok {st:St} {L:List (Option Nat)} {i t:Nat} (h:L[i]?=some (some t)):(st.toks L).tok t=true:=by
 simp [St.toks,List.mem_of_getElem? h]

theorem TokL.set {st:St} {L:List (Option Nat)} (h:TokL st L) {k':Nat} (hf:(st.toks L).tok k'=false) (i:Nat):TokL st (L.set i (some k')):=by
 simp only [St.toks,Bool.or_eq_false_iff,decide_eq_false_iff_not] at hf;have key:∀ (j t:Nat),(L.set i (some k'))[j]?=some (some t)→(j=i∧t=k')∨(j≠i∧L[j]?=some (some t)):=by
  intro j t hj;rw [List.getElem?_set] at hj;split at hj
  ·rename_i e;split at hj
   ·simp only [Option.some.injEq] at hj; exact .inl ⟨e.symm,hj.symm⟩
   ·cases hj
  ·rename_i e; exact .inr ⟨fun h=>e h.symm,hj⟩
 refine ⟨fun j1 j2 t h1 h2=>?_,fun j t hj=>?_⟩
 ·rcases key j1 t h1 with ⟨e1,e2⟩|⟨e1,e2⟩ <;> rcases key j2 t h2 with ⟨e3,e4⟩|⟨e3,e4⟩
  ·omega
  ·subst e2; exact absurd (List.mem_of_getElem? e4) hf.1
  ·subst e4; exact absurd (List.mem_of_getElem? e2) hf.1
  ·exact h.one j1 j2 t e2 e4
 ·rcases key j t hj with ⟨_,rfl⟩|⟨_,e2⟩
  ·exact hf.2
  ·exact h.fresh j t e2

theorem StLe.toksSet {st:St} {L:List (Option Nat)} (h:TokL st L) {i:Nat} {o:Option Nat} (ho:L[i]?=some o) (k':Nat) :
  StLe ((match o with|none=>st.toks L|some k=>(st.toks L).untok k).addTok k') (st.toks (L.set i (some k'))):=by
 refine ⟨fun p c hp=>by cases o <;> exact hp,fun t ht=>?_,by cases o <;> rfl⟩
 simp only [St.toks,Bool.or_eq_true,decide_eq_true_eq] at ht;have hold:t≠k'→(∃ j,j≠i∧L[j]?=some (some t))∨st.tok t=true:=by
  intro hne;rcases ht with ht|ht
  ·obtain ⟨j,hj⟩:=List.getElem?_of_mem ht;rw [List.getElem?_set] at hj;split at hj
   ·split at hj
    ·simp only [Option.some.injEq] at hj; exact absurd hj.symm hne
    ·cases hj
   ·rename_i e; exact .inl ⟨j,fun h=>e h.symm,hj⟩
  ·exact .inr ht
 by_cases hk:t=k'
 ·subst hk; cases o <;> simp [St.addTok]
 ·have hin:(st.toks L).tok t=true:=by
   rcases hold hk with ⟨j,_,hj⟩|h'
   ·exact St.toks_tok hj
   ·simp [St.toks,h']
  cases o with
  | none=>simp only [St.addTok,hk,if_false]; exact hin
  | some k =>
   simp only [St.addTok,St.untok,hk,if_false];have hne:t≠k:=by
    rintro rfl;rcases hold hk with ⟨j,hji,hj⟩|h'
    ·exact hji (h.one j i t hj ho)
    ·rw [h.fresh i t ho] at h'; cases h'
   simp only [hne,if_false];exact hin

section
variable {P:Program} {n:Nat} {K:Post} {E:EPost} {T:Tmps} {st:St} {ops:Array Oper} {rest:List Oper}
variable {ty:TypeId} {pos:String} {es:Array Edge} {gd:Option (Nat × Bool)} {d:Tmp} {x y:Operand} {dd:Option Tmp}

theorem apx {t e:TypeId} {sz by_:Nat} {ez:Value} [hu:Und P t (.slice e)] [hie:Inf P e (sz + 1) by_ ez] {L:List (Option Nat)} {o:Option Nat} {rows rows2:List (List AV)} {tk2:Tok} (i:Nat)
  (hg:goes ops n T ⟨dd,.call ⟨.builtin .append,#[x,y],#[t,t]⟩,ty,pos,es,gd⟩=some d) (hx:ev (st.toks L) T x=some (slot (sz + 1) e rows o)) (hy:ev (st.toks L) T y=some (.view (sz + 1) rows2 tk2))
  (hL:TokL st L) (hi:L[i]?=some o) (hr:o=none→rows=[])
  (hz:zok (sz + 1) ez=true) (hb:(rows.length + rows2.length) * by_≤140737488355328) (hm:rows.length + rows2.length≤maxLen)
  (k:∀ k',TokL st (L.set i (some k'))→AOps P n ops rest K E ((d,.view (sz + 1) (rows++rows2) (.own k' e))::T) (st.toks (L.set i (some k')))) :
  AOps P n ops (⟨dd,.call ⟨.builtin .append,#[x,y],#[t,t]⟩,ty,pos,es,gd⟩::rest) K E T (st.toks L):=by
 cases o with
 | none =>
  have hr':=hr rfl;subst hr';refine apn hg hx hy hz (by simpa using hb) (by simpa using hm) fun k' hk'=>?_;exact AOps.weaken (TLe.refl _) (StLe.toksSet hL hi k') (by simpa using k k' (hL.set hk' i))
 | some k0 =>
  refine ap hg hx hy (St.toks_tok hi) hz hb hm fun k' hk'=>?_;exact AOps.weaken (TLe.refl _) (StLe.toksSet hL hi k') (k k' (hL.set hk' i))

end
end Go.AM
namespace Go.AM
open Go.RowKit (Below)
section
variable {P:Program} {n:Nat} {K:Post} {E:EPost} {T:Tmps} {st:St} {ops:Array Oper} {rest:List Oper}
variable {ty:TypeId} {pos:String} {es:Array Edge} {gd:Option (Nat × Bool)} {d:Tmp} {x y:Operand} {dd:Option Tmp}

theorem midk {c c':Code} (T':Tmps) (st':St) (h:AWP P n c (fun T1 st1=>TLe T1 T'∧StLe st1 st') E T st) (k:AWP P n c' K E T' st'):AWP P n c (AWP P n c' K E) E T st :=
 AWP.mono h (fun _ _ ⟨h2,h3⟩=>AWP.weaken h2 h3 k) (fun _ _ _ he=>he)

end
end Go.AM
namespace Go.AM
open Go.RowKit (Below)
section
variable {P:Program} {n:Nat} {K:Post} {E:EPost} {T:Tmps} {st:St} {ops:Array Oper} {rest:List Oper}

def G.over (g:G) (w w':World) (g':G):G:={ g with imm:=fun b i=>g.imm b i∨(w.heap.size≤b∧b < w'.heap.size∧g'.imm b i) }

def St.bare:St:={ obj:=fun _=>none,tok:=fun _=>false,glob:=[] }

theorem resC {t:Tmp} {ty oty:TypeId} {td:TypeDesc} {sz by_:Nat} {z:Value} {o s i off:Nat} {rows:List (List AV)} {row:List AV} {v:AV} {r:List ResultVar} {vs:List AV} [hu:Und P ty td] [hi:Inf P ty sz by_ z]
  (ht:T.get t=some (.cptr o s i off)) (ho:st.obj o=some (.cells oty s rows)) (hr:rows[i]?=some row) (hv:sel (aggD td) sz row off=some v) (h:resA P st T r=some vs):resA P st T (.cell t ty::r)=some (v::vs):=by
 obtain ⟨inf,h1,h2,_⟩:=hi.out;unfold resA;simp only [ht,hu.out,h1,h,ho,nbeq_self,cond_true,hr,h2,hv]

theorem resCW {t:Tmp} {ty oty:TypeId} {td:TypeDesc} {sz by_:Nat} {z:Value} {o s i:Nat} {rows:List (List AV)} {row:List AV} {r:List ResultVar} {vs:List AV} [hu:Und P ty td] [hi:Inf P ty sz by_ z]
  (ht:T.get t=some (.cptr o s i 0)) (ho:st.obj o=some (.cells oty s rows)) (hr:rows[i]?=some row) (ha:aggD td=true) (hl:Nat.beq sz row.length=true) (h:resA P st T r=some vs):resA P st T (.cell t ty::r)=some (.agg row::vs) :=
 resC ht ho hr (by rw [ha]; exact sel_all hl) h

end
end Go.AM
namespace Go.AM
section
variable {P:Program} {n:Nat} {K:Post} {E:EPost} {T:Tmps} {st:St} {ops:Array Oper} {rest:List Oper}
variable {d:Tmp} {dd:Option Tmp} {x y:Operand} {ty:TypeId} {pos:String} {es:Array Edge} {gd:Option (Nat × Bool)}

theorem sel_one {row:List AV} {sz off:Nat} {v:AV} (h:row[off]?=some v):sel false sz row off=some v:=h

theorem R.sliced {g:G} {w:World} {sz:Nat} {rows:List (List AV)} {tk:Tok} {rv:Value} (h:R g w (.view sz rows tk) rv) {lo hi:Nat} (h1:lo≤hi) (h2:hi≤rows.length) :
  ∃ base cap,rv=.slice base rows.length cap∧rows.length≤cap∧R g w (.view sz ((rows.drop lo).take (hi - lo)) .shared) (_root_.Go.sliced base lo hi cap sz):=by
 cases h with
 | vnil =>
  have:lo=0:=by simp at h2; omega
  subst this;have:hi=0:=by simpa using h2
  subst this;exact ⟨none,0,rfl,Nat.le_refl _,.vnil _ _ trivial⟩
 | vemp _ _ a =>
  have:lo=0:=by simp at h2; omega
  subst this;have:hi=0:=by simpa using h2
  subst this;refine ⟨some a,0,rfl,Nat.le_refl _,?_⟩;simp only [_root_.Go.sliced,if_true,Nat.sub_zero];exact .vemp _ _ _ (fun h=>by cases h) trivial
 | view _ _ _ b off cap f hc hm hsz h1' ht himm hh =>
  refine ⟨some ⟨b,off,none⟩,cap,rfl,hc,?_⟩;by_cases hcl:cap=lo
  ·have e1:hi - lo=0:=by omega
   simp only [_root_.Go.sliced,hcl,if_true,e1,List.take_zero,Nat.sub_self];exact .vemp _ _ _ (fun h=>by cases h) trivial
  ·have hlen:((rows.drop lo).take (hi - lo)).length=hi - lo:=by simp; omega
   have key:=R.view (g:=g) (w:=w) sz ((rows.drop lo).take (hi - lo)) .shared b (off + lo * sz) (cap - lo) (fun i j=>f (lo + i) j) (by rw [hlen]; omega) (by omega)
    (fun row hr=>hsz row (List.mem_of_mem_drop (List.mem_of_mem_take hr))) (fun row hr=>h1' row (List.mem_of_mem_drop (List.mem_of_mem_take hr))) trivial
    (fun i j hi' hj=>by
     rw [hlen] at hi';have:=himm (lo + i) j (by omega) hj;rw [Nat.add_mul] at this;rw [show off + lo * sz + (i * sz + j)=off + (lo * sz + i * sz + j) by omega];exact this)
    (fun i j row c hr hcj=>by
     have hi':i < hi - lo:=by
      have:=(List.getElem?_eq_some_iff.1 hr).1;rw [hlen] at this;exact this
     rw [List.getElem?_take_of_lt hi',List.getElem?_drop] at hr;exact hh (lo + i) j row c hr hcj)
   rw [hlen] at key;simp only [_root_.Go.sliced,hcl,if_false,Option.map_some,addr_add];exact key

theorem svh {t e:TypeId} [hu:Und P t (.slice e)] {sz by_:Nat} {ez:Value} [hie:Inf P e sz by_ ez] {rows:List (List AV)} {tk:Tok} {b:Nat} {k:IntKind}
  (hg:goes ops n T ⟨dd,.slice t x none (some y) none,ty,pos,es,gd⟩=some d) (hx:ev st T x=some (.view sz rows tk)) (hy:ev st T y=some (.int k (b:Int))) (hb:b≤rows.length)
  (kk:AOps P n ops rest K E ((d,.view sz (rows.take b) .shared)::T) st):AOps P n ops (⟨dd,.slice t x none (some y) none,ty,pos,es,gd⟩::rest) K E T st:=by
 obtain ⟨hw,hd,hok⟩:=goes_some hg;simp only at hd;subst hd;refine AOps.pure hw hok _ (fun g w a' hs hk=>?_) kk;have h1:=ev_R hs hk hx
 have h2:=ev_R hs hk hy;generalize hux:a'.eval x=ux at h1;generalize huy:a'.eval y=uy at h2;cases h2;obtain ⟨base,cap,rfl,hc,hR⟩:=h1.sliced (Nat.zero_le b) hb;rw [List.drop_zero,Nat.sub_zero] at hR;have he:P.elem t=e:=by simp [Program.elem,hu.out]
 have hr:=run_slice_h (P:=P) w t base rows.length cap (by rw [he]; exact hu.out) k b (by omega) (by omega);refine ⟨_,?_,hR⟩;simp [execOp,hux,huy,run_sliceAt_slice (P:=P) w t _ _ _ _ (by rw [he]; exact hu.out),hr,he,run_size (P:=P) (t:=e) w]

end
end Go.AM
namespace Go.AM
open Go.RowKit (Below)
section
variable {P:Program} {n:Nat} {K:Post} {E:EPost} {T:Tmps} {st:St} {ops:Array Oper} {rest:List Oper}
variable {d:Tmp} {dd:Option Tmp} {x y z:Operand} {ty:TypeId} {pos:String} {es:Array Edge} {gd:Option (Nat × Bool)}

theorem sx {t:TypeId} [hu:Und P t .string] {l:List UInt8} {k:IntKind} {i:Int} {m:Nat} {c:UInt8} (hg:goes ops n T ⟨dd,.index t x y,ty,pos,es,gd⟩=some d)
  (hx:ev st T x=some (.str l)) (hy:ev st T y=some (.int k i)) (hi:i=m) (hc:l[m]?=some c)
  (h:AOps P n ops rest K E ((d,.int .u8 c.toNat)::T) st):AOps P n ops (⟨dd,.index t x y,ty,pos,es,gd⟩::rest) K E T st:=by
 obtain ⟨hw,hd,hok⟩:=goes_some hg;simp only at hd;subst hd;exact AOps.strIndex hw hok hx hy hi hc h

theorem ssl {t:TypeId} [hu:Und P t .string] {l:List UInt8} {k:IntKind} {a:Nat} (hg:goes ops n T ⟨dd,.slice t x (some y) none none,ty,pos,es,gd⟩=some d)
  (hx:ev st T x=some (.str l)) (hy:ev st T y=some (.int k (a:Int))) (ha:a≤l.length)
  (h:AOps P n ops rest K E ((d,.str (l.drop a))::T) st):AOps P n ops (⟨dd,.slice t x (some y) none none,ty,pos,es,gd⟩::rest) K E T st:=by
 obtain ⟨hw,hd,hok⟩:=goes_some hg;simp only at hd;subst hd;refine AOps.sliceStr (a:=a) (b:=l.length) hw hok hx (.inr ⟨y,k,rfl,hy⟩) (.inl ⟨rfl,rfl⟩) ha (Nat.le_refl _) ?_;rw [List.take_of_length_le (by simp)];exact h
theorem ssh {t:TypeId} [hu:Und P t .string] {l:List UInt8} {k:IntKind} {b:Nat} (hg:goes ops n T ⟨dd,.slice t x none (some y) none,ty,pos,es,gd⟩=some d)
  (hx:ev st T x=some (.str l)) (hy:ev st T y=some (.int k (b:Int))) (hb:b≤l.length)
  (h:AOps P n ops rest K E ((d,.str (l.take b))::T) st):AOps P n ops (⟨dd,.slice t x none (some y) none,ty,pos,es,gd⟩::rest) K E T st:=by
 obtain ⟨hw,hd,hok⟩:=goes_some hg;simp only at hd;subst hd;refine AOps.sliceStr (a:=0) (b:=b) hw hok hx (.inl ⟨rfl,rfl⟩) (.inr ⟨y,k,rfl,hy⟩) (Nat.zero_le _) hb ?_;rw [List.drop_zero,Nat.sub_zero];exact h
theorem sad {t u:TypeId} {a b:List UInt8} (hg:goes ops n T ⟨dd,.binOp .add t x y u,ty,pos,es,gd⟩=some d)
  (hx:ev st T x=some (.str a)) (hy:ev st T y=some (.str b)) (hl:a.length + b.length≤9223372036854775807)
  (h:AOps P n ops rest K E ((d,.str (a++b))::T) st):AOps P n ops (⟨dd,.binOp .add t x y u,ty,pos,es,gd⟩::rest) K E T st:=by
 obtain ⟨hw,hd,hok⟩:=goes_some hg;simp only at hd;subst hd;exact AOps.strAdd hw hok hx hy hl h

theorem sbk {t u:TypeId} {k:IntKind} {a b c:Int} (hg:goes ops n T ⟨dd,.binOp .sub t x y u,ty,pos,es,gd⟩=some d)
  (hx:ev st T x=some (.int k a)) (hy:ev st T y=some (.int k b)) (hc:k.wrap (a - b)=c)
  (h:AOps P n ops rest K E ((d,.int k c)::T) st):AOps P n ops (⟨dd,.binOp .sub t x y u,ty,pos,es,gd⟩::rest) K E T st:=by
 obtain ⟨hw,hd,hok⟩:=goes_some hg;simp only at hd;subst hd;exact AOps.sub hw hok hx hy hc h
theorem mlk {t u:TypeId} {k:IntKind} {a b c:Int} (hg:goes ops n T ⟨dd,.binOp .mul t x y u,ty,pos,es,gd⟩=some d)
  (hx:ev st T x=some (.int k a)) (hy:ev st T y=some (.int k b)) (hc:k.wrap (a * b)=c)
  (h:AOps P n ops rest K E ((d,.int k c)::T) st):AOps P n ops (⟨dd,.binOp .mul t x y u,ty,pos,es,gd⟩::rest) K E T st:=by
 obtain ⟨hw,hd,hok⟩:=goes_some hg;simp only at hd;subst hd;exact AOps.mul hw hok hx hy hc h
theorem cv {t u:TypeId} {ds:TypeDesc} {k k':IntKind} [Und P t ds] [hu:Und P u (.int k')] {a c:Int} (hg:goes ops n T ⟨dd,.convert t u x,ty,pos,es,gd⟩=some d)
  (hx:ev st T x=some (.int k a)) (hc:k'.wrap a=c) (h:AOps P n ops rest K E ((d,.int k' c)::T) st):AOps P n ops (⟨dd,.convert t u x,ty,pos,es,gd⟩::rest) K E T st:=by
 obtain ⟨hw,hd,hok⟩:=goes_some hg;simp only at hd;subst hd;exact AOps.convInt hw hok hx hc h

def brow8 (b:UInt8):List AV:=[.int .u8 b.toNat]

theorem cbs {t u e:TypeId} [hut:Und P t (.slice e)] [hue:Und P e (.int .u8)] [huu:Und P u .string] {l:List UInt8} {tk:Tok} (hg:goes ops n T ⟨dd,.convert t u x,ty,pos,es,gd⟩=some d)
  (hx:ev st T x=some (.view 1 (l.map brow8) tk)) (h:AOps P n ops rest K E ((d,.str l)::T) st):AOps P n ops (⟨dd,.convert t u x,ty,pos,es,gd⟩::rest) K E T st:=by
 obtain ⟨hw,hd,hok⟩:=goes_some hg;simp only at hd;subst hd;refine AOps.pure hw hok _ (fun g w a hs hk=>?_) h;have h1:=ev_R hs hk hx;generalize hux:a.eval x=ux at h1;have hex:∀ v,(convert t u ux).run P w=.ok v w→(execOp a.eval ⟨some d,.convert t u x,ty,pos,es,gd⟩).run P w=.ok (.value v) w:=by
  intro v hv;simp only [execOp,hux,Sem.run_bind,hv,Result.andThen_ok,Sem.run_pure]
 generalize hr:l.map brow8=rows at h1;have hlen:rows.length=l.length:=by rw [← hr]; simp
 cases h1 with
 | vnil =>
  have:l=[]:=List.eq_nil_of_length_eq_zero (by simpa using hlen.symm);subst this;exact ⟨_,hex _ (run_convert_bytes_nil w t e hut.out hue.out 0 0 u huu.out),.str []⟩
 | vemp _ _ ad =>
  have:l=[]:=List.eq_nil_of_length_eq_zero (by simpa using hlen.symm);subst this;exact ⟨_,hex _ (run_convert_bytes_back w t u e ad 0 [] hut.out hue.out huu.out (fun j hj=>by simp at hj)),.str []⟩
 | view _ _ _ b off cap f hc hm hsz h1' ht himm hh =>
  have:=run_convert_bytes_back (P:=P) w t u e ⟨b,off,none⟩ cap l hut.out hue.out huu.out (fun j hj=>by
   have h2:=(himm j 0 (by omega) (by omega)).2;rw [Nat.mul_one,Nat.add_zero] at h2;rw [addr_add,h2];have hrow:rows[j]?=some (brow8 l[j]):=by rw [← hr]; simp [hj]
   have h3:=hh j 0 _ _ hrow rfl;generalize f j 0=q at h3;cases h3;rfl)
  rw [← hlen] at this;exact ⟨_,hex _ this,.str l⟩

theorem AOps.callV {d:Option Tmp} {f:FuncId} [hf:GoFun P f] {args:Array Operand} {tys:Array TypeId} {avs:List AV} {Rt RP:AV→St→Prop} (hx:ev st T x=some (.func (.func f) [] []))
  (hw:wantedA ops T ⟨d,.call ⟨.value x,args,tys⟩,ty,pos,es,gd⟩=some true) (hd:dstOk d n=true) (ha:evs st T args.toList=some avs)
  (hc:ACalls P f avs st Rt RP) (h:∀ v st',Rt v st'→AOps P n ops rest K E (T.put d v) st') (hp:∀ v st',RP v st'→E (.panic v) T st') :
  AOps P n ops (⟨d,.call ⟨.value x,args,tys⟩,ty,pos,es,gd⟩::rest) K E T st:=by
 intro g w a hs hk hn;obtain ⟨hl,hr⟩:=evs_R hs hk _ _ ha;obtain ⟨fn,h1,h2,h3⟩:=hf.out;have hxR:=ev_R hs hk hx;generalize hux:a.eval x=ux at hxR;have hux':ux=.func (.func f) #[] #[]:=by
  cases hxR with
  | func _ _ _ vs us hl1 hl2 _ _ =>
   have e1:vs=#[]:=Array.eq_empty_of_size_eq_zero (by simpa using hl1.symm)
   have e2:us=#[]:=Array.eq_empty_of_size_eq_zero (by simpa using hl2.symm);rw [e1,e2]
 subst hux';have hcall:=hc g w (args.map a.eval) hs (by simpa using hl) (fun i c v hc hv=>hr i c v hc (by simpa using hv));unfold wpList;rw [wanted_of hk hw,if_pos rfl]
 left
 have hrun:(execOp a.eval ⟨d,.call ⟨.value x,args,tys⟩,ty,pos,es,gd⟩).run P w=.ok (.enter f (args.map a.eval)) w:=by
  have h2':¬ fn.body=none:=by intro e; simp [e] at h2
  have h3' : ¬ fn.name = "runtime.NumGoroutine" := by simpa using h3
  simp [execOp,resolve,hux,Deferred.ofValue,invoke,callFunc,h1,h2',h3']
 unfold Oper.wp;rw [hrun];simp only [Oper.upon];refine hcall.mono fun e w' ⟨g',st',he,hs',hq⟩=>?_;cases e with
 | returned rv =>
  obtain ⟨v,hR,hRt⟩:=hq;have h4:=h v st' hRt g' w' (a.put d rv) hs' ((hk.ext he).put (fun t ht=>hn ▸ dstOk_lt hd t ht) hR) (by rw [Act.size_put]; exact hn);rw [Act.defers_put] at h4;exact wpList_mono (fun _ _ _ q=>QOf.ext he q) rest _ _ h4
 | panicked ch =>
  obtain ⟨pv,v,x1,x2,x3⟩:=hq;exact ⟨hn,rfl,g',T,st',he,hs',hk.ext he,pv,v,x1,x2,hp pv st' x3⟩
 | outgrown=>exact hq.elim

theorem clv {f:FuncId} [hf:GoFun P f] {args:Array Operand} {tys:Array TypeId} {avs:List AV} {X:AV}
  (hg:goes ops n T ⟨dd,.call ⟨.value x,args,tys⟩,ty,pos,es,gd⟩=some d) (hx:ev st T x=some (.func (.func f) [] [])) (ha:evs st T args.toList=some avs)
  (hc:ACalls P f avs st (fun v st'=>v=X∧st'=st) (fun _ _=>False)) (h:AOps P n ops rest K E ((d,X)::T) st) :
  AOps P n ops (⟨dd,.call ⟨.value x,args,tys⟩,ty,pos,es,gd⟩::rest) K E T st:=by
 obtain ⟨hw,hd,hok⟩:=goes_some hg;simp only at hd;subst hd;refine AOps.callV hx hw hok ha hc (fun v st' ⟨h1,h2⟩=>?_) (fun _ _ h=>h.elim);subst h1 h2;exact h

theorem ixg {t e:TypeId} {td:TypeDesc} {len sz by_:Nat} {zz:Value} {cs:List AV} {k:IntKind} {i:Int} {m:Nat} {v:AV} [hu:Und P t (.array len e)] [hq:Und P e td] [hi:Inf P e sz by_ zz]
  (hg:goes ops n T ⟨dd,.index t x y,ty,pos,es,gd⟩=some d) (ha:aggD td=false) (hx:ev st T x=some (.agg cs)) (hy:ev st T y=some (.int k i)) (hm:i=m) (hlt:m < len) (hv:cs[m * sz]?=some v)
  (h:AOps P n ops rest K E ((d,v)::T) st):AOps P n ops (⟨dd,.index t x y,ty,pos,es,gd⟩::rest) K E T st:=by
 obtain ⟨hw,hd,hok⟩:=goes_some hg;simp only at hd;subst hd;refine AOps.pure hw hok v (fun g w a hs hk=>?_) h;have h1:=ev_R hs hk hx
 have h2:=ev_R hs hk hy;generalize hux:a.eval x=ux at h1;generalize huy:a.eval y=uy at h2;subst hm;cases h2;cases h1 with
 | agg _ us hl h1' hh =>
  have hlt':m * sz < us.size:=hl ▸ (List.getElem?_eq_some_iff.1 hv).1;refine ⟨us[m * sz],?_,hh _ v _ hv (by simp [hlt'])⟩;simp [execOp,hux,huy,Instr.index,asIntOf,run_und (P:=P) (t:=t) w,hlt,run_size (P:=P) (t:=e) w,part,run_isAgg (P:=P) (t:=e) w,ha,hlt']

end
end Go.AM
namespace Go.AM
open Go.RowKit (Below)
theorem decode_spec (l:List UInt8) (pos:Nat) (c:UInt8) (hc:l[pos]?=some c) :
  (c.toNat < 128→Utf8.decode ⟨⟨l⟩⟩ pos=(c.toNat,1)) ∧
  (128≤c.toNat→128≤(Utf8.decode ⟨⟨l⟩⟩ pos).1∧1≤(Utf8.decode ⟨⟨l⟩⟩ pos).2∧pos + (Utf8.decode ⟨⟨l⟩⟩ pos).2≤l.length ∧
   ∀ j,pos < j→j < pos + (Utf8.decode ⟨⟨l⟩⟩ pos).2→∃ b,l[j]?=some b∧128≤b.toNat):=by
 have hlt:pos < l.length:=(List.getElem?_eq_some_iff.1 hc).1
 have hge:∀ k,(h:pos + k < l.length)→((⟨⟨l⟩⟩:ByteArray).get! (pos + k))=l[pos + k]:=by
  intro k h;show (⟨l⟩:Array UInt8)[pos + k]! = _;simp [h]
 have h0:((⟨⟨l⟩⟩:ByteArray).get! (pos + 0))=c:=by
  rw [hge 0 hlt];exact (List.getElem?_eq_some_iff.1 hc).2
 have hsz:(⟨⟨l⟩⟩:ByteArray).size=l.length:=rfl;constructor
 ·intro h;simp only [Utf8.decode,h0,h,if_true]
 ·intro h;have hn:¬ c.toNat < 128:=by omega
  have ok1:∀ p:Nat × Nat,p=(Utf8.runeError,1)→128≤p.1∧1≤p.2∧pos + p.2≤l.length∧∀ j,pos < j→j < pos + p.2→∃ b,l[j]?=some b∧128≤b.toNat:=by
   rintro p rfl;refine ⟨by decide,Nat.le_refl _,hlt,fun j h1 h2=>?_⟩;simp only at h2;omega
  have okk:∀ (w r:Nat),128≤r→1≤w→(∀ k,1≤k→k < w→pos + k < l.length∧((⟨⟨l⟩⟩:ByteArray).get! (pos + k)).toNat / 64=2) →
    128≤((r,w):Nat × Nat).1∧1≤((r,w):Nat × Nat).2∧pos + ((r,w):Nat × Nat).2≤l.length∧∀ j,pos < j→j < pos + ((r,w):Nat × Nat).2→∃ b,l[j]?=some b∧128≤b.toNat:=by
   intro w r hr hw hk;refine ⟨hr,hw,?_,fun j h1 h2=>?_⟩
   ·rcases Nat.lt_or_ge 1 w with h|h
    ·have:=(hk (w - 1) (by omega) (by omega)).1
     show pos + w≤l.length;omega
    ·show pos + w≤l.length;omega
   ·obtain ⟨k,rfl⟩:∃ k,j=pos + k:=⟨j - pos,by omega⟩;simp only at h2;obtain ⟨h3,h4⟩:=hk k (by omega) (by omega);rw [hge k h3] at h4;exact ⟨_,List.getElem?_eq_getElem h3,by omega⟩
  unfold Utf8.decode;simp only [h0,hn,if_false,hsz];have hcont:∀ k,(decide (pos + k < l.length) && (((⟨⟨l⟩⟩:ByteArray).get! (pos + k)).toNat / 64 == 2))=true→pos + k < l.length∧((⟨⟨l⟩⟩:ByteArray).get! (pos + k)).toNat / 64=2:=by
   intro k h
   simpa using h
  split
  ·rename_i h1;simp only [Bool.and_eq_true] at h1;split
   ·rename_i h2;exact okk 2 _ h2 (by omega) fun k k1 k2=>by
     obtain rfl:k=1:=by omega
     exact hcont 1 (by simpa using h1.2)
   ·exact ok1 _ rfl
  ·split
   ·rename_i _ h1;simp only [Bool.and_eq_true] at h1;split
    ·rename_i h2;simp only [Bool.and_eq_true,decide_eq_true_eq] at h2;exact okk 3 _ (by omega) (by omega) fun k k1 k2=>by
      rcases (show k=1∨k=2 by omega) with rfl|rfl
      ·exact hcont 1 (by simpa using h1.1.2)
      ·exact hcont 2 (by simpa using h1.2)
    ·exact ok1 _ rfl
   ·split
    ·rename_i _ _ h1;simp only [Bool.and_eq_true] at h1;split
     ·rename_i h2;simp only [Bool.and_eq_true,decide_eq_true_eq] at h2;exact okk 4 _ (by omega) (by omega) fun k k1 k2=>by
       rcases (show k=1∨k=2∨k=3 by omega) with rfl|rfl|rfl
       ·exact hcont 1 (by simpa using h1.1.1.2)
       ·exact hcont 2 (by simpa using h1.1.2)
       ·exact hcont 3 (by simpa using h1.2)
     ·exact ok1 _ rfl
    ·exact ok1 _ rfl

section
variable {P:Program} {n:Nat} {K:Post} {E:EPost} {T:Tmps} {st:St} {ops:Array Oper} {rest:List Oper}
variable {d:Tmp} {dd:Option Tmp} {x y z:Operand} {ty:TypeId} {pos:String} {es:Array Edge} {gd:Option (Nat × Bool)}

theorem rgs {t:TypeId} [hu:Und P t .string] {l:List UInt8} (hg:goes ops n T ⟨dd,.range t x,ty,pos,es,gd⟩=some d) (hx:ev st T x=some (.str l))
  (k:∀ o,st.obj o=none→AOps P n ops rest K E ((d,.iter o)::T) (st.set o (.iter l 0))):AOps P n ops (⟨dd,.range t x,ty,pos,es,gd⟩::rest) K E T st :=
 AOps.stepAny hg fun g w a hs hk=>by
  have h1:=ev_R hs hk hx;generalize hux:a.eval x=ux at h1;cases h1;obtain ⟨g',he,hs',hob,hnone⟩:=hs.newObj (.stringIter ⟨⟨l⟩⟩ 0) (.iter l 0) 0 (fun g' he=>heap_alloc_new w _);refine ⟨.pointer (some ⟨w.heap.size,0,none⟩),g',w.alloc (.stringIter ⟨⟨l⟩⟩ 0),_,_,?_,he,hs',.iter g.next w.heap.size 0 hob,k g.next hnone⟩;simp only [execOp,hux,Sem.run_bind,run_range_string w t ⟨⟨l⟩⟩ hu.out,Result.andThen_ok,Sem.run_pure];rfl

theorem Sim.iterStep {g:G} {w:World} (hs:Sim g w st) {o:Nat} {l:List UInt8} {ps ps':Nat} {b m:Nat} (ho:st.obj o=some (.iter l ps)) (hb:g.obj o=some (b,m)) :
  Ext g w g (w.iterAt b ⟨⟨l⟩⟩ ps')∧Sim g (w.iterAt b ⟨⟨l⟩⟩ ps') (st.set o (.iter l ps')):=by
 obtain ⟨_,hat,_⟩:=hs.objOf ho hb;have hlt:=hs.objlt o b m hb;refine hs.write ho hb _ ?_ rfl rfl rfl ?_ ?_
 ·simp [World.iterAt]
 ·intro k hk;simp [World.iterAt,Ne.symm hk]
 ·intro _;show (w.iterAt b ⟨⟨l⟩⟩ ps').heap[b]?=_;simp [World.iterAt,hlt]

theorem nxs {o ps:Nat} {l:List UInt8} {c:UInt8} (hg:goes ops n T ⟨dd,.next x true,ty,pos,es,gd⟩=some d) (hx:ev st T x=some (.iter o)) (ho:st.obj o=some (.iter l ps)) (hc:l[ps]?=some c)
  (ka:c.toNat < 128→AOps P n ops rest K E ((d,.tuple [.bool true,.int .i64 (ps:Int),.int .i32 (c.toNat:Int)])::T) (st.set o (.iter l (ps + 1))))
  (kn:128≤c.toNat→∀ r w:Nat,128≤r→1≤w→ps + w≤l.length→(∀ j,ps < j→j < ps + w→∃ b,l[j]?=some b∧128≤b.toNat) →
   AOps P n ops rest K E ((d,.tuple [.bool true,.int .i64 (ps:Int),.int .i32 (r:Int)])::T) (st.set o (.iter l (ps + w)))) :
  AOps P n ops (⟨dd,.next x true,ty,pos,es,gd⟩::rest) K E T st :=
 AOps.stepAny hg fun g w a hs hk=>by
  have h1:=ev_R hs hk hx;generalize hux:a.eval x=ux at h1;cases h1 with
  | iter _ b m hb =>
   obtain ⟨_,hat,_⟩:=hs.objOf ho hb;have hlt:ps < l.length:=(List.getElem?_eq_some_iff.1 hc).1
   have hrun:=Go.Lib.run_next_any_at (P:=P) w b ⟨⟨l⟩⟩ ps ty hat hlt;obtain ⟨d1,d2⟩:=decode_spec l ps c hc;have hexec:(execOp a.eval ⟨dd,.next x true,ty,pos,es,gd⟩).run P w=.ok (.value (.tuple #[.bool true,.int .i64 ps,.int .i32 (Utf8.decode ⟨⟨l⟩⟩ ps).1])) (w.iterAt b ⟨⟨l⟩⟩ (ps + (Utf8.decode ⟨⟨l⟩⟩ ps).2)):=by
    simp only [execOp,hux,Sem.run_bind,hrun,Result.andThen_ok,Sem.run_pure]
   have hR:∀ (r:Nat) g' w',R g' w' (.tuple [.bool true,.int .i64 (ps:Int),.int .i32 (r:Int)]) (.tuple #[.bool true,.int .i64 ps,.int .i32 r]):=fun r g' w'=>by
    refine .tuple _ _ rfl fun i c v hc hv=>?_
    match i with
    | 0=>cases hc; cases hv; exact .bool _
    | 1=>cases hc; cases hv; exact .int _ _
    | 2=>cases hc; cases hv; exact .int _ _
    | i + 3=>cases hc
   obtain ⟨e1,e2⟩:=hs.iterStep (ps':=ps + (Utf8.decode ⟨⟨l⟩⟩ ps).2) ho hb;rcases Nat.lt_or_ge c.toNat 128 with h|h
   ·rw [d1 h] at hexec e1 e2;exact ⟨_,g,_,_,_,hexec,e1,e2,hR _ _ _,ka h⟩
   ·obtain ⟨q1,q2,q3,q4⟩:=d2 h;exact ⟨_,g,_,_,_,hexec,e1,e2,hR _ _ _,kn h _ _ q1 q2 q3 q4⟩

theorem nxe {o ps:Nat} {l:List UInt8} (hg:goes ops n T ⟨dd,.next x true,ty,pos,es,gd⟩=some d) (hx:ev st T x=some (.iter o)) (ho:st.obj o=some (.iter l ps)) (hle:l.length≤ps)
  (k:AOps P n ops rest K E ((d,.tuple [.bool false])::T) st):AOps P n ops (⟨dd,.next x true,ty,pos,es,gd⟩::rest) K E T st :=
 AOps.stepAny hg fun g w a hs hk=>by
  have h1:=ev_R hs hk hx;generalize hux:a.eval x=ux at h1;cases h1 with
  | iter _ b m hb =>
   obtain ⟨_,hat,_⟩:=hs.objOf ho hb;have hrun:=Go.Lib.run_next_end_at (P:=P) w b ⟨⟨l⟩⟩ ps ty hat (Nat.not_lt.2 hle);refine ⟨.tuple #[.bool false],g,w,.tuple [.bool false],st,?_,.refl _ _,hs,?_,k⟩
   ·simp only [execOp,hux,Sem.run_bind,hrun,Result.andThen_ok,Sem.run_pure]
   ·refine .tuple _ _ rfl fun i c v hc hv=>?_
    match i with
    | 0=>cases hc; cases hv; exact .bool _
    | i + 1=>cases hc

/-! maps -/

def supd (k:List UInt8) (v:AV):List (List UInt8 × AV)→List (List UInt8 × AV)
 | []=>[(k,v)]
 | (k',v')::r=>if k=k' then (k,v)::r else (k',v')::supd k v r
def slook (k:List UInt8):List (List UInt8 × AV)→Option AV
 | []=>none
 | (k',v')::r=>if k=k' then some v' else slook k r

theorem mkm {t:TypeId} (hg:goes ops n T ⟨dd,.makeMap t none,ty,pos,es,gd⟩=some d)
  (k:∀ o,st.obj o=none→AOps P n ops rest K E ((d,.amap o)::T) (st.set o (.smap []))):AOps P n ops (⟨dd,.makeMap t none,ty,pos,es,gd⟩::rest) K E T st :=
 AOps.stepAny hg fun g w a hs hk=>by
  obtain ⟨g',he,hs',hob,hnone⟩:=hs.newObj (.map #[] 0) (.smap []) 0 (fun g' he=>⟨#[],0,heap_alloc_new w _,rfl,fun i e h=>by simp at h,fun i e k a h=>by simp at h⟩);refine ⟨.map (some w.heap.size),g',w.alloc (.map #[] 0),_,_,?_,he,hs',.amap g.next w.heap.size 0 hob,k g.next hnone⟩;simp only [execOp,Option.map_none,Instr.makeMap,Sem.run_bind,Sem.run_pure];rfl

theorem findNow_str (k:List UInt8):∀ (es:List (List UInt8 × AV)) (ents:List MapEntry) (i:Nat),ents.length=es.length→(∀ (j:Nat) e p,ents[j]?=some e→es[j]?=some p→e.key=.string ⟨⟨p.1⟩⟩) →
  Instr.findNow .string (.string ⟨⟨k⟩⟩) ents i=some ((es.findIdx? (fun p=>decide (k=p.1))).bind fun j=>(ents[j]?).map fun e=>(i + j,e.val))
 | [],ents,i,hl,_=>by
  have:ents=[]:=List.eq_nil_of_length_eq_zero (by simpa using hl);subst this;rfl
 | p::es,[],_,hl,_=>by simp at hl
 | p::es,e::ents,i,hl,h=>by
  have h0:=h 0 e p rfl rfl
  have ih:=findNow_str k es ents (i + 1) (by simpa using hl) (fun j e' p' h1 h2=>h (j + 1) e' p' (by simpa using h1) (by simpa using h2))
  have hb:((⟨⟨k⟩⟩:ByteArray) == ⟨⟨p.1⟩⟩)=decide (k=p.1):=by
   rw [beq_toListBytes,ByteArray.toList_mk,ByteArray.toList_mk,Bool.eq_iff_iff];simp
  simp only [Instr.findNow,h0,Instr.sameNow,hb,List.findIdx?_cons];by_cases hk:k=p.1
  ·simp [hk]
  ·simp only [hk,decide_false,ih,Bool.false_eq_true,if_false];cases (es.findIdx? fun p=>decide (k=p.1)) with
   | none=>rfl
   | some j=>simp [Nat.add_comm,Nat.add_left_comm]

theorem supd_eq (k:List UInt8) (v:AV):∀ es,supd k v es=match es.findIdx? (fun p=>decide (k=p.1)) with|some i=>es.set i (k,v)|none=>es++[(k,v)]
 | []=>rfl
 | p::es=>by
  have ih:=supd_eq k v es;rw [supd,List.findIdx?_cons];by_cases hk:k=p.1
  ·simp [hk]
  ·simp only [hk,decide_false,if_false,Bool.false_eq_true,ih];cases es.findIdx? (fun p=>decide (k=p.1)) <;> rfl

theorem slook_eq (k:List UInt8):∀ es,slook k es=(es.findIdx? (fun p=>decide (k=p.1))).bind fun i=>(es[i]?).map (·.2)
 | []=>rfl
 | p::es=>by
  have ih:=slook_eq k es;rw [slook,List.findIdx?_cons];by_cases hk:k=p.1
  ·simp [hk]
  ·simp only [hk,decide_false,if_false,Bool.false_eq_true,ih];cases es.findIdx? (fun p=>decide (k=p.1)) <;> rfl

theorem run_checkKey_str1 (w:World) {t:TypeId} (ht:P.underlying t=some .string) (b:Bool) (s:ByteArray) (n:Nat):(Instr.checkKey b (n + 1) t (.string s)).run P w=.ok () w:=by
 simp only [Instr.checkKey,Sem.run_bind,run_underlying ht,Result.andThen_ok,Sem.run_pure]
theorem run_checkKey_str (w:World) {t:TypeId} (ht:P.underlying t=some .string) (b:Bool) (s:ByteArray):(Instr.checkKey b 10000 t (.string s)).run P w=.ok () w :=
 run_checkKey_str1 w ht b s 9999
theorem sameBits_str (n:Nat) (s:ByteArray):Instr.sameBits n (.string s) (.string s)=true:=by
 have h:(s == s)=true:=by rw [beq_toListBytes]; simp
 cases n <;> simp [Instr.sameBits,h]

theorem run_findKey_str (w:World) {t:TypeId} (ht:P.underlying t=some .string) (k:List UInt8) (es:List (List UInt8 × AV)) (ents:List MapEntry) (hl:ents.length=es.length) (h:∀ (j:Nat) e p,ents[j]?=some e→es[j]?=some p→e.key=.string ⟨⟨p.1⟩⟩) :
  (Instr.findKey t (.string ⟨⟨k⟩⟩) ents).run P w=.ok ((es.findIdx? (fun p=>decide (k=p.1))).bind fun j=>(ents[j]?).map fun e=>(j,e.val)) w:=by
 simp only [Instr.findKey,Sem.run_bind,run_underlying ht,Result.andThen_ok,findNow_str k es ents 0 hl h,Nat.zero_add,Sem.run_pure]

theorem mup {t kt et:TypeId} [hu:Und P t (.map kt et)] [hk':Und P kt .string] {o:Nat} {m:List (List UInt8 × AV)} {key:List UInt8} {v:AV} (hw:wantedA ops T ⟨none,.mapUpdate t x y z,ty,pos,es,gd⟩=some true)
  (hx:ev st T x=some (.amap o)) (hy:ev st T y=some (.str key)) (hz:ev st T z=some v) (ho:st.obj o=some (.smap m))
  (k:AOps P n ops rest K E T (st.set o (.smap (supd key v m)))):AOps P n ops (⟨none,.mapUpdate t x y z,ty,pos,es,gd⟩::rest) K E T st:=by
 refine AOps.step hw rfl (.lit undef) _ (fun g w a hs hk=>?_) k;have h1:=ev_R hs hk hx
 have h2:=ev_R hs hk hy
 have h3:=ev_R hs hk hz;generalize hux:a.eval x=ux at h1;generalize huy:a.eval y=uy at h2;generalize huz:a.eval z=uz at h3;cases h2;cases h1 with
 | amap _ b mm hb =>
  obtain ⟨_,⟨ents,clock,e1,e2,e3,e4⟩,_⟩:=hs.objOf ho hb;have hlt:=hs.objlt o b mm hb
  have hkeys:∀ (j:Nat) e p,ents.toList[j]?=some e→m[j]?=some p→e.key=.string ⟨⟨p.1⟩⟩:=fun j e p he hp=>(e4 j e p.1 p.2 (by simpa using he) hp).1
  have hfind:=run_findKey_str (P:=P) w hk'.out key m ents.toList (by simpa using e2) hkeys
  have hget:(getObj b).run P w=.ok (.map ents clock) w:=by
   simp [getObj,Sem.run,e1]
  have hset:∀ o',(setObj b o').run P w=.ok () { w with heap:=w.heap.setIfInBounds b o' }:=by
   intro o';simp [setObj,Sem.run,e1]
  rw [supd_eq];cases hi:m.findIdx? (fun p=>decide (key=p.1)) with
  | none =>
   rw [hi] at hfind;simp only [Option.bind_none] at hfind;have hrun:(Instr.mapUpdate t (.map (some b)) (.string ⟨⟨key⟩⟩) uz).run P w=.ok () { w with heap:=w.heap.setIfInBounds b (.map (ents.push { key:=.string ⟨⟨key⟩⟩,val:=uz,born:=clock }) (clock + 1)) }:=by
    simp only [Instr.mapUpdate,Sem.run_bind,run_underlying hu.out,hget,run_checkKey_str (P:=P) w hk'.out,hfind,Result.andThen_ok,hset]
   obtain ⟨q1,q2⟩:=hs.write (c':=.smap (m++[(key,v)])) ho hb { w with heap:=w.heap.setIfInBounds b (.map (ents.push { key:=.string ⟨⟨key⟩⟩,val:=uz,born:=clock }) (clock + 1)) } (by simp) rfl rfl rfl (fun k hk=>by simp [Ne.symm hk]) (fun he=>by
    refine ⟨ents.push { key:=.string ⟨⟨key⟩⟩,val:=uz,born:=clock },clock + 1,by simp [hlt],by simp [e2],fun i e h=>?_,fun i e k a h h'=>?_⟩
    ·rw [Array.getElem?_push] at h;split at h
     ·cases h; simp
     ·exact Nat.lt_succ_of_lt (e3 i e h)
    ·rw [Array.getElem?_push] at h;split at h
     ·rename_i hi';cases h;rw [hi',e2,List.getElem?_append_right (Nat.le_refl _),Nat.sub_self] at h';cases h';exact ⟨rfl,h3.ext he⟩
     ·have hil:i < m.length:=by
       have:=(Array.getElem?_eq_some_iff.1 h).1;omega
      rw [List.getElem?_append_left hil] at h';exact ⟨(e4 i e k a h h').1,(e4 i e k a h h').2.ext he⟩)
   refine ⟨undef,g,_,.inr ⟨?_,rfl⟩,q1,q2,.lit _⟩;simp only [execOp,hux,huy,huz,Sem.run_bind,hrun,Result.andThen_ok,Sem.run_pure]
  | some i =>
   obtain ⟨hil,hip,_⟩:=List.findIdx?_eq_some_iff_getElem.1 hi;have hie:i < ents.size:=by omega
   rw [hi] at hfind;have hei:ents.toList[i]?=some ents[i]:=by simp [hie]
   simp only [Option.bind_some,hei,Option.map_some] at hfind;have hki:ents[i].key=.string ⟨⟨key⟩⟩:=by
    have:=hkeys i ents[i] m[i] hei (List.getElem?_eq_getElem hil);rw [this];have:key=m[i].1:=by simpa using hip
    rw [this]
   have hstay:∀ w,(Instr.keyThatStays (.string ⟨⟨key⟩⟩) (.string ⟨⟨key⟩⟩)).run P w=.ok (.string ⟨⟨key⟩⟩) w:=by
    intro w;simp [Instr.keyThatStays,sameBits_str]
   have hei':ents[i]?=some ents[i]:=by simp [hie]
   have hrun:(Instr.mapUpdate t (.map (some b)) (.string ⟨⟨key⟩⟩) uz).run P w=.ok () { w with heap:=w.heap.setIfInBounds b (.map (ents.modify i fun e=>{ e with key:=.string ⟨⟨key⟩⟩,val:=uz }) clock) }:=by
    simp only [Instr.mapUpdate,Sem.run_bind,run_underlying hu.out,hget,run_checkKey_str (P:=P) w hk'.out,hfind,Result.andThen_ok,hset,hei',Option.map_some,Option.getD_some,hki,hstay]
   obtain ⟨q1,q2⟩:=hs.write (c':=.smap (m.set i (key,v))) ho hb { w with heap:=w.heap.setIfInBounds b (.map (ents.modify i fun e=>{ e with key:=.string ⟨⟨key⟩⟩,val:=uz }) clock) } (by simp) rfl rfl rfl (fun k hk=>by simp [Ne.symm hk]) (fun he=>by
    refine ⟨ents.modify i fun e=>{ e with key:=.string ⟨⟨key⟩⟩,val:=uz },clock,by simp [hlt],by simp [e2],fun j e h=>?_,fun j e k a h h'=>?_⟩
    ·rw [Array.getElem?_modify] at h;split at h
     ·rename_i hij;simp only [Option.map_eq_some_iff] at h;obtain ⟨e0,h0,rfl⟩:=h;exact e3 j e0 h0
     ·exact e3 j e h
    ·rw [Array.getElem?_modify] at h;rw [List.getElem?_set] at h';split at h
     ·rename_i hij;subst hij;rw [if_pos rfl,if_pos hil] at h';cases h';simp only [Option.map_eq_some_iff] at h;obtain ⟨e0,h0,rfl⟩:=h;exact ⟨rfl,h3.ext he⟩
     ·rename_i hij;rw [if_neg hij] at h';exact ⟨(e4 j e k a h h').1,(e4 j e k a h h').2.ext he⟩)
   refine ⟨undef,g,_,.inr ⟨?_,rfl⟩,q1,q2,.lit _⟩;simp only [execOp,hux,huy,huz,Sem.run_bind,hrun,Result.andThen_ok,Sem.run_pure]

theorem lku {t kt et:TypeId} [hu:Und P t (.map kt et)] [hk':Und P kt .string] {sz by_:Nat} {zz:Value} [hi:Inf P et sz by_ zz] {o:Nat} {m:List (List UInt8 × AV)} {key:List UInt8} (hg:goes ops n T ⟨dd,.lookup t x y false,ty,pos,es,gd⟩=some d)
  (hx:ev st T x=some (.amap o)) (hy:ev st T y=some (.str key)) (ho:st.obj o=some (.smap m))
  (k:AOps P n ops rest K E ((d,(slook key m).getD (absV zz))::T) st):AOps P n ops (⟨dd,.lookup t x y false,ty,pos,es,gd⟩::rest) K E T st:=by
 obtain ⟨hw,hd,hok⟩:=goes_some hg;simp only at hd;subst hd;refine AOps.pure hw hok _ (fun g w a hs hk=>?_) k;have h1:=ev_R hs hk hx
 have h2:=ev_R hs hk hy;generalize hux:a.eval x=ux at h1;generalize huy:a.eval y=uy at h2;cases h2;cases h1 with
 | amap _ b mm hb =>
  obtain ⟨_,⟨ents,clock,e1,e2,e3,e4⟩,_⟩:=hs.objOf ho hb;have hkeys:∀ (j:Nat) e p,ents.toList[j]?=some e→m[j]?=some p→e.key=.string ⟨⟨p.1⟩⟩:=fun j e p he hp=>(e4 j e p.1 p.2 (by simpa using he) hp).1
  have hfind:=run_findKey_str (P:=P) w hk'.out key m ents.toList (by simpa using e2) hkeys
  have hget:(getObj b).run P w=.ok (.map ents clock) w:=by
   simp [getObj,Sem.run,e1]
  rw [slook_eq];cases hf:m.findIdx? (fun p=>decide (key=p.1)) with
  | none =>
   rw [hf] at hfind;simp only [Option.bind_none] at hfind ⊢;refine ⟨zz,?_,R_absV g w zz⟩;simp [execOp,hux,huy,Instr.lookup,run_und (P:=P) (t:=t) w,hget,run_checkKey_str (P:=P) w hk'.out,hfind,run_zero (P:=P) (t:=et) w]
  | some i =>
   obtain ⟨hil,hip,_⟩:=List.findIdx?_eq_some_iff_getElem.1 hf;have hie:i < ents.size:=by omega
   rw [hf] at hfind;have hei:ents.toList[i]?=some ents[i]:=by simp [hie]
   simp only [Option.bind_some,hei,Option.map_some] at hfind;simp only [Option.bind_some,List.getElem?_eq_getElem hil,Option.map_some,Option.getD_some];refine ⟨ents[i].val,?_,(e4 i ents[i] m[i].1 m[i].2 (by simp [hie]) (List.getElem?_eq_getElem hil)).2⟩;simp [execOp,hux,huy,Instr.lookup,run_und (P:=P) (t:=t) w,hget,run_checkKey_str (P:=P) w hk'.out,hfind]

end
end Go.AM
namespace Go.AM
open Go.RowKit (Below)
inductive Sh where
 | kI (k:IntKind)
 | kB
 | kS

def flatFields (P:Program) (F:TypeId→Option (List Sh)):Nat→List Field→Option (List Sh)
 | _,[]=>some []
 | off,f::fs=>match F f.type,(P.info? f.type).map (·.size) with
  | some sh, some sz => bif Nat.beq f.offset off && Nat.beq sz sh.length && f.name != "_" then (flatFields P F (off + sh.length) fs).map (sh ++ ·) else none
  | _,_=>none

def flatTy (P:Program):Nat→TypeId→Option (List Sh)
 | 0,_=>none
 | d + 1,t=>match P.underlying t with
  | some (.int k)=>some [.kI k]
  | some .bool=>some [.kB]
  | some .string=>some [.kS]
  | some (.struct fs)=>bif P.stoodInHeld t then none else flatFields P (flatTy P d) 0 fs.toList
  | some (.array n e)=>match flatTy P d e,(P.info? e).map (·.size) with
   | some sh,some sz=>bif Nat.beq sz sh.length then some (List.replicate n sh).flatten else none
   | _,_=>none
  | _=>none

def fit1:Sh→AV→Bool
 | .kI k,.int k' _=>kindEq k k'
 | .kB,.bool _=>true
 | .kS,.str _=>true
 | _,_=>false
def fits:List Sh→List AV→Bool
 | [],[]=>true
 | s::ss,c::cs=>fit1 s c && fits ss cs
 | _,_=>false

section
variable {P:Program}

variable {n:Nat} {K:Post} {E:EPost} {T:Tmps} {st:St} {ops:Array Oper} {rest:List Oper}
variable {d:Tmp} {dd:Option Tmp} {x y z:Operand} {ty:TypeId} {pos:String} {es:Array Edge} {gd:Option (Nat × Bool)}

end
end Go.AM
namespace Go.AM
abbrev fOf {P:Program} {t:TypeId} {fs:Array Field} (_:P.underlying t=some (.struct fs)):Array Field:=fs

section
variable {P:Program} {n:Nat} {K:Post} {E:EPost} {T:Tmps} {st:St} {ops:Array Oper} {rest:List Oper}
variable {d:Tmp} {dd:Option Tmp} {x y z:Operand} {ty:TypeId} {pos:String} {es:Array Edge} {gd:Option (Nat × Bool)}

structure CharAt (l:List UInt8) (ps:Nat) (c:UInt8) (r w:Nat):Prop where
 pos:1≤w
 le:ps + w≤l.length
 low:c.toNat < 128→r=c.toNat∧w=1
 high:128≤c.toNat→128≤r∧∀ j,ps≤j→j < ps + w→∃ b,l[j]?=some b∧128≤b.toNat

theorem nxu {o ps:Nat} {l:List UInt8} {c:UInt8} (hg:goes ops n T ⟨dd,.next x true,ty,pos,es,gd⟩=some d) (hx:ev st T x=some (.iter o)) (ho:st.obj o=some (.iter l ps)) (hc:l[ps]?=some c)
  (k:∀ r w:Nat,CharAt l ps c r w→AOps P n ops rest K E ((d,.tuple [.bool true,.int .i64 (ps:Int),.int .i32 (r:Int)])::T) (st.set o (.iter l (ps + w)))) :
  AOps P n ops (⟨dd,.next x true,ty,pos,es,gd⟩::rest) K E T st:=by
 have hlt:ps < l.length:=(List.getElem?_eq_some_iff.1 hc).1;refine nxs hg hx ho hc (fun h=>k c.toNat 1 ⟨Nat.le_refl _,hlt,fun _=>⟨rfl,rfl⟩,fun h'=>by omega⟩) (fun h r w h1 h2 h3 h4=>k r w ⟨h2,h3,fun h'=>by omega,fun _=>⟨h1,fun j hj hj'=>?_⟩⟩);rcases Nat.lt_or_ge ps j with hp|hp
 ·exact h4 j hp hj'
 ·have:j=ps:=by omega
  subst this;exact ⟨c,hc,h⟩
end
end Go.AM
namespace Go.AM
theorem St.set_inner {st:St} {o2 o3:Nat} (h:o3≠o2) (a a' b:AObj):((st.set o2 a).set o3 b).set o2 a'=(st.set o2 a').set o3 b:=by
 rw [St.set_comm (st.set o2 a) h,St.set_set]

theorem St.obj_under {st:St} {o o':Nat} (h:o'≠o) (c d:AObj):((st.set o c).set o' d).obj o=some c:=(St.obj_set_ne (fun e=>h e.symm)).trans (St.obj_set _ _ _)
theorem St.new_ne {st:St} {o o':Nat} {c:AObj} (h:(st.set o c).obj o'=none):o'≠o:=by rintro rfl; rw [St.obj_set] at h; cases h
theorem St.new_old {st:St} {o o':Nat} {c:AObj} (h:(st.set o c).obj o'=none):st.obj o'=none:=by rwa [St.obj_set_ne (St.new_ne h)] at h

theorem StLe.reTok {st:St} {tk:Nat} (h:st.tok tk=false) (tk':Nat):StLe (((st.addTok tk).untok tk).addTok tk') (st.addTok tk'):=by
 refine ⟨fun _ _ h=>h,fun t ht=>?_,rfl⟩;simp only [St.addTok,St.untok] at ht ⊢;by_cases h1:t=tk'
 ·simp [h1]
 ·simp only [h1,if_false] at ht ⊢;by_cases h2:t=tk
  ·subst h2; rw [h] at ht; cases ht
  ·simp [h2,ht]
theorem St.tok_of_add {st:St} {tk tk':Nat} (h:(st.addTok tk).tok tk'=false):st.tok tk'=false:=by
 simp only [St.addTok] at h;split at h
 ·cases h
 ·exact h

theorem Le.tri {a a' b b' c c':AV} (h:Le a a') (k:Le b b') (l:Le c c'):Le (.tuple [a,b,c]) (.tuple [a',b',c']):=by
 refine .tuple _ _ rfl fun i x x' hc hc'=>?_
 match i with
 | 0=>cases hc; cases hc'; exact h
 | 1=>cases hc; cases hc'; exact k
 | 2=>cases hc; cases hc'; exact l
 | i + 3=>cases hc
end Go.AM
namespace Go.AM
open Go.RowKit (Below)
variable {P:Program} {n:Nat} {K:Post} {E:EPost} {T:Tmps} {st:St} {ops:Array Oper} {rest:List Oper}
variable {d:Tmp} {dd:Option Tmp} {x y z:Operand} {ty:TypeId} {pos:String} {es:Array Edge} {gd:Option (Nat × Bool)}

end Go.AM
namespace Go.AM
open Go.RowKit (Below)
section
variable {P:Program} {n:Nat} {K:Post} {E:EPost} {T:Tmps} {st:St}

def EffI (P:Program) (n:Nat) (I:St→Prop) (T:Tmps) (o:Oper) (Q:AV→Prop):Prop :=
 ∀ st g w a (K':Act→World→Prop) (Q':Exit→Act→World→Prop),I st→Sim g w st→Known g w T a→a.tmps.size=n →
  (∀ rv g' w' v st1,Ext g w g' w'→Sim g' w' st1→R g' w' v rv→Q v→I st1→K' (a.put o.dst rv) w')→o.wp P a w K' Q'

def StepI (P:Program) (n:Nat) (I:St→Prop) (ops:Array Oper) (T:Tmps) (o:Oper) (Q:AV→Prop):Prop :=
 (wantedA ops T o=some true∧EffI P n I T o Q)∨(wantedA ops T o=some false∧Q (.lit undef))

def DRunI (P:Program) (n:Nat) (I:St→Prop) (ops:Array Oper):List Oper→List (AV→Prop)→Tmps→(Tmps→St→Prop)→Prop
 | [],[],T,k=>∀ st,I st→k T st
 | o::r,Q::Qs,T,k=>∃ d,o.dst=some d∧Nat.blt d n=true∧(∃ u,Q u)∧StepI P n I ops (see ops o T) o Q∧∀ u,Q u→DRunI P n I ops r Qs ((d,u)::T) k
 | _,_,_,_=>False

def ents (l:List Oper) (us:Nat→AV):Nat→Tmps
 | 0=>[]
 | i + 1=>match (l[i]?).bind (·.dst) with
  | some d=>(d,us i)::ents l us i
  | none=>ents l us i

theorem DRunI.out {I:St→Prop} {ops:Array Oper} {k:Tmps→St→Prop} (us:Nat→AV) (l:List Oper):∀ (r:List Oper) (Qs:List (AV→Prop)) (i0:Nat),(∀ (i:Nat) (o:Oper),r[i]?=some o→l[i0 + i]?=some o)→(∀ (i:Nat) (Q:AV→Prop),Qs[i]?=some Q→Q (us (i0 + i))) →
  DRunI P n I ops r Qs (ents l us i0++T) k→Qs.length=r.length∧(∀ st,I st→k (ents l us (i0 + r.length)++T) st) ∧
   ∀ i o,r[i]?=some o→∃ d Q,o.dst=some d∧d < n∧Qs[i]?=some Q∧StepI P n I ops (see ops o (ents l us (i0 + i)++T)) o Q
 | [],[],i0,_,_,h=>⟨rfl,h,fun i o ho=>by simp at ho⟩
 | [],_::_,_,_,_,h=>h.elim
 | _::_,[],_,_,_,h=>h.elim
 | o::r,Q::Qs,i0,hl,hq,h=>by
  obtain ⟨d,h1,h2,_,h4,h5⟩:=h;have h6:=h5 (us i0) (hq 0 Q rfl)
  have hl0:l[i0]?=some o:=by simpa using hl 0 o rfl
  have he:(d,us i0)::(ents l us i0++T)=ents l us (i0 + 1)++T:=by
   rw [ents,hl0];simp only [Option.bind_some,h1,List.cons_append]
  rw [he] at h6;obtain ⟨a1,a2,a3⟩:=DRunI.out us l r Qs (i0 + 1) (fun i o' ho'=>by have:=hl (i + 1) o' (by simpa using ho'); rwa [show i0 + (i + 1)=i0 + 1 + i by omega] at this) (fun i Q' hQ'=>by have:=hq (i + 1) Q' (by simpa using hQ'); rwa [show i0 + (i + 1)=i0 + 1 + i by omega] at this) h6;refine ⟨by simp [a1],by rw [List.length_cons,show i0 + (r.length + 1)=i0 + 1 + r.length by omega]; exact a2,fun i o' ho'=>?_⟩;cases i with
  | zero =>
   simp only [List.getElem?_cons_zero,Option.some.injEq] at ho';subst ho';exact ⟨d,Q,h1,by simpa using h2,rfl,h4⟩
  | succ i =>
   obtain ⟨d',Q',b1,b2,b3,b4⟩:=a3 i o' (by simpa using ho');exact ⟨d',Q',b1,b2,by simpa using b3,by rwa [show i0 + 1 + i=i0 + (i + 1) by omega] at b4⟩

theorem DRunI.fits {I:St→Prop} {ops:Array Oper} {k:Tmps→St→Prop}:∀ (r:List Oper) (Qs:List (AV→Prop)) (T:Tmps),DRunI P n I ops r Qs T k→∀ (i:Nat) (Q:AV→Prop),Qs[i]?=some Q→∃ u,Q u
 | [],[],_,_,i,Q,h=>by simp at h
 | [],_::_,_,h,_,_,_=>h.elim
 | _::_,[],_,h,_,_,_=>h.elim
 | o::r,Q0::Qs,T,h,i,Q,hq=>by
  obtain ⟨d,h1,h2,⟨u,hu⟩,h4,h5⟩:=h;cases i with
  | zero=>simp at hq; subst hq; exact ⟨u,hu⟩
  | succ i=>exact DRunI.fits r Qs _ (h5 u hu) i Q (by simpa using hq)

theorem ents_get {l:List Oper} {us:Nat→AV}:∀ (i:Nat) (t:Nat) (v:AV),Tmps.get (ents l us i) t=some v→∃ j,j < i∧(l[j]?).bind (·.dst)=some t∧v=us j
 | 0,t,v,h=>by cases h
 | i + 1,t,v,h=>by
  unfold ents at h;cases hd:(l[i]?).bind (·.dst) with
  | none =>
   rw [hd] at h;obtain ⟨j,h1,h2,h3⟩:=ents_get i t v h;exact ⟨j,by omega,h2,h3⟩
  | some d =>
   rw [hd] at h;simp only at h;rw [Tmps.get_cons] at h;by_cases hdt:d=t
   ·rw [if_pos hdt] at h;cases h;exact ⟨i,by omega,by rw [hd,hdt],rfl⟩
   ·rw [if_neg hdt] at h;obtain ⟨j,h1,h2,h3⟩:=ents_get i t v h;exact ⟨j,by omega,h2,h3⟩

theorem ents_none {l:List Oper} {us:Nat→AV}:∀ (i:Nat) (t:Nat),Tmps.get (ents l us i) t=none→∀ j,j < i→(l[j]?).bind (·.dst)≠some t
 | 0,t,_,j,h=>by omega
 | i + 1,t,h,j,hj=>by
  unfold ents at h;cases hd:(l[i]?).bind (·.dst) with
  | none =>
   rw [hd] at h;rcases Nat.lt_or_ge j i with h1|h1
   ·exact ents_none i t h j h1
   ·have:j=i:=by omega
    subst this;rw [hd];simp
  | some d =>
   rw [hd] at h;simp only at h;rw [Tmps.get_cons] at h;by_cases hdt:d=t
   ·rw [if_pos hdt] at h; cases h
   ·rw [if_neg hdt] at h;rcases Nat.lt_or_ge j i with h1|h1
    ·exact ents_none i t h j h1
    ·have:j=i:=by omega
     subst this;rw [hd]
     simpa using hdt

theorem AWP.drawI {l:List Oper} {id:Nat} (hm:P.follows .mixedOrders=true) (k:Nat) (I:St→Prop) (Qs:List (AV→Prop)) (hok:drawOk l k l.length=true) (hI:I st)
  (h:DRunI P n I l.toArray (l.take k) Qs T fun T' st'=>AOps P n l.toArray (l.drop k) K E T' st'):AWP P n (.region id l.toArray true) K E T st:=by
 obtain ⟨hkl,hedge,hbody,htail⟩:=drawOk_spec hok;have hfits:=DRunI.fits _ _ _ h
 have hout:=fun (us:Nat→AV) (hus:∀ (i:Nat) (Q:AV→Prop),Qs[i]?=some Q→Q (us (0 + i)))=>DRunI.out (T:=T) us l (l.take k) Qs 0 (fun i o ho=>by
  have hi:i < k:=by have:=(List.getElem?_eq_some_iff.1 ho).1; simp at this; omega
  rw [List.getElem?_take_of_lt hi] at ho
  rwa [Nat.zero_add]) hus h
 have hlk0:(l.take k).length=k:=by simp; omega
 obtain ⟨wit,hwit⟩:∃ wit:Nat→AV,∀ (i:Nat) (Q:AV→Prop),Qs[i]?=some Q→Q (wit i):=by
  have:∀ i:Nat,∃ u:AV,∀ Q:AV→Prop,Qs[i]?=some Q→Q u:=fun i=>by
   cases hq:Qs[i]? with
   | none=>exact ⟨.bool true,fun Q h=>by cases h⟩
   | some Q =>
    obtain ⟨u,hu⟩:=hfits i Q hq;exact ⟨u,fun Q' h=>by cases h; exact hu⟩
  exact ⟨fun i=>Classical.choose (this i),fun i Q hQ=>Classical.choose_spec (this i) Q hQ⟩
 have hQl:Qs.length=k:=by rw [(hout wit (fun i Q hQ=>by rw [Nat.zero_add]; exact hwit i Q hQ)).1,hlk0]
 intro g0 w0 a0 hs0 hk0 hn0;refine wp_region_any hm ?_;obtain ⟨hed,hsd⟩:=hs0.draw
 let Inv:Array Bool→Act→World→Prop:=fun listed a w=>listed.size=l.length∧Closed l listed∧(∀ j,k≤j→j < l.length→listed.getD j true=false)∧a.tmps.size=n∧a.defers=a0.defers ∧
  ∃ g st1,Ext g0 w0 g w∧Sim g w st1∧I st1 ∧
   (∀ t v,Tmps.get T t=some v→(∀ i,i < k→(l[i]?).bind (·.dst)=some t→listed.getD i false=false)→∃ rv,a.tmps[t]?=some rv∧R g w v rv) ∧
   (∀ i d Q,i < k→(l[i]?).bind (·.dst)=some d→Qs[i]?=some Q→listed.getD i false=true→∃ u rv,Q u∧a.tmps[d]?=some rv∧R g w u rv)
 let μ:Array Bool→Nat:=fun listed=>(List.range l.length).countP fun j=>!listed.getD j true
 have hμ:∀ (listed:Array Bool) i,i < l.length→listed.size=l.length→listed.getD i true=false→μ (listed.setIfInBounds i true) + 1≤μ listed:=by
  intro listed i hil hsz hi;have gen:∀ (A:List Nat),i ∈ A→A.countP (fun j=>!(listed.setIfInBounds i true).getD j true) + 1≤A.countP (fun j=>!listed.getD j true):=by
   have le:∀ (A:List Nat),A.countP (fun j=>!(listed.setIfInBounds i true).getD j true)≤A.countP (fun j=>!listed.getD j true):=fun A=>List.countP_mono_left fun j _ hj=>by
    by_cases hij:i=j
    ·subst hij;rw [Array.getD_eq_getD_getElem?,Array.getElem?_setIfInBounds_self_of_lt (by omega)] at hj;simp at hj
    ·rw [getD_set_ne true hij] at hj; exact hj
   intro A
   induction A with
   | nil=>intro h; simp at h
   | cons x A ih =>
    intro h;rw [List.countP_cons,List.countP_cons];by_cases hx:x=i
    ·subst hx;have h1:(!(listed.setIfInBounds x true).getD x true)=false:=by
      rw [Array.getD_eq_getD_getElem?,Array.getElem?_setIfInBounds_self_of_lt (by omega)]; rfl
     have h2:(!listed.getD x true)=true:=by rw [hi]; rfl
     rw [h1,h2,if_neg (by decide),if_pos rfl];have:=le A;omega
    ·have hm':i ∈ A:=by rcases List.mem_cons.1 h with h|h; exact absurd h.symm hx; exact h
     have:=ih hm'
     have h3:(listed.setIfInBounds i true).getD x true=listed.getD x true:=getD_set_ne true (Ne.symm hx);rw [h3];omega
  exact gen _ (List.mem_range.2 hil)
 have choose:∀ (listed:Array Bool) (a:Act) (g:G) (w:World),(∀ i d Q,i < k→(l[i]?).bind (·.dst)=some d→Qs[i]?=some Q→listed.getD i false=true→∃ u rv,Q u∧a.tmps[d]?=some rv∧R g w u rv) →
   ∃ us:Nat→AV,(∀ (i:Nat) (Q:AV→Prop),Qs[i]?=some Q→Q (us i))∧∀ i d,i < k→(l[i]?).bind (·.dst)=some d→listed.getD i false=true→∃ rv,a.tmps[d]?=some rv∧R g w (us i) rv:=by
  intro listed a g w hB;have:∀ i:Nat,∃ u:AV,(∀ Q:AV→Prop,Qs[i]?=some Q→Q u)∧∀ d,i < k→(l[i]?).bind (·.dst)=some d→listed.getD i false=true→∃ rv,a.tmps[d]?=some rv∧R g w u rv:=fun i=>by
   by_cases hc:i < k∧listed.getD i false=true
   ·obtain ⟨hik,hli⟩:=hc;have hd:=(hbody i l[i] (List.getElem?_eq_getElem (by omega)) hik).1;obtain ⟨d,hd⟩:=Option.isSome_iff_exists.1 hd;have hd':(l[i]?).bind (·.dst)=some d:=by rw [List.getElem?_eq_getElem (by omega)]; exact hd
    have hq:Qs[i]?=some (Qs[i]'(by omega)):=List.getElem?_eq_getElem _;obtain ⟨u,rv,h1,h2,h3⟩:=hB i d _ hik hd' hq hli;refine ⟨u,fun Q h=>by rw [hq] at h; cases h; exact h1,fun d' _ hd2 _=>?_⟩;rw [hd'] at hd2;cases hd2;exact ⟨rv,h2,h3⟩
   ·exact ⟨wit i,hwit i,fun d h1 _ h2=>absurd ⟨h1,h2⟩ hc⟩
  exact ⟨fun i=>Classical.choose (this i),fun i=>(Classical.choose_spec (this i)).1,fun i=>(Classical.choose_spec (this i)).2⟩
 have done:∀ (m:Nat) (listed:Array Bool) (a:Act) (w:World),Inv listed a w→(∀ j,j < k→listed.getD j true=true)→l.length≤k + m→wpAny P .any l.toArray (QOf n a0.defers g0 w0 K E) m listed a w:=by
  intro m listed a w ⟨hsz,hcl,htl,hn,hd,g,st1,he,hs,hI1,hA,hB⟩ hall hm';have hlist:∀ j,j < k→listed.getD j false=true:=fun j hj=>by
   have h1:=hall j hj;rw [Array.getD_eq_getD_getElem?,Array.getElem?_eq_getElem (by omega)] at h1 ⊢
   simpa using h1
  refine wpAny_tail hedge k htail m k listed a w (Nat.le_refl _) hkl hm' hsz (fun j hj=>?_) hcl ?_
  ·by_cases hjk:j < k
   ·rw [hall j hjk,decide_eq_true hjk]
   ·rw [htl j (by omega) hj,decide_eq_false hjk]
  ·obtain ⟨us,hus,hus2⟩:=choose listed a g w hB;obtain ⟨_,hfin,_⟩:=hout us (fun i Q hQ=>by rw [Nat.zero_add]; exact hus i Q hQ);rw [hlk0,Nat.zero_add] at hfin;have h5:=hfin st1 hI1 g w a hs (fun t u hu=>by
    rw [get_append] at hu;cases hg:Tmps.get (ents l us k) t with
    | some u' =>
     rw [hg] at hu;cases hu;obtain ⟨j,hj,hdj,rfl⟩:=ents_get k t _ hg;exact hus2 j t hj hdj (hlist j hj)
    | none =>
     rw [hg] at hu;exact hA t u hu fun i hi hit=>absurd hit (ents_none k t hg i hi)) hn
   rw [hd] at h5;exact wpList_mono (fun _ _ _ q=>QOf.ext he q) _ _ _ h5
 have step:∀ (K':Act→World→Prop) (listed:Array Bool) (a:Act) (w:World) (i:Nat),Inv listed a w→i < k→i ∈ Region.ready .any l.toArray listed→(∀ a' w',Inv (listed.setIfInBounds i true) a' w'→K' a' w') →
   wpOp P l.toArray (QOf n a0.defers g0 w0 K E) i K' a w:=by
  intro K' listed a w i ⟨hsz,hcl,htl,hn,hd,g,st1,he,hs,hI1,hA,hB⟩ hik hri hK;obtain ⟨hun,o,ho,hed'⟩:=ready_edges hri;have hil:=(List.getElem?_eq_some_iff.1 ho).1
  have hunf:listed.getD i false=false:=by
   rw [Array.getD_eq_getD_getElem?,Array.getElem?_eq_getElem (by omega)] at hun ⊢
   simpa using hun
  have hcl':=hcl.set ho hed'
  have hsz':(listed.setIfInBounds i true).size=l.length:=by simpa using hsz
  have htl':∀ j,k≤j→j < l.length→(listed.setIfInBounds i true).getD j true=false:=fun j h1 h2=>by
   rw [getD_set_ne true (by omega)]; exact htl j h1 h2
  obtain ⟨us,hus,hus2⟩:=choose listed a g w hB;obtain ⟨_,_,hops⟩:=hout us (fun i Q hQ=>by rw [Nat.zero_add]; exact hus i Q hQ);obtain ⟨d,Q,hod,hdn,hQi,hstep⟩:=hops i o (by rw [List.getElem?_take_of_lt hik]; exact ho);rw [Nat.zero_add] at hstep;have hlooked:∀ j,j < k→∀ t,(l[j]?).bind (·.dst)=some t→(o.looksAt l.toArray).contains t=true→listed.getD j false=true∧j < i:=by
   intro j hj t hjt hlook;have hp:l[j]?=some l[j]:=List.getElem?_eq_getElem (by omega);rw [hp] at hjt;have h2:=(((hbody i o ho hik).2 j _ hj hp).2 t hjt hlook).2;refine ⟨h2 listed hcl hed',?_⟩;have hcl2:Closed l (Array.ofFn fun q:Fin l.length=>decide (q.val < i)):=by
    intro q oq hq hq' x hx';have hql:=(List.getElem?_eq_some_iff.1 hq).1;rw [Array.getD_eq_getD_getElem?,Array.getElem?_ofFn] at hq' ⊢;simp only [hql,dif_pos,Option.getD_some,decide_eq_true_eq] at hq';have hxq:=hedge q oq hq x hx';simp only [show x < l.length by omega,dif_pos,Option.getD_some,decide_eq_true_eq];omega
   have h3:=h2 _ hcl2 (fun x hx'=>by
    have hxi:=hedge i o ho x hx';rw [Array.getD_eq_getD_getElem?,Array.getElem?_ofFn];simp only [show x < l.length by omega,dif_pos,Option.getD_some,decide_eq_true_eq];exact hxi)
   rw [Array.getD_eq_getD_getElem?,Array.getElem?_ofFn] at h3;simp only [show j < l.length by omega,dif_pos,Option.getD_some,decide_eq_true_eq] at h3;exact h3
  have hknown:Known g w (see l.toArray o (ents l us i++T)) a:=fun t v ht=>by
   obtain ⟨hlook,hget⟩:=get_filter _ _ _ _ ht;rw [get_append] at hget;cases hg:Tmps.get (ents l us i) t with
   | some u' =>
    rw [hg] at hget;cases hget;obtain ⟨j,hj,hdj,rfl⟩:=ents_get i t _ hg;exact hus2 j t (by omega) hdj (hlooked j (by omega) t hdj hlook).1
   | none =>
    rw [hg] at hget;refine hA t v hget fun j hj hjt=>?_;have h1:=hlooked j hj t hjt hlook;exact absurd hjt (ents_none i t hg j h1.2)
  have hother:∀ t,t≠d→∀ rv',(a.put o.dst rv').tmps[t]?=a.tmps[t]?:=fun t ht rv'=>by
   rw [hod];simp only [Act.put,Array.getElem?_setIfInBounds];rw [if_neg (Ne.symm ht)]
  have hself:∀ rv',(a.put o.dst rv').tmps[d]?=some rv':=fun rv'=>by
   rw [hod];simp only [Act.put,Array.getElem?_setIfInBounds];simp [hn,hdn]
  have hdi:(l[i]?).bind (·.dst)=some d:=by rw [ho]; exact hod
  have after:∀ v rv g' w' st2,Ext g w g' w'→Sim g' w' st2→R g' w' v rv→Q v→I st2→Inv (listed.setIfInBounds i true) (a.put o.dst rv) w':=by
   intro v rv g' w' st2 he' hs' hR hQv hI2;refine ⟨hsz',hcl',htl',by rw [Act.size_put]; exact hn,by rw [Act.defers_put]; exact hd,g',st2,he.trans he',hs',hI2,fun t u ht hwr=>?_,fun j d' Q' hj hjd hjQ hjl=>?_⟩
   ·have htd:t≠d:=fun htd=>by
     have:=hwr i hik (by rw [htd]; exact hdi);rw [Array.getD_eq_getD_getElem?,Array.getElem?_setIfInBounds_self_of_lt (by omega)] at this;simp at this
    obtain ⟨ru,h1,h2⟩:=hA t u ht fun j hj hjt=>by
     have h3:=hwr j hj hjt;by_cases hij:i=j
     ·subst hij; exact hunf
     ·rwa [getD_set_ne false hij] at h3
    exact ⟨ru,by rw [hother t htd]; exact h1,h2.ext he'⟩
   ·by_cases hij:i=j
    ·subst hij;rw [hdi] at hjd;cases hjd;rw [hQi] at hjQ;cases hjQ;exact ⟨v,rv,hQv,hself rv,hR⟩
    ·rw [getD_set_ne false hij] at hjl;obtain ⟨u,ru,h1,h2,h3⟩:=hB j d' Q' hj hjd hjQ hjl;refine ⟨u,ru,h1,?_,h3.ext he'⟩;rw [hother d' ?_]
     ·exact h2
     ·have hp:l[j]?=some l[j]:=List.getElem?_eq_getElem (by omega);rw [hp] at hjd;exact fun hdd=>((hbody i o ho hik).2 j _ hj hp).1 hij d d' hod hjd hdd.symm
  unfold wpOp;simp only [List.getElem?_toArray,ho];rcases hstep with ⟨hw,hq⟩|⟨hw,hq⟩
  ·rw [wanted_of hknown hw,if_pos rfl]
   left
   exact hq st1 g w a K' _ hI1 hs hknown hn fun rv g' w' v st2 he' hs' hR hQv hI2=>hK _ _ (after v rv g' w' st2 he' hs' hR hQv hI2)
  ·rw [wanted_of hknown hw,if_neg (by simp)];exact hK _ _ (after _ undef g w st1 (.refl _ _) hs (.lit _) hq hI1)
 have key:∀ (m:Nat) (listed:Array Bool) (a:Act) (w:World),Inv listed a w→μ listed≤m→wpAny P .any l.toArray (QOf n a0.defers g0 w0 K E) m listed a w:=by
  intro m
  induction m with
  | zero =>
   intro listed a w hi hm0;have hall:∀ j,j < l.length→listed.getD j true=true:=fun j hj=>by
    cases hv:listed.getD j true with
    | true=>rfl
    | false=>have:=hμ listed j hj hi.1 hv; omega
   have hlk:l.length=k:=by
    rcases Nat.eq_or_lt_of_le hkl with h'|h'
    ·exact h'.symm
    ·have h1:=hall k h'
     have h2:=hi.2.2.1 k (Nat.le_refl _) h';rw [h1] at h2;cases h2
   exact done 0 listed a w hi (fun j hj=>hall j (by omega)) (by omega)
  | succ m ih =>
   intro listed a w hi hm1;by_cases hall:∀ j,j < k→listed.getD j true=true
   ·refine done (m + 1) listed a w hi hall ?_;have:l.length - k≤μ listed:=by
     exact countP_range_ge k _ l.length fun j h1 h2=>by rw [hi.2.2.1 j h1 h2]; rfl
    omega
   ·have hex:∃ j,j < k∧listed.getD j true=false∧∀ q,q < j→listed.getD q true=true:=by
     have:∃ j,j < k∧listed.getD j true=false:=by
      apply Classical.byContradiction;intro hno;apply hall;intro j hj;cases hv:listed.getD j true with
      | true=>rfl
      | false=>exact absurd ⟨j,hj,hv⟩ hno
     obtain ⟨j,hj⟩:=this
     induction j using Nat.strongRecOn with
     | _ j ihj =>
      by_cases hq:∀ q,q < j→listed.getD q true=true
      ·exact ⟨j,hj.1,hj.2,hq⟩
      ·simp only [Classical.not_forall] at hq;obtain ⟨q,hqj,hq⟩:=hq;exact ihj q hqj ⟨by omega,by simpa using hq⟩
    obtain ⟨j0,hj0,hv0,hmin⟩:=hex;have hsz:=hi.1
    have hjl:j0 < l.length:=by omega
    have hready:j0 ∈ Region.ready .any l.toArray listed:=ready_of_edges hv0 (List.getElem?_eq_getElem hjl) (fun x hx=>by
     have hxj:=hedge j0 _ (List.getElem?_eq_getElem hjl) x hx
     have h1:=hmin x hxj;rw [Array.getD_eq_getD_getElem?,Array.getElem?_eq_getElem (by omega)] at h1 ⊢
     simpa using h1)
    refine ⟨fun h0=>(by rw [h0] at hready; cases hready),fun i hri=>?_⟩;obtain ⟨hun,o,ho,hed'⟩:=ready_edges hri;have hil:=(List.getElem?_eq_some_iff.1 ho).1
    have hik:i < k:=by
     rcases Nat.lt_or_ge i k with h'|h'
     ·exact h'
     ·have h1:=htail i o h' ho listed hi.2.1 hed' j0 (by omega);rw [Array.getD_eq_getD_getElem?,Array.getElem?_eq_getElem (by omega)] at h1 hv0;simp at h1 hv0;rw [h1] at hv0;cases hv0
    exact step _ listed a w i hi hik hri fun a' w' hi'=>ih _ a' w' hi' (by have:=hμ listed i hil hsz hun; omega)
 refine key _ _ a0 _ ?_ ?_
 ·have hnone:∀ j,(Array.replicate l.toArray.size false).getD j false=false:=fun j=>by
   rw [Array.getD_eq_getD_getElem?,Array.getElem?_replicate];split <;> rfl
  refine ⟨by simp,fun i o ho hi'=>?_,fun j _ hj=>by simp [hj],hn0,rfl,g0,st,hed,hsd,hI,fun t v ht _=>(hk0.ext hed) t v ht,fun i d Q _ _ _ hl=>?_⟩
  ·rw [hnone] at hi'; cases hi'
  ·rw [hnone] at hl; cases hl
 ·have:=List.countP_le_length (p:=fun j=>!(Array.replicate l.length false).getD j true) (l:=List.range l.length);exact Nat.le_trans this (by simp)

end
end Go.AM
namespace Go.AM
open Go.RowKit (Below)
section
variable {P:Program} {n:Nat} {K:Post} {E:EPost} {T:Tmps} {st:St} {ops:Array Oper} {rest:List Oper}
variable {ty:TypeId} {pos:String} {es:Array Edge} {gd:Option (Nat × Bool)} {d:Tmp} {x y:Operand} {dd:Option Tmp}
theorem AOps.callC {d:Option Tmp} {f:FuncId} [hf:GoFun P f] {args:Array Operand} {tys:Array TypeId} {avs ds:List AV} {Rt RP:AV→St→Prop} (hx:ev st T x=some (.func (.func f) [] ds))
  (hw:wantedA ops T ⟨d,.call ⟨.value x,args,tys⟩,ty,pos,es,gd⟩=some true) (hd:dstOk d n=true) (ha:evs st T args.toList=some avs)
  (hc:ACalls P f (avs++ds) st Rt RP) (h:∀ v st',Rt v st'→AOps P n ops rest K E (T.put d v) st') (hp:∀ v st',RP v st'→E (.panic v) T st') :
  AOps P n ops (⟨d,.call ⟨.value x,args,tys⟩,ty,pos,es,gd⟩::rest) K E T st:=by
 intro g w a hs hk hn;obtain ⟨hl,hr⟩:=evs_R hs hk _ _ ha;obtain ⟨fn,h1,h2,h3⟩:=hf.out;have hxR:=ev_R hs hk hx;generalize hux:a.eval x=ux at hxR;obtain ⟨us,hux',hlu,hru⟩:∃ us:Array Value,ux=.func (.func f) #[] us∧ds.length=us.size∧∀ (i:Nat) c v,ds[i]?=some c→us[i]?=some v→R g w c v:=by
  cases hxR with
  | func _ _ _ vs us hl1 hl2 _ h' =>
   have e1:vs=#[]:=Array.eq_empty_of_size_eq_zero (by simpa using hl1.symm);exact ⟨us,by rw [e1],hl2,h'⟩
 subst hux';have hcall:=hc g w (args.map a.eval++us) hs (by simp [hlu]; simpa using hl) (fun i c v hc hv=>by
  rw [List.getElem?_append] at hc;rw [Array.getElem?_append] at hv;simp only [Array.size_map] at hv;simp only [Array.length_toList] at hl;split at hc
  ·rw [if_pos (by omega)] at hv;exact hr i c v hc (by simpa using hv)
  ·rw [if_neg (by omega)] at hv;exact hru _ c v hc (by rw [hl]; exact hv))
 unfold wpList;rw [wanted_of hk hw,if_pos rfl]
 left
 have hrun:(execOp a.eval ⟨d,.call ⟨.value x,args,tys⟩,ty,pos,es,gd⟩).run P w=.ok (.enter f (args.map a.eval++us)) w:=by
  have h2':¬ fn.body=none:=by intro e; simp [e] at h2
  have h3' : ¬ fn.name = "runtime.NumGoroutine" := by simpa using h3
  simp [execOp,resolve,hux,Deferred.ofValue,invoke,callFunc,h1,h2',h3']
 unfold Oper.wp;rw [hrun];simp only [Oper.upon];refine hcall.mono fun e w' ⟨g',st',he,hs',hq⟩=>?_;cases e with
 | returned rv =>
  obtain ⟨v,hR,hRt⟩:=hq;have h4:=h v st' hRt g' w' (a.put d rv) hs' ((hk.ext he).put (fun t ht=>hn ▸ dstOk_lt hd t ht) hR) (by rw [Act.size_put]; exact hn);rw [Act.defers_put] at h4;exact wpList_mono (fun _ _ _ q=>QOf.ext he q) rest _ _ h4
 | panicked ch =>
  obtain ⟨pv,v,x1,x2,x3⟩:=hq;exact ⟨hn,rfl,g',T,st',he,hs',hk.ext he,pv,v,x1,x2,hp pv st' x3⟩
 | outgrown=>exact hq.elim
end
end Go.AM
namespace Go.AM
open Go.RowKit (Below)
class PureFn (P:Program) (f:FuncId) (args:List AV) (X:outParam AV):Prop where
 out:∀ st,ACalls P f args st (fun v st'=>v=X∧st'=st) (fun _ _=>False)
section
variable {P:Program} {n:Nat} {K:Post} {E:EPost} {T:Tmps} {st:St} {ops:Array Oper} {rest:List Oper}
variable {ty:TypeId} {pos:String} {es:Array Edge} {gd:Option (Nat × Bool)} {d:Tmp} {x y:Operand} {dd:Option Tmp}
theorem clp {f:FuncId} [hf:GoFun P f] {args:Array Operand} {tys:Array TypeId} {avs:List AV} {X:AV}
  (hg:goes ops n T ⟨dd,.call ⟨.value (.func f),args,tys⟩,ty,pos,es,gd⟩=some d) (ha:evs st T args.toList=some avs)
  (hc:PureFn P f avs X) (h:AOps P n ops rest K E ((d,X)::T) st) :
  AOps P n ops (⟨dd,.call ⟨.value (.func f),args,tys⟩,ty,pos,es,gd⟩::rest) K E T st:=cle hg ha (hc.out st) h
theorem Tmps.tell {v v':AV} {t:Nat} (ht:T.get t=some v) (he:v=v') (h:AOps P n ops rest K E ((t,v')::T) st):AOps P n ops rest K E T st :=
 AOps.weaken (TLe.consE ht he (.refl _)) (.refl _) h
def gtmp (ops:Array Oper) (T:Tmps) (o:Oper):Option (Nat × Bool) :=
 match o.guard with
 | some (j,_)=>match (ops[j]?).bind (·.dst) with
  | some t=>match T.get t with
   | some (.bool b)=>some (t,b)
   | _=>none
  | none=>none
 | none=>none
theorem gtmp_some {o:Oper} {t:Nat} {b:Bool} (h:gtmp ops T o=some (t,b)):T.get t=some (.bool b):=by
 unfold gtmp at h;split at h
 ·split at h
  ·split at h
   ·simp only [Option.some.injEq,Prod.mk.injEq] at h;obtain ⟨rfl,rfl⟩:=h;assumption
   ·cases h
  ·cases h
 ·cases h
theorem gB {o:Oper} {t:Nat} {b:Bool} (b':Bool) (h:gtmp ops T o=some (t,b)) (hb:b=b') (k:AOps P n ops (o::rest) K E ((t,.bool b')::T) st):AOps P n ops (o::rest) K E T st :=
 Tmps.tell (gtmp_some h) (by rw [hb]) k
theorem cT {c:Operand} {x y:Code} {b:Bool} (hc:ev st T c=some (.bool b)) (hb:b=true) (h:AWP P n x K E T st):AWP P n (.cond c x y) K E T st:=by
 subst hb; exact AWP.cond_true hc h
theorem cF {c:Operand} {x y:Code} {b:Bool} (hc:ev st T c=some (.bool b)) (hb:b=false) (h:AWP P n y K E T st):AWP P n (.cond c x y) K E T st:=by
 subst hb; exact AWP.cond_false hc h
theorem so1 {t:TypeId} {sz by_:Nat} {zz:Value} [hi:Inf P t sz by_ zz] {o s:Nat} {off:Nat} {row row':List AV} {v:AV} {oty:TypeId}
  (hw:wantedA ops T ⟨none,.store t x y,ty,pos,es,gd⟩=some true) (hx:ev (st.set o (.cells oty s [row])) T x=some (.cptr o s 0 off)) (hy:ev (st.set o (.cells oty s [row])) T y=some v)
  (hv:storable v=true) (hsz:Nat.beq v.cells.length sz=true) (hle:off + v.cells.length≤row.length) (he:rowSet row off v.cells=row')
  (k:AOps P n ops rest K E T (st.set o (.cells oty s [row']))):AOps P n ops (⟨none,.store t x y,ty,pos,es,gd⟩::rest) K E T (st.set o (.cells oty s [row])):=by
 refine so hw hx hy (St.obj_set _ _ _) rfl hv hsz (Nat.ble_eq_true_of_le hle) rfl ?_;rw [St.set_set,← he] at *;exact k
theorem soU {t:TypeId} {sz by_:Nat} {zz:Value} [hi:Inf P t sz by_ zz] {o o2 s:Nat} {row:List AV} {v:AV} {oty:TypeId} {c2:AObj}
  (hw:wantedA ops T ⟨none,.store t x y,ty,pos,es,gd⟩=some true) (hne:o2≠o) (hx:ev ((st.set o (.cells oty s [row])).set o2 c2) T x=some (.cptr o s 0 0)) (hy:ev ((st.set o (.cells oty s [row])).set o2 c2) T y=some v)
  (hv:storable v=true) (hsz:Nat.beq v.cells.length sz=true) (hle:Nat.beq v.cells.length row.length=true)
  (k:AOps P n ops rest K E T ((st.set o (.cells oty s [v.cells])).set o2 c2)):AOps P n ops (⟨none,.store t x y,ty,pos,es,gd⟩::rest) K E T ((st.set o (.cells oty s [row])).set o2 c2):=by
 have hl:v.cells.length=row.length:=Nat.eq_of_beq_eq_true hle;refine so hw hx hy (St.obj_under hne _ _) rfl hv hsz (Nat.ble_eq_true_of_le (by omega)) rfl ?_;rw [St.set_inner hne];simp only [List.set_cons_zero];rw [rowSet_all hl];exact k
end
end Go.AM
namespace Go.AM
open Go.RowKit (Below)
section
variable {P:Program} {n:Nat} {K:Post} {E:EPost} {T:Tmps} {st:St}
def EffJ (P:Program) (n:Nat) (I I':St→Prop) (T:Tmps) (o:Oper) (Q:AV→Prop):Prop :=
 ∀ st g w a (K':Act→World→Prop) (Q':Exit→Act→World→Prop),I st→Sim g w st→Known g w T a→a.tmps.size=n →
  (∀ rv g' w' v st1,Ext g w g' w'→Sim g' w' st1→R g' w' v rv→Q v→I' st1→K' (a.put o.dst rv) w')→o.wp P a w K' Q'
end
end Go.AM
namespace Go.AM
open Go.RowKit (Below)
section
variable {P:Program} {n:Nat} {K:Post} {E:EPost} {T:Tmps} {st base:St} {ops:Array Oper} {sts:List St} {Es:List Nat}
theorem AOps.singleN {o:Oper} {v:St→Prop} (h:AOps P n ops [o] (fun T' st'=>T'=T∧v st') (fun _ _ _=>False) T st) (hw:wantedA ops T o=some true)
  {g:G} {w:World} {a:Act} (hs:Sim g w st) (hk:Known g w T a) (K':Act→World→Prop) (Q':Exit→Act→World→Prop)
  (hK:∀ rv g' w' st',Ext g w g' w'→Sim g' w' st'→v st'→K' (a.put o.dst rv) w') (hn:a.tmps.size=n):o.wp P a w K' Q':=by
 have h1:=h g w a hs hk hn;unfold wpList at h1;rw [wanted_of hk hw,if_pos rfl] at h1;rcases h1 with h1|⟨_,h1⟩
 ·refine wp_put h1 (fun a' w' hda hq ⟨rv,hrv⟩=>?_) (fun a' w' hq=>hq.2.1) (fun e a' w' hne hq=>?_)
  ·obtain ⟨h2,h3,g',T',st',h4,h5,h6,hT,hv⟩:=hq;subst hrv;exact hK rv g' w' st' h4 h5 hv
  ·obtain ⟨_,_,g',T',st',_,_,_,h6⟩:=hq;cases e with
   | normal=>exact absurd rfl hne
   | exit id=>exact h6.elim
   | ret=>exact h6.elim
   | panic ch=>obtain ⟨_,_,_,_,h7⟩:=h6; exact h7.elim
   | goto l=>exact h6.elim
   | outgrown=>exact h6.elim
 ·exact absurd h1 LetsOut.not_QOf
theorem ev_glob {s s':St} (h:s.glob=s'.glob) (T:Tmps) (x:Operand):ev s T x=ev s' T x:=by
 cases x <;> simp [ev,St.row,h]
theorem valA_glob {s s':St} (h:s.glob=s'.glob) (T:Tmps) (o:Op):valA s T o=valA s' T o:=by
 unfold valA;simp only [ev_glob h]
theorem step1_glob {s s':St} (h:s.glob=s'.glob) (T:Tmps) (o:Oper):step1 ops n s T o=step1 ops n s' T o:=by
 unfold step1;rw [valA_glob h]
end
end Go.AM
namespace Go.AM
open Go.RowKit (Below)
theorem Sim.grown {g:G} {w w':World} {st:St} (hs:Sim g w st) (os:Array Obj) (hh:w'.heap=w.heap++os) (h1:w'.os=w.os) (h2:w'.tape=w.tape) (h3:w'.output=w.output):Ext g w g w'∧Sim g w' st:=by
 have hb:∀ k,k < w.heap.size→w'.heap[k]?=w.heap[k]?:=fun k hk=>by rw [hh,Array.getElem?_append,if_pos hk]
 have hsz:w.heap.size≤w'.heap.size:=by rw [hh,Array.size_append]; omega
 have he:Ext g w g w':=⟨rfl,Nat.le_refl _,fun _ _ h=>h,fun b i h=>by simp only [World.cell?,hb b (hs.immlt b i h)],fun _ _ h=>h,fun _ _ h=>h,⟨h1,h2,h3,hsz,fun k hk=>hb k (Nat.lt_of_lt_of_le hk hs.base)⟩⟩;refine ⟨he,Nat.le_trans hs.base hsz,fun o c hc=>?_,hs.inj,fun t ht=>?_,hs.tobj,hs.tinj,fun b i h=>Nat.lt_of_lt_of_le (hs.immlt b i h) hsz,fun o b m h=>Nat.lt_of_lt_of_le (hs.objlt o b m h) hsz,fun t b r h=>Nat.lt_of_lt_of_le (hs.toklt t b r h) hsz,hs.fresh,fun gi row h=>(hs.globs gi row h).ext he⟩
 ·obtain ⟨b,m,h1,h2,h3,h4⟩:=hs.objs o c hc;exact ⟨b,m,h1,h2,h3.mono he (hb b (hs.objlt o b m h1)),h4⟩
 ·obtain ⟨⟨b',len,cap,e,size⟩,h1,h2⟩:=hs.toks t ht;refine ⟨_,h1,?_⟩;cases b' with
  | none=>exact h2
  | some b' =>
   obtain ⟨a1,a2,a3,a4,⟨cur,a5,a6⟩,a7⟩:=h2;exact ⟨a1,a2,a3,a4,⟨cur,(hb b' (hs.toklt t b' _ h1)).trans a5,a6⟩,a7⟩
theorem ACalls.grown {P:Program} {f:FuncId} {args:List AV} {st:St} {X:AV}
  (h:∀ g w (rargs:Array Value),Sim g w st→args.length=rargs.size→(∀ (i:Nat) c v,args[i]?=some c→rargs[i]?=some v→R g w c v) →
   Calls P f rargs w fun e w'=>∃ rv,e=.returned rv∧(∀ g w,R g w X rv)∧∃ os,w'.heap=w.heap++os∧w'.os=w.os∧w'.tape=w.tape∧w'.output=w.output) :
  ACalls P f args st (fun v st'=>v=X∧st'=st) (fun _ _=>False):=by
 intro g w rargs hs hl hr;refine (h g w rargs hs hl hr).mono fun e w' ⟨rv,he,hR,os,a1,a2,a3,a4⟩=>?_;obtain ⟨hx,hs'⟩:=hs.grown os a1 a2 a3 a4;refine ⟨g,st,hx,hs',?_⟩;subst he;exact ⟨X,hR g w',rfl,rfl⟩
theorem globs_cells {g:G} {w:World} {st:St} (hs:Sim g w st) {gi:Nat} {row:List AV} (h:(gi,row) ∈ st.glob):∀ (j:Nat) c,row[j]?=some c→∃ v,w.cell? ⟨gi,j,none⟩=some v∧R g w c v:=by
 have hR:=(hs.globs gi row h).rel;generalize hp:Value.pointer (some ⟨gi,0,none⟩)=pv at hR;cases hR with
 | eptr _ _ _ _ b off f hsz h1 himm hh =>
  intro j c hj;have hjl:=(List.getElem?_eq_some_iff.1 hj).1;simp only [Value.pointer.injEq,Option.some.injEq,Addr.mk.injEq] at hp;obtain ⟨rfl,hoff,_⟩:=hp;have h2:=(himm 0 j (by simp) hjl).2;refine ⟨f 0 j,?_,hh 0 j row c rfl hj⟩;rw [← h2]
  congr 2
  omega
theorem tabIs {P:Program} {g:G} {w:World} {st:St} (hs:Sim g w st) {name:String} {gi:Nat} {k:IntKind} {zs:List Int} (hg:P.globalNamed name=some gi) (h:(gi,zs.map fun z=>AV.int k z) ∈ st.glob):Lib.TabIs P w name k zs:=by
 obtain ⟨cs,ty,fr,h1,h2⟩:=(hs.globs gi _ h).arr;have hc:=globs_cells hs h;unfold Lib.TabIs World.var?;rw [hg];simp only [Option.bind_some,h1,Option.some.injEq];apply Array.ext_getElem?;intro j;rcases Nat.lt_or_ge j zs.length with hj|hj
 ·obtain ⟨v,hv,hR⟩:=hc j (.int k zs[j]) (by simp [hj]);cases hR;have hv':cs[j]?=some (.int k zs[j]):=by
   have:w.cell? ⟨gi,j,none⟩=cs[j]?:=by simp [World.cell?,h1]
   rw [← this]; exact hv
  rw [hv'];simp [hj]
 ·rw [Array.getElem?_eq_none (by rw [h2]; simpa using hj)];simp [hj]
end Go.AM
namespace Go.AM
open Go.RowKit (Below)
variable {P:Program} {n:Nat} {K:Post} {E:EPost} {T:Tmps} {st:St}
theorem Sim.nilTokIn {g:G} {w:World} (hs:Sim g w st) {o s i j:Nat} {oty:TypeId} {rows:List (List AV)} {row:List AV} (ho:st.obj o=some (.cells oty s rows)) (hr:rows[i]?=some row) (hj:row[j]?=some (.view 0 [] .nil)) (e:TypeId) (sz:Nat) :
  ∃ g' tk,Ext g w g' w∧st.tok tk=false∧Sim g' w ((st.addTok tk).set o (.cells oty s (rows.set i (row.set j (.view sz [] (.own tk e)))))):=by
 obtain ⟨g',he,hs',htk,hf⟩:=hs.nilTok e;obtain ⟨b,m,hb,_,_,_⟩:=hs'.objs o _ ho;obtain ⟨_,⟨arr,ha,hasz,hml,hl,h1,hc⟩,_⟩:=hs'.objOf ho hb;have hil:i < rows.length:=(List.getElem?_eq_some_iff.1 hr).1
 have hjl:j < row.length:=(List.getElem?_eq_some_iff.1 hj).1;obtain ⟨_,hs2⟩:=hs'.write (c':=.cells oty s (rows.set i (row.set j (.view sz [] (.own g.next e))))) ho hb w rfl rfl rfl rfl (fun _ _=>rfl) (fun _=>by
  refine ⟨arr,ha,hasz,by simpa using hml,fun r hm=>?_,fun r hm=>?_,fun i' j' r c hr' hc'=>?_⟩
  ·rcases List.mem_or_eq_of_mem_set hm with h|h
   ·exact hl r h
   ·rw [h,List.length_set]; exact hl row (List.mem_of_getElem? hr)
  ·rcases List.mem_or_eq_of_mem_set hm with h|h
   ·exact h1 r h
   ·subst h;intro c hcm;rcases List.mem_or_eq_of_mem_set hcm with h2|h2
    ·exact h1 row (List.mem_of_getElem? hr) c h2
    ·subst h2; rfl
  ·by_cases hi:i'=i
   ·subst hi;rw [List.getElem?_set_self hil] at hr';cases hr';by_cases hjj:j'=j
    ·subst hjj;rw [List.getElem?_set_self hjl] at hc';cases hc';obtain ⟨v,hv,hR⟩:=hc i' j' row _ hr hj;refine ⟨v,hv,?_⟩;have hv0:v=.slice none 0 0:=by
      cases hR with
      | vnil=>rfl
      | vemp _ _ _ hn _=>exact absurd rfl hn
      | view _ _ _ _ _ _ _ _ _ _ _ ht'=>simp [TokAt] at ht'
     subst hv0;exact .vnil _ _ (TokAt.mkOwn rfl htk (fun h=>absurd rfl h))
    ·rw [List.getElem?_set_ne (Ne.symm hjj)] at hc';exact hc i' j' row c hr hc'
   ·rw [List.getElem?_set_ne (Ne.symm hi)] at hr';exact hc i' j' r c hr' hc')
 exact ⟨g',g.next,he,hf,hs2⟩
theorem AWP.nilIn {c:Code} {o s i j:Nat} {oty:TypeId} {rows:List (List AV)} {row:List AV} (e:TypeId) (sz:Nat) (ho:st.obj o=some (.cells oty s rows)) (hr:rows[i]?=some row) (hj:row[j]?=some (.view 0 [] .nil))
  (h:∀ tk,st.tok tk=false→AWP P n c K E T ((st.addTok tk).set o (.cells oty s (rows.set i (row.set j (.view sz [] (.own tk e))))))):AWP P n c K E T st :=
 AWP.ghost fun g w a hs hk=>by
  obtain ⟨g',tk,he,hf,hs'⟩:=hs.nilTokIn ho hr hj e sz;exact ⟨g',T,_,he,hs',hk.ext he,h tk hf⟩
end Go.AM
namespace Go.AM
section
variable {P:Program} {n:Nat} {K:Post} {E:EPost} {T:Tmps} {st:St} {ops:Array Oper} {rest:List Oper}
variable {ty ty2:TypeId} {pos pos2:String} {es es2:Array Edge} {gd:Option (Nat × Bool)} {d:Tmp} {y:Operand} {dd:Option Tmp}
theorem alN {t:TypeId} {sz by_:Nat} {z:Value} [hi:Inf P t sz by_ z] {v:AV} (hg:goes ops n T ⟨dd,.alloc t,ty,pos,es,gd⟩=some d) (hz:zok sz z=true) (hy:∀ o,ev (st.set o (.cells t sz [zrow z])) ((d,.cptr o sz 0 0)::T) y=some v)
  (hv:storable v=true) (hsz:Nat.beq v.cells.length sz=true)
  (k:AOps P n ops rest K E ((d,.eptr sz [v.cells] 0 0)::T) st) :
  AOps P n ops (⟨dd,.alloc t,ty,pos,es,gd⟩::⟨none,.store t (.tmp d) y,ty2,pos2,es2,none⟩::rest) K E T st:=by
 refine al hg hz fun o ho=>?_;have hzl:=(zok_spec hz).2.2.1;refine soN d rfl ?_ (hy o) hv hsz ?_ ho ?_
 ·simp [Tmps.get_cons]
 ·rw [Nat.eq_of_beq_eq_true hsz,hzl]; exact nbeq_self sz
 ·refine AOps.weaken ?_ (.refl _) k;intro i v' h;rw [Tmps.get_cons] at h;by_cases e:d=i
  ·subst e;rw [if_pos rfl] at h;cases h;exact ⟨_,by rw [Tmps.get_cons,if_pos rfl],.refl _⟩
  ·rw [if_neg e] at h;exact ⟨v',by rw [Tmps.get_cons,if_neg e,Tmps.get_cons,if_neg e]; exact h,.refl _⟩
end
end Go.AM
namespace Go.AM
section
variable {P:Program} {n:Nat} {K:Post} {E:EPost} {T:Tmps} {st:St} {ops:Array Oper} {rest:List Oper}
variable {ty ty2:TypeId} {pos pos2:String} {es es2:Array Edge} {gd:Option (Nat × Bool)} {d:Tmp} {x y:Operand} {dd:Option Tmp}
theorem ZA {o:Oper} {d:Tmp} {v:AV} (h:step1 ops n st T o=some (d,v):=by exact rfl) (z:AOps P n ops rest K E ((d,v)::T) st):AOps P n ops (o::rest) K E T st:=sm h z
theorem ZB {o:Oper} {d:Tmp} (h:step0 ops n T o=some d:=by exact rfl) (z:AOps P n ops rest K E ((d,.lit undef)::T) st):AOps P n ops (o::rest) K E T st:=uw h z
theorem ZC {t ft:TypeId} {f off:Nat} [hf:Fld P t f off ft] {sz by_:Nat} {zz:Value} [hi:Inf P ft (sz + 1) by_ zz] {q:AV} (hg:goes ops n T ⟨dd,.fieldAddr t x f,ty,pos,es,gd⟩=some d:=by exact rfl)
  (hx:ptrA off (ev st T x)=some q:=by exact rfl)
  (z:AOps P n ops rest K E ((d,q)::T) st):AOps P n ops (⟨dd,.fieldAddr t x f,ty,pos,es,gd⟩::rest) K E T st:=fa hg hx z
theorem ZD {t:TypeId} {td:TypeDesc} [hu:Und P t td] {sz by_:Nat} {zz:Value} [hi:Inf P t sz by_ zz] {s:Nat} {rows:List (List AV)} {i:Nat} {row:List AV}
  (hg:goes ops n T ⟨dd,.load t x,ty,pos,es,gd⟩=some d:=by exact rfl) (ha:aggD td=true:=by exact rfl) (hx:ev st T x=some (.eptr s rows i 0):=by exact rfl) (hr:rows[i]?=some row:=by first|exact rfl|assumption) (hl:Nat.beq sz row.length=true:=by exact rfl)
  (z:AOps P n ops rest K E ((d,.agg row)::T) st):AOps P n ops (⟨dd,.load t x,ty,pos,es,gd⟩::rest) K E T st:=leW hg ha hx hr hl z
theorem ZE {t:TypeId} {td:TypeDesc} [hu:Und P t td] {sz by_:Nat} {zz:Value} [hi:Inf P t sz by_ zz] {o s:Nat} {rows:List (List AV)} {i:Nat} {row:List AV} {oty:TypeId}
  (hg:goes ops n T ⟨dd,.load t x,ty,pos,es,gd⟩=some d:=by exact rfl) (ha:aggD td=true:=by exact rfl) (hx:ev st T x=some (.cptr o s i 0):=by exact rfl) (ho:st.obj o=some (.cells oty s rows):=by first|exact St.obj_set _ _ _|(rename_i hle; exact hle.obj _ _ (St.obj_set _ _ _))|(rename_i hle; exact hle.obj _ _ (by assumption))) (hr:rows[i]?=some row:=by exact rfl) (hl:Nat.beq sz row.length=true:=by exact rfl)
  (z:AOps P n ops rest K E ((d,.agg row)::T) st):AOps P n ops (⟨dd,.load t x,ty,pos,es,gd⟩::rest) K E T st:=lcW hg ha hx ho hr hl z
theorem ZF {t:TypeId} {td:TypeDesc} [hu:Und P t td] {sz by_:Nat} {zz:Value} [hi:Inf P t sz by_ zz] {s:Nat} {rows:List (List AV)} {i off:Nat} {row:List AV} {v:AV}
  (hg:goes ops n T ⟨dd,.load t x,ty,pos,es,gd⟩=some d:=by exact rfl) (hx:ev st T x=some (.eptr s rows i off):=by exact rfl) (hr:rows[i]?=some row:=by first|exact rfl|assumption) (hv:sel (aggD td) sz row off=some v:=by exact rfl)
  (z:AOps P n ops rest K E ((d,v)::T) st):AOps P n ops (⟨dd,.load t x,ty,pos,es,gd⟩::rest) K E T st:=le hg hx hr hv z
theorem ZH {t:TypeId} {td:TypeDesc} [hu:Und P t td] {sz by_:Nat} {zz:Value} [hi:Inf P t sz by_ zz] {o s:Nat} {rows:List (List AV)} {i off:Nat} {row:List AV} {v:AV} {oty:TypeId}
  (hg:goes ops n T ⟨dd,.load t x,ty,pos,es,gd⟩=some d:=by exact rfl) (hx:ev st T x=some (.cptr o s i off):=by exact rfl) (ho:st.obj o=some (.cells oty s rows):=by first|exact St.obj_set _ _ _|assumption|(rename_i hle; exact hle.obj _ _ (St.obj_set _ _ _))|(rename_i hle; exact hle.obj _ _ (by assumption))) (hr:rows[i]?=some row:=by first|exact rfl|assumption) (hv:sel (aggD td) sz row off=some v:=by exact rfl)
  (z:AOps P n ops rest K E ((d,v)::T) st):AOps P n ops (⟨dd,.load t x,ty,pos,es,gd⟩::rest) K E T st:=lc hg hx ho hr hv z
theorem ZJ {t u:TypeId} {e:TypeId} [hu:Und P t (.slice e)] {sz:Nat} {rows:List (List AV)} {tk:Tok}
  (hg:goes ops n T ⟨dd,.call ⟨.builtin .len,#[x],#[t]⟩,u,pos,es,gd⟩=some d:=by exact rfl) (hx:ev st T x=some (.view sz rows tk):=by exact rfl)
  (z:AOps P n ops rest K E ((d,.int .i64 rows.length)::T) st):AOps P n ops (⟨dd,.call ⟨.builtin .len,#[x],#[t]⟩,u,pos,es,gd⟩::rest) K E T st:=lnv hg hx z
theorem ZL {t u:TypeId} [hu:Und P t .string] {l:List UInt8}
  (hg:goes ops n T ⟨dd,.call ⟨.builtin .len,#[x],#[t]⟩,u,pos,es,gd⟩=some d:=by exact rfl) (hx:ev st T x=some (.str l):=by exact rfl)
  (z:AOps P n ops rest K E ((d,.int .i64 l.length)::T) st):AOps P n ops (⟨dd,.call ⟨.builtin .len,#[x],#[t]⟩,u,pos,es,gd⟩::rest) K E T st:=lns hg hx z
theorem ZM {t e:TypeId} [hu:Und P t (.slice e)] {sz by_:Nat} {zz:Value} [hi:Inf P e sz by_ zz] {rows:List (List AV)} {tk:Tok} {k:IntKind} {i:Int} {m:Nat}
  (hg:goes ops n T ⟨dd,.indexAddr t x y,ty,pos,es,gd⟩=some d:=by exact rfl) (hx:ev st T x=some (.view sz rows tk):=by exact rfl) (hy:ev st T y=some (.int k i):=by exact rfl)
  (hm:i=m:=by first|exact rfl|exact (rfl:(0:Int)=((0:Nat):Int))|exact (rfl:(1:Int)=((1:Nat):Int))|exact (rfl:(2:Int)=((2:Nat):Int))|exact (rfl:(3:Int)=((3:Nat):Int))|exact (rfl:(4:Int)=((4:Nat):Int))|exact (rfl:(5:Int)=((5:Nat):Int))|exact (rfl:(6:Int)=((6:Nat):Int)))
  (hlt:m < rows.length:=by first|assumption|exact of_decide_eq_true rfl)
  (z:AOps P n ops rest K E ((d,.eptr sz rows m 0)::T) st):AOps P n ops (⟨dd,.indexAddr t x y,ty,pos,es,gd⟩::rest) K E T st:=ix hg hx hy hm hlt z
theorem ZO {t u:TypeId} {a:Nat} (hg:goes ops n T ⟨dd,.binOp .add t x y u,ty,pos,es,gd⟩=some d:=by exact rfl)
  (hx:ev st T x=some (.int .i64 (a:Int)):=by exact rfl) (hy:ev st T y=some (.int .i64 1):=by exact rfl) (hc:a < 9223372036854775807:=by omega)
  (z:AOps P n ops rest K E ((d,.int .i64 ((a + 1:Nat):Int))::T) st):AOps P n ops (⟨dd,.binOp .add t x y u,ty,pos,es,gd⟩::rest) K E T st:=inc hg hx hy hc z
theorem ZQ {t e:TypeId} {esz eby:Nat} {ez:Value} {v:AV} [hu:Und P t (.slice e)] [hie:Inf P e (esz + 1) eby ez] (hg:goes ops n T ⟨dd,.buildSlice t 1 #[(0,x)],ty,pos,es,gd⟩=some d:=by exact rfl)
  (hz:zok (esz + 1) ez=true:=by exact rfl) (hsm:Nat.ble (1 * (esz + 1)) 16777216=true:=by exact rfl) (hx:ev st T x=some v:=by exact rfl) (hl:Nat.beq v.cells.length (esz + 1)=true:=by exact rfl) (hv:storable v=true:=by exact rfl)
  (z:AOps P n ops rest K E ((d,.view (esz + 1) [v.cells] .shared)::T) st):AOps P n ops (⟨dd,.buildSlice t 1 #[(0,x)],ty,pos,es,gd⟩::rest) K E T st:=bs1 hg hz hsm hx hl hv z
theorem ZR {t:TypeId} {v:AV} {sz:Nat} (hg:goes ops n T ⟨dd,.box t x,ty,pos,es,gd⟩=some d:=by exact rfl) (hx:ev st T x=some v:=by exact rfl) (hv:storable v=true:=by exact rfl) (hsz:v.cells.length=sz:=by exact rfl)
  (z:AOps P n ops rest K E ((d,.eptr sz [v.cells] 0 0)::T) st):AOps P n ops (⟨dd,.box t x,ty,pos,es,gd⟩::rest) K E T st:=bxe hg hx hv hsz z
theorem YA {t:TypeId} {sz by_:Nat} {zz:Value} [hi:Inf P t sz by_ zz] {v:AV} (hg:goes ops n T ⟨dd,.alloc t,ty,pos,es,gd⟩=some d:=by exact rfl) (hz:zok sz zz=true:=by exact rfl) (hy:∀ o,ev (st.set o (.cells t sz [zrow zz])) ((d,.cptr o sz 0 0)::T) y=some v:=by exact fun _=>rfl)
  (hv:storable v=true:=by exact rfl) (hsz:Nat.beq v.cells.length sz=true:=by exact rfl)
  (z:AOps P n ops rest K E ((d,.eptr sz [v.cells] 0 0)::T) st) :
  AOps P n ops (⟨dd,.alloc t,ty,pos,es,gd⟩::⟨none,.store t (.tmp d) y,ty2,pos2,es2,none⟩::rest) K E T st:=alN hg hz hy hv hsz z
theorem YB {t:TypeId} {sz by_:Nat} {zz:Value} [hi:Inf P t sz by_ zz] {o s:Nat} {off:Nat} {row row':List AV} {v:AV} {oty:TypeId}
  (hw:wantedA ops T ⟨none,.store t x y,ty,pos,es,gd⟩=some true:=by exact rfl) (hx:ev (st.set o (.cells oty s [row])) T x=some (.cptr o s 0 off):=by exact rfl) (hy:ev (st.set o (.cells oty s [row])) T y=some v:=by exact rfl)
  (hv:storable v=true:=by exact rfl) (hsz:Nat.beq v.cells.length sz=true:=by exact rfl) (hle:off + v.cells.length≤row.length:=by assumption) (he:rowSet row off v.cells=row':=by assumption)
  (z:AOps P n ops rest K E T (st.set o (.cells oty s [row']))):AOps P n ops (⟨none,.store t x y,ty,pos,es,gd⟩::rest) K E T (st.set o (.cells oty s [row])):=so1 hw hx hy hv hsz hle he z
theorem YC {f:FuncId} [hf:GoFun P f] {args:Array Operand} {tys:Array TypeId} {avs:List AV} {X:AV}
  (hg:goes ops n T ⟨dd,.call ⟨.value (.func f),args,tys⟩,ty,pos,es,gd⟩=some d:=by exact rfl) (ha:evs st T args.toList=some avs:=by exact rfl)
  (hc:PureFn P f avs X:=by exact inferInstance) (z:AOps P n ops rest K E ((d,X)::T) st) :
  AOps P n ops (⟨dd,.call ⟨.value (.func f),args,tys⟩,ty,pos,es,gd⟩::rest) K E T st:=clp hg ha hc z
theorem YD {o:Oper} {t:Nat} {b:Bool} (h:gtmp ops T o=some (t,b):=by exact rfl) (hb:b=true:=by (fail_if_success rfl); first|assumption|exact decide_eq_true (by assumption)|exact decide_eq_true rfl|exact decide_eq_true (by omega)) (z:AOps P n ops (o::rest) K E ((t,.bool true)::T) st):AOps P n ops (o::rest) K E T st:=gB true h hb z
theorem YE {o:Oper} {t:Nat} {b:Bool} (h:gtmp ops T o=some (t,b):=by exact rfl) (hb:b=false:=by (fail_if_success rfl); first|assumption|exact decide_eq_false (by assumption)|exact decide_eq_false (by omega)) (z:AOps P n ops (o::rest) K E ((t,.bool false)::T) st):AOps P n ops (o::rest) K E T st:=gB false h hb z
theorem YH {c:Operand} {x y:Code} {b:Bool} (hc:ev st T c=some (.bool b):=by exact rfl) (hb:b=true:=by first|exact rfl|assumption|exact decide_eq_true (by assumption)|exact decide_eq_true rfl|exact decide_eq_true (by omega)) (z:AWP P n x K E T st):AWP P n (.cond c x y) K E T st:=cT hc hb z
theorem YI {c:Operand} {x y:Code} {b:Bool} (hc:ev st T c=some (.bool b):=by exact rfl) (hb:b=false:=by first|exact rfl|assumption|exact decide_eq_false (by assumption)|exact decide_eq_false (by omega)) (z:AWP P n y K E T st):AWP P n (.cond c x y) K E T st:=cF hc hb z
theorem YJ {t u:TypeId} {a b:Int} (hg:goes ops n T ⟨dd,.binOp .add t x y u,ty,pos,es,gd⟩=some d:=by exact rfl)
  (hx:ev st T x=some (.int .i64 a):=by exact rfl) (hy:ev st T y=some (.int .i64 b):=by exact rfl) (hc:-9223372036854775808≤a + b∧a + b < 9223372036854775808:=by omega)
  (z:AOps P n ops rest K E ((d,.int .i64 (a + b))::T) st):AOps P n ops (⟨dd,.binOp .add t x y u,ty,pos,es,gd⟩::rest) K E T st:=Go.AM.ad hg hx hy hc z
theorem YK {t u:TypeId} {a b:Int} (hg:goes ops n T ⟨dd,.binOp .sub t x y u,ty,pos,es,gd⟩=some d:=by exact rfl)
  (hx:ev st T x=some (.int .i64 a):=by exact rfl) (hy:ev st T y=some (.int .i64 b):=by exact rfl) (hc:-9223372036854775808≤a - b∧a - b < 9223372036854775808:=by omega)
  (z:AOps P n ops rest K E ((d,.int .i64 (a - b))::T) st):AOps P n ops (⟨dd,.binOp .sub t x y u,ty,pos,es,gd⟩::rest) K E T st:=Go.AM.sb hg hx hy hc z
theorem nz {v:AV}:AOps P n ops [] (fun T' st''=>∃ u,T'=(d,u)::T∧(u=v∧st''=st)) E ((d,v)::T) st:=nl ⟨_,rfl,rfl,rfl⟩
theorem dp {e:Nat} {Φ:AV→St→Prop} {i:Nat} {o:Oper} {r:List Oper} {d:Tmp} {v:AV} {k:Tmps→Prop} (hi:Nat.beq i e=false:=by exact rfl) (hd:dstA n o.dst=some d:=by exact rfl) (hw:wantedA ops (see ops o T) o=some true:=by exact rfl)
  (h:∀ st',StLe st' st.notok→AOps P n ops [o] (fun T' st''=>∃ u,T'=(d,u)::see ops o T∧(u=v∧st''=st')) (fun _ _ _=>False) (see ops o T) st')
  (z:DRun P n st ops e Φ (i + 1) r ((d,v)::T) k):DRun P n st ops e Φ i (o::r) T k:=dq hi hd hw h z
end
end Go.AM
namespace Go.AM
section
variable {P:Program} {n:Nat} {T:Tmps} {I:St→Prop} {ops:Array Oper} {Qs:List (AV→Prop)}
theorem diQ {o:Oper} {r:List Oper} {d:Tmp} {v:AV} {k:Tmps→St→Prop} (hd:dstA n o.dst=some d) (hw:wantedA ops (see ops o T) o=some true)
  (h:∀ st',I st'→AOps P n ops [o] (fun T' st''=>∃ u,T'=(d,u)::see ops o T∧(u=v∧st''=st')) (fun _ _ _=>False) (see ops o T) st')
  (hr:DRunI P n I ops r Qs ((d,v)::T) k):DRunI P n I ops (o::r) ((fun u=>u=v)::Qs) T k:=by
 obtain ⟨hd1,hd2⟩:=dstA_some hd;have hdn:d < n:=dstOk_lt hd2 d hd1;refine ⟨d,hd1,by simpa using hdn,⟨v,rfl⟩,.inl ⟨hw,?_⟩,fun u hu=>by subst hu; exact hr⟩;intro st' g w a K' Q' hI hs hk hn hK;exact AOps.single hd1 hdn (h st' hI) hw hs hk K' Q' (fun rv g' w' u st'' he hs' hR hu=>by obtain ⟨rfl,rfl⟩:=hu; exact hK rv g' w' _ _ he hs' hR rfl hI) hn
theorem diE (Q:AV→Prop) {o:Oper} {r:List Oper} {d:Tmp} {k:Tmps→St→Prop} (hd:dstA n o.dst=some d) (hw:wantedA ops (see ops o T) o=some true) (hex:∃ u,Q u)
  (h:∀ st',I st'→AOps P n ops [o] (fun T' st''=>∃ u,T'=(d,u)::see ops o T∧(Q u∧I st'')) (fun _ _ _=>False) (see ops o T) st')
  (hr:∀ u,Q u→DRunI P n I ops r Qs ((d,u)::T) k):DRunI P n I ops (o::r) (Q::Qs) T k:=by
 obtain ⟨hd1,hd2⟩:=dstA_some hd;have hdn:d < n:=dstOk_lt hd2 d hd1;refine ⟨d,hd1,by simpa using hdn,hex,.inl ⟨hw,?_⟩,hr⟩;intro st' g w a K' Q' hI hs hk hn hK;exact AOps.single hd1 hdn (h st' hI) hw hs hk K' Q' (fun rv g' w' u st'' he hs' hR hu=>hK rv g' w' _ _ he hs' hR hu.1 hu.2) hn
theorem diN {k:Tmps→St→Prop} (h:∀ st,I st→k T st):DRunI P n I ops [] [] T k:=h
end
end Go.AM
namespace Go.AM
open Go.RowKit (Below)
def mayBe (S:List Nat) (Es:List Nat) (i:Nat) (bs:List Bool):Bool :=
 (Es.zip bs).all fun p=>bif p.2 then !(Nat.beq p.1 i) && !((S.getD p.1 0).testBit i) else !((S.getD i 0).testBit p.1)
def setBit (Es:List Nat) (i:Nat) (bs:List Bool):List Bool:=(Es.zip bs).map fun p=>p.2 || Nat.beq p.1 i
def segOk (l:List Oper) (k k':Nat) (Es:List Nat):Bool :=
 let S:=predSets l []
 Nat.ble k k' && Nat.ble k' l.length && ((List.range l.length).all fun i =>
  match l[i]? with
  | none=>false
  | some o=>(edgesOf o).all (fun x=>Nat.blt x i) &&
   (bif Nat.blt i k then true
   else bif Nat.blt i k' then
    (o.dst.isSome || Es.contains i) && (List.range' k (k' - k)).all (fun j=>match l[j]? with
     | none=>false
     | some p=>(bif Nat.beq i j then true else (match o.dst,p.dst with|some a,some b=>!(Nat.beq a b)|_,_=>true)) &&
      (match p.dst with
       | some t=>bif (o.looksAt l.toArray).contains t then (S.getD i 0).testBit j else true
       | none=>true))
   else (List.range' k (k' - k)).all fun j=>(S.getD i 0).testBit j)) &&
 Es.all fun e=>Nat.ble k e && Nat.blt e k'
section
variable {P:Program} {n:Nat} {K:Post} {E:EPost} {T:Tmps} {st:St}
theorem preds_listed {l:List Oper} {listed:Array Bool} (hc:Closed l listed) {i:Nat} {o:Oper} (ho:l[i]?=some o) (he:∀ x ∈ edgesOf o,listed.getD x false=true) {j:Nat} (hj:((predSets l []).getD i 0).testBit j=true):listed.getD j false=true :=
 predSets_spec l listed hc l [] (fun j=>by simp) (fun i o hi=>by simp at hi) i o (by rw [predSets_length]; simpa using (List.getElem?_eq_some_iff.1 ho).1) ho he j hj
theorem segOk_spec {l:List Oper} {k k':Nat} {Es:List Nat} (h:segOk l k k' Es=true):k≤k'∧k'≤l.length∧(∀ i o,l[i]?=some o→∀ x ∈ edgesOf o,x < i) ∧
  (∀ i o,l[i]?=some o→k≤i→i < k'→(o.dst=none→Es.contains i=true)∧∀ j p,k≤j→j < k'→l[j]?=some p→(i≠j→∀ a b,o.dst=some a→p.dst=some b→a≠b) ∧
   (∀ t,p.dst=some t→(o.looksAt l.toArray).contains t=true→((predSets l []).getD i 0).testBit j=true)) ∧
  (∀ i o,k'≤i→l[i]?=some o→∀ j,k≤j→j < k'→((predSets l []).getD i 0).testBit j=true)∧∀ e ∈ Es,k≤e∧e < k':=by
 simp only [segOk,Bool.and_eq_true] at h;obtain ⟨⟨⟨h0,h00⟩,hall⟩,hE⟩:=h;have hat:∀ i o,l[i]?=some o→((edgesOf o).all (fun x=>Nat.blt x i)=true ∧
   (bif Nat.blt i k then true
   else bif Nat.blt i k' then
    (o.dst.isSome || Es.contains i) && (List.range' k (k' - k)).all (fun j=>match l[j]? with
     | none=>false
     | some p=>(bif Nat.beq i j then true else (match o.dst,p.dst with|some a,some b=>!(Nat.beq a b)|_,_=>true)) &&
      (match p.dst with
       | some t=>bif (o.looksAt l.toArray).contains t then ((predSets l []).getD i 0).testBit j else true
       | none=>true))
   else (List.range' k (k' - k)).all fun j=>((predSets l []).getD i 0).testBit j)=true):=by
  intro i o ho;have hi:=(List.getElem?_eq_some_iff.1 ho).1
  have:=List.all_eq_true.1 hall i (List.mem_range.2 hi);simp only [ho,Bool.and_eq_true] at this;exact this
 have hkk:=Nat.ble_le h0
 have hr:∀ j,k≤j→j < k'→j ∈ List.range' k (k' - k):=fun j h1 h2=>List.mem_range'_1.2 ⟨h1,by omega⟩;refine ⟨hkk,Nat.ble_le h00,fun i o ho x hx=>?_,fun i o ho hik hik'=>?_,fun i o hik ho j hj1 hj2=>?_,fun e he=>?_⟩
 ·have:=List.all_eq_true.1 (hat i o ho).1 x hx
  simpa [Nat.blt_eq] using this
 ·have h2:=(hat i o ho).2;rw [show Nat.blt i k=false by rw [Bool.eq_false_iff,Ne,Nat.blt_eq]; omega,cond_false,show Nat.blt i k'=true by simpa [Nat.blt_eq] using hik',cond_true,Bool.and_eq_true] at h2;refine ⟨fun hd=>?_,fun j p hj1 hj2 hp=>?_⟩
  ·rw [hd] at h2
   simpa using h2.1
  ·have h3:=List.all_eq_true.1 h2.2 j (hr j hj1 hj2);simp only [hp,Bool.and_eq_true] at h3;refine ⟨fun hij a b ha hb=>?_,fun t ht hlook=>?_⟩
   ·have h4:=h3.1;rw [nbeq_ne hij,cond_false,ha,hb] at h4;intro e;rw [e] at h4;simp at h4
   ·have h4:=h3.2;rw [ht] at h4
    simpa only [hlook,cond_true] using h4
 ·have h2:=(hat i o ho).2;rw [show Nat.blt i k=false by rw [Bool.eq_false_iff,Ne,Nat.blt_eq]; omega,cond_false,show Nat.blt i k'=false by rw [Bool.eq_false_iff,Ne,Nat.blt_eq]; omega,cond_false] at h2;exact List.all_eq_true.1 h2 j (hr j hj1 hj2)
 ·have h2:=List.all_eq_true.1 hE e he;simp only [Bool.and_eq_true] at h2;exact ⟨Nat.ble_le h2.1,by simpa [Nat.blt_eq] using h2.2⟩
def AAny (P:Program) (n:Nat) (l:List Oper) (i:Nat) (K:Post) (E:EPost) (T:Tmps) (st:St):Prop :=
 ∀ g0 w0 ds g w a (m:Nat) (listed:Array Bool),Ext g0 w0 g w→Sim g w st→Known g w T a→a.tmps.size=n→a.defers=ds→l.length≤i + m→listed.size=l.length→(∀ j,j < l.length→listed.getD j true=decide (j < i))→Closed l listed →
  wpAny P .any l.toArray (QOf n ds g0 w0 K E) m listed a w
theorem AWP.any {l:List Oper} {id:Nat} (hm:P.follows .mixedOrders=true) (h:AAny P n l 0 K E T st):AWP P n (.region id l.toArray true) K E T st:=by
 intro g0 w0 a0 hs0 hk0 hn0;refine wp_region_any hm ?_;obtain ⟨hed,hsd⟩:=hs0.draw;refine h g0 w0 _ g0 _ a0 _ _ hed hsd (hk0.ext hed) hn0 rfl (by simp) (by simp) (fun j hj=>?_) (fun i o ho hi=>?_)
 ·rw [Array.getD_eq_getD_getElem?,Array.getElem?_replicate,if_pos (by simpa using hj)];simp
 ·rw [Array.getD_eq_getD_getElem?,Array.getElem?_replicate] at hi;split at hi <;> cases hi
def textOk (l:List Oper) (i:Nat):Bool :=
 let S:=predSets l []
 Nat.ble i l.length && (List.range l.length).all fun j =>
  match l[j]? with
  | none=>false
  | some o=>(edgesOf o).all (fun x=>Nat.blt x j) && (bif Nat.blt j i then true else (List.range j).all fun q=>(S.getD j 0).testBit q)
theorem AAny.text {l:List Oper} {i:Nat} (hok:textOk l i=true) (h:AOps P n l.toArray (l.drop i) K E T st):AAny P n l i K E T st:=by
 simp only [textOk,Bool.and_eq_true] at hok;obtain ⟨h0,hall⟩:=hok;have hat:∀ j o,l[j]?=some o→((edgesOf o).all (fun x=>Nat.blt x j)=true∧(bif Nat.blt j i then true else (List.range j).all fun q=>((predSets l []).getD j 0).testBit q)=true):=by
  intro j o ho;have:=List.all_eq_true.1 hall j (List.mem_range.2 (List.getElem?_eq_some_iff.1 ho).1);simp only [ho,Bool.and_eq_true] at this;exact this
 intro g0 w0 ds g w a m listed he hs hk hn hd hm hsz hli hc;refine wpAny_tail (fun j o ho x hx=>?_) i (fun j o hij ho listed' hc' he' q hq=>?_) m i listed a w (Nat.le_refl _) (Nat.ble_le h0) hm hsz hli hc ?_
 ·have:=List.all_eq_true.1 (hat j o ho).1 x hx
  simpa [Nat.blt_eq] using this
 ·have h2:=(hat j o ho).2;rw [show Nat.blt j i=false by rw [Bool.eq_false_iff,Ne,Nat.blt_eq]; omega,cond_false] at h2;exact preds_listed hc' ho he' (List.all_eq_true.1 h2 q (List.mem_range.2 hq))
 ·subst hd;exact wpList_mono (fun _ _ _ q=>QOf.ext he q) _ _ _ (h g w a hs hk hn)
theorem getD_ft {listed:Array Bool} {j:Nat} (h:j < listed.size):listed.getD j false=listed.getD j true:=by
 rw [Array.getD_eq_getD_getElem?,Array.getD_eq_getD_getElem?,Array.getElem?_eq_getElem h];rfl
theorem AAny.one {l:List Oper} {i:Nat} {o:Oper} {d:Tmp} (hok:segOk l i (i + 1) []=true) (ho:l[i]?=some o) (hd:dstA n o.dst=some d) (hw:wantedA l.toArray T o=some true)
  (h:AOps P n l.toArray [o] (fun T' st'=>∃ u,T'=(d,u)::T∧AAny P n l (i + 1) K E ((d,u)::T) st') (fun _ _ _=>False) T st):AAny P n l i K E T st:=by
 obtain ⟨_,hile,hedge,_,htail,_⟩:=segOk_spec hok;obtain ⟨hd1,hd2⟩:=dstA_some hd;have hdn:d < n:=dstOk_lt hd2 d hd1;intro g0 w0 ds g w a m listed he hs hk hn hds hm hsz hli hc;have hil:i < l.length:=by omega
 obtain ⟨m,rfl⟩:∃ m',m=m' + 1:=⟨m - 1,by omega⟩;have hready:i ∈ Region.ready .any l.toArray listed:=ready_of_edges (by rw [hli i hil]; simp) ho (fun e he=>by
  have hlt:=hedge i _ ho e he;rw [getD_ft (by omega),hli e (by omega),decide_eq_true hlt])
 refine ⟨fun h0=>(by rw [h0] at hready; cases hready),fun j hj=>?_⟩;obtain ⟨h1,o',h2,h3⟩:=ready_edges hj;have hjl:=(List.getElem?_eq_some_iff.1 h2).1
 have hji:j=i:=by
  rw [hli j hjl] at h1;have hge:i≤j:=by simpa using h1
  rcases Nat.eq_or_lt_of_le hge with h'|h'
  ·exact h'.symm
  ·have h4:=preds_listed hc h2 h3 (htail j o' h' h2 i (Nat.le_refl _) (by omega));rw [getD_ft (by omega),hli i hil] at h4;simp at h4
 subst hji;rw [ho] at h2;cases h2;unfold wpOp;simp only [List.getElem?_toArray,ho];rw [wanted_of hk hw,if_pos rfl]
 left
 have hlist':∀ q,q < l.length→(listed.setIfInBounds j true).getD q true=decide (q < j + 1):=fun q hq=>by
  by_cases hqj:j=q
  ·subst hqj;rw [Array.getD_eq_getD_getElem?,Array.getElem?_setIfInBounds_self_of_lt (by omega)];simp
  ·rw [getD_set_ne true hqj,hli q hq]
   congr 1
   rw [eq_iff_iff];omega
 refine AOps.single hd1 hdn (v:=fun u st'=>AAny P n l (j + 1) K E ((d,u)::T) st') h hw hs hk _ _ (fun rv g' w' u st' he' hs' hR hv=>?_) hn;refine hv g0 w0 ds g' w' _ m _ (he.trans he') hs' ?_ (by rw [Act.size_put]; exact hn) (by rw [Act.defers_put]; exact hds) (by omega) (by simpa using hsz) hlist' (hc.set ho h3);have:=(hk.ext he').put (d:=o.dst) (fun t ht=>by rw [hd1] at ht; cases ht; rw [hn]; exact hdn) hR
 rwa [hd1] at this ⊢
def StepG (P:Program) (n:Nat) (I:List Bool→St→Prop) (S Es:List Nat) (i:Nat) (ops:Array Oper) (T:Tmps) (o:Oper) (Q:AV→Prop):Prop :=
 (wantedA ops T o=some true∧∀ bs,bs.length=Es.length→mayBe S Es i bs=true→EffJ P n (I bs) (I (setBit Es i bs)) T o Q)∨(wantedA ops T o=some false∧Q (.lit undef)∧Es.contains i=false)
def DRunG (P:Program) (n:Nat) (I:List Bool→St→Prop) (S Es:List Nat) (ops:Array Oper):Nat→List Oper→List (AV→Prop)→Tmps→(Tmps→St→Prop)→Prop
 | _,[],[],T,k=>∀ st,I (Es.map fun _=>true) st→k T st
 | i,o::r,Q::Qs,T,k=>(∃ u,Q u)∧dstOk o.dst n=true∧StepG P n I S Es i ops (see ops o T) o Q∧∀ u,Q u→DRunG P n I S Es ops (i + 1) r Qs (T.put o.dst u) k
 | _,_,_,_,_=>False
theorem DRunG.out {I:List Bool→St→Prop} {S Es:List Nat} {ops:Array Oper} {k:Tmps→St→Prop} (b:Nat) (us:Nat→AV) (l:List Oper):∀ (r:List Oper) (Qs:List (AV→Prop)) (i0:Nat),(∀ (i:Nat) (o:Oper),r[i]?=some o→l[i0 + i]?=some o)→(∀ (i:Nat) (Q:AV→Prop),Qs[i]?=some Q→Q (us (i0 + i))) →
  DRunG P n I S Es ops (b + i0) r Qs (ents l us i0++T) k→Qs.length=r.length∧(∀ st,I (Es.map fun _=>true) st→k (ents l us (i0 + r.length)++T) st) ∧
   ∀ i o,r[i]?=some o→∃ Q,dstOk o.dst n=true∧Qs[i]?=some Q∧StepG P n I S Es (b + (i0 + i)) ops (see ops o (ents l us (i0 + i)++T)) o Q
 | [],[],i0,_,_,h=>⟨rfl,h,fun i o ho=>by simp at ho⟩
 | [],_::_,_,_,_,h=>h.elim
 | _::_,[],_,_,_,h=>h.elim
 | o::r,Q::Qs,i0,hl,hq,h=>by
  obtain ⟨_,h2,h4,h5⟩:=h;have h6:=h5 (us i0) (hq 0 Q rfl)
  have hl0:l[i0]?=some o:=by simpa using hl 0 o rfl
  have he:(ents l us i0++T).put o.dst (us i0)=ents l us (i0 + 1)++T:=by
   rw [ents,hl0];simp only [Option.bind_some];cases o.dst <;> rfl
  rw [he,Nat.add_assoc] at h6;obtain ⟨a1,a2,a3⟩:=DRunG.out b us l r Qs (i0 + 1) (fun i o' ho'=>by have:=hl (i + 1) o' (by simpa using ho'); rwa [show i0 + (i + 1)=i0 + 1 + i by omega] at this) (fun i Q' hQ'=>by have:=hq (i + 1) Q' (by simpa using hQ'); rwa [show i0 + (i + 1)=i0 + 1 + i by omega] at this) h6;refine ⟨by simp [a1],by rw [List.length_cons,show i0 + (r.length + 1)=i0 + 1 + r.length by omega]; exact a2,fun i o' ho'=>?_⟩;cases i with
  | zero =>
   simp only [List.getElem?_cons_zero,Option.some.injEq] at ho';subst ho';exact ⟨Q,h2,rfl,h4⟩
  | succ i =>
   obtain ⟨Q',b1,b2,b3⟩:=a3 i o' (by simpa using ho');exact ⟨Q',b1,by simpa using b2,by rwa [show i0 + 1 + i=i0 + (i + 1) by omega] at b3⟩
theorem DRunG.fits {I:List Bool→St→Prop} {S Es:List Nat} {ops:Array Oper} {k:Tmps→St→Prop}:∀ (r:List Oper) (Qs:List (AV→Prop)) (i0:Nat) (T:Tmps),DRunG P n I S Es ops i0 r Qs T k→∀ (i:Nat) (Q:AV→Prop),Qs[i]?=some Q→∃ u,Q u
 | [],[],_,_,_,i,Q,h=>by simp at h
 | [],_::_,_,_,h,_,_,_=>h.elim
 | _::_,[],_,_,h,_,_,_=>h.elim
 | o::r,Q0::Qs,i0,T,h,i,Q,hq=>by
  obtain ⟨⟨u,hu⟩,h2,h4,h5⟩:=h;cases i with
  | zero=>simp at hq; subst hq; exact ⟨u,hu⟩
  | succ i=>exact DRunG.fits r Qs _ _ (h5 u hu) i Q (by simpa using hq)
theorem may_of {l:List Oper} {listed:Array Bool} (hc:Closed l listed) (hsz:listed.size=l.length) {i:Nat} {o:Oper} (ho:l[i]?=some o) (he:∀ x ∈ edgesOf o,listed.getD x false=true) (hun:listed.getD i false=false) (Es:List Nat) :
  mayBe (predSets l []) Es i (Es.map fun e=>listed.getD e false)=true:=by
 unfold mayBe;rw [List.all_eq_true];intro p hp;have hp2:p.1 ∈ Es∧p.2=listed.getD p.1 false:=by
  obtain ⟨q,hq⟩:=List.getElem?_of_mem hp;rw [List.getElem?_zip_eq_some] at hq;obtain ⟨h1,h2⟩:=hq;rw [List.getElem?_map,h1,Option.map_some,Option.some.injEq] at h2;exact ⟨List.mem_of_getElem? h1,h2.symm⟩
 obtain ⟨e,b⟩:=p;simp only at hp2 ⊢;obtain ⟨h1,h2⟩:=hp2;cases hb:b with
 | true =>
  rw [hb] at h2;have hel:e < l.length:=by
   rcases Nat.lt_or_ge e l.length with h|h
   ·exact h
   ·rw [Array.getD_eq_getD_getElem?,Array.getElem?_eq_none (by omega)] at h2; cases h2
  rw [cond_true,Bool.and_eq_true];refine ⟨?_,?_⟩
  ·cases hei:Nat.beq e i with
   | false=>rfl
   | true=>rw [Nat.eq_of_beq_eq_true hei,hun] at h2; cases h2
  ·cases ht:((predSets l []).getD e 0).testBit i with
   | false=>rfl
   | true =>
    have:=preds_listed hc (List.getElem?_eq_getElem hel) (fun x hx=>hc e _ (List.getElem?_eq_getElem hel) h2.symm x hx) ht;rw [hun] at this;cases this
 | false =>
  rw [hb] at h2;rw [cond_false];cases ht:((predSets l []).getD i 0).testBit e with
  | false=>rfl
  | true=>rw [preds_listed hc ho he ht] at h2; cases h2
theorem setBit_of {listed:Array Bool} {i:Nat} (hi:i < listed.size):∀ (Es:List Nat),(Es.map fun e=>(listed.setIfInBounds i true).getD e false)=setBit Es i (Es.map fun e=>listed.getD e false)
 | []=>rfl
 | e::Es=>by
  have:=setBit_of hi Es;unfold setBit at this ⊢;rw [List.map_cons,List.map_cons,List.zip_cons_cons,List.map_cons,this]
  congr 1
  by_cases h:i=e
  ·subst h;rw [Array.getD_eq_getD_getElem?,Array.getElem?_setIfInBounds_self_of_lt hi,nbeq_self];simp
  ·rw [getD_set_ne false h,nbeq_ne (Ne.symm h)];simp
theorem setBit_none {i:Nat}:∀ (Es:List Nat) (bs:List Bool),bs.length=Es.length→Es.contains i=false→setBit Es i bs=bs
 | [],[],_,_=>rfl
 | [],_::_,h,_=>by simp at h
 | _::_,[],h,_=>by simp at h
 | e::Es,b::bs,h,hc=>by
  rw [List.contains_cons,Bool.or_eq_false_iff] at hc;have:=setBit_none Es bs (by simpa using h) hc.2;unfold setBit at this ⊢;rw [List.zip_cons_cons,List.map_cons,this,nbeq_ne (fun h=>by subst h; simp at hc),Bool.or_false]
theorem AAny.seg {l:List Oper} {k:Nat} (k':Nat) (S Es:List Nat) (I:List Bool→St→Prop) (Qs:List (AV→Prop)) (hok:segOk l k k' Es=true) (hS:predSets l []=S) (hI:I (Es.map fun _=>false) st)
  (h:DRunG P n I S Es l.toArray k ((l.drop k).take (k' - k)) Qs T fun T' st'=>AAny P n l k' K E T' st'):AAny P n l k K E T st:=by
 subst hS;obtain ⟨hkk,hkl,hedge,hbody,htail,hEs⟩:=segOk_spec hok;have hfits:=DRunG.fits _ _ _ _ h
 have hget:∀ i,i < k' - k→(l.drop k)[i]?=l[k + i]?:=fun i _=>List.getElem?_drop
 have hout:=fun (us:Nat→AV) (hus:∀ (i:Nat) (Q:AV→Prop),Qs[i]?=some Q→Q (us (0 + i)))=>DRunG.out (T:=T) k us (l.drop k) ((l.drop k).take (k' - k)) Qs 0 (fun i o ho=>by
  have hi:i < k' - k:=by have:=(List.getElem?_eq_some_iff.1 ho).1; simp at this; omega
  rw [List.getElem?_take_of_lt hi] at ho
  rwa [Nat.zero_add]) hus h
 have hlk0:((l.drop k).take (k' - k)).length=k' - k:=by simp; omega
 obtain ⟨wit,hwit⟩:∃ wit:Nat→AV,∀ (i:Nat) (Q:AV→Prop),Qs[i]?=some Q→Q (wit i):=by
  have:∀ i:Nat,∃ u:AV,∀ Q:AV→Prop,Qs[i]?=some Q→Q u:=fun i=>by
   cases hq:Qs[i]? with
   | none=>exact ⟨.bool true,fun Q h=>by cases h⟩
   | some Q =>
    obtain ⟨u,hu⟩:=hfits i Q hq;exact ⟨u,fun Q' h=>by cases h; exact hu⟩
  exact ⟨fun i=>Classical.choose (this i),fun i Q hQ=>Classical.choose_spec (this i) Q hQ⟩
 have hQl:Qs.length=k' - k:=by rw [(hout wit (fun i Q hQ=>by rw [Nat.zero_add]; exact hwit i Q hQ)).1,hlk0]
 intro g0 w0 ds g1 w1 a1 m1 listed1 he1 hs1 hk1 hn1 hd1 hm1 hsz1 hli1 hc1
 let Inv:Array Bool→Act→World→Prop:=fun listed a w=>listed.size=l.length∧Closed l listed∧(∀ j,j < k→listed.getD j true=true)∧(∀ j,k'≤j→j < l.length→listed.getD j true=false)∧a.tmps.size=n∧a.defers=ds ∧
  ∃ g st1,Ext g0 w0 g w∧Sim g w st1∧I (Es.map fun e=>listed.getD e false) st1 ∧
   (∀ t v,Tmps.get T t=some v→(∀ i,i < k' - k→(l[k + i]?).bind (·.dst)=some t→listed.getD (k + i) false=false)→∃ rv,a.tmps[t]?=some rv∧R g w v rv) ∧
   (∀ i d Q,i < k' - k→(l[k + i]?).bind (·.dst)=some d→Qs[i]?=some Q→listed.getD (k + i) false=true→∃ u rv,Q u∧a.tmps[d]?=some rv∧R g w u rv)
 let μ:Array Bool→Nat:=fun listed=>(List.range l.length).countP fun j=>!listed.getD j true
 have hμ:∀ (listed:Array Bool) i,i < l.length→listed.size=l.length→listed.getD i true=false→μ (listed.setIfInBounds i true) + 1≤μ listed:=by
  intro listed i hil hsz hi;have gen:∀ (A:List Nat),i ∈ A→A.countP (fun j=>!(listed.setIfInBounds i true).getD j true) + 1≤A.countP (fun j=>!listed.getD j true):=by
   have le:∀ (A:List Nat),A.countP (fun j=>!(listed.setIfInBounds i true).getD j true)≤A.countP (fun j=>!listed.getD j true):=fun A=>List.countP_mono_left fun j _ hj=>by
    by_cases hij:i=j
    ·subst hij;rw [Array.getD_eq_getD_getElem?,Array.getElem?_setIfInBounds_self_of_lt (by omega)] at hj;simp at hj
    ·rw [getD_set_ne true hij] at hj; exact hj
   intro A
   induction A with
   | nil=>intro h; simp at h
   | cons x A ih =>
    intro h;rw [List.countP_cons,List.countP_cons];by_cases hx:x=i
    ·subst hx;have h1:(!(listed.setIfInBounds x true).getD x true)=false:=by
      rw [Array.getD_eq_getD_getElem?,Array.getElem?_setIfInBounds_self_of_lt (by omega)]; rfl
     have h2:(!listed.getD x true)=true:=by rw [hi]; rfl
     rw [h1,h2,if_neg (by decide),if_pos rfl];have:=le A;omega
    ·have hm':i ∈ A:=by rcases List.mem_cons.1 h with h|h; exact absurd h.symm hx; exact h
     have:=ih hm'
     have h3:(listed.setIfInBounds i true).getD x true=listed.getD x true:=getD_set_ne true (Ne.symm hx);rw [h3];omega
  exact gen _ (List.mem_range.2 hil)
 have choose:∀ (listed:Array Bool) (a:Act) (g:G) (w:World),(∀ i d Q,i < k' - k→(l[k + i]?).bind (·.dst)=some d→Qs[i]?=some Q→listed.getD (k + i) false=true→∃ u rv,Q u∧a.tmps[d]?=some rv∧R g w u rv) →
   ∃ us:Nat→AV,(∀ (i:Nat) (Q:AV→Prop),Qs[i]?=some Q→Q (us i))∧∀ i d,i < k' - k→(l[k + i]?).bind (·.dst)=some d→listed.getD (k + i) false=true→∃ rv,a.tmps[d]?=some rv∧R g w (us i) rv:=by
  intro listed a g w hB;have:∀ i:Nat,∃ u:AV,(∀ Q:AV→Prop,Qs[i]?=some Q→Q u)∧∀ d,i < k' - k→(l[k + i]?).bind (·.dst)=some d→listed.getD (k + i) false=true→∃ rv,a.tmps[d]?=some rv∧R g w u rv:=fun i=>by
   by_cases hc:i < k' - k∧listed.getD (k + i) false=true
   ·obtain ⟨hik,hli⟩:=hc;cases hd':(l[k + i]?).bind (·.dst) with
    | none=>exact ⟨wit i,hwit i,fun d _ hd2 _=>by cases hd2⟩
    | some d =>
     have hq:Qs[i]?=some (Qs[i]'(by omega)):=List.getElem?_eq_getElem _;obtain ⟨u,rv,h1,h2,h3⟩:=hB i d _ hik hd' hq hli;refine ⟨u,fun Q h=>by rw [hq] at h; cases h; exact h1,fun d' _ hd2 _=>?_⟩;cases hd2;exact ⟨rv,h2,h3⟩
   ·exact ⟨wit i,hwit i,fun d h1 _ h2=>absurd ⟨h1,h2⟩ hc⟩
  exact ⟨fun i=>Classical.choose (this i),fun i=>(Classical.choose_spec (this i)).1,fun i=>(Classical.choose_spec (this i)).2⟩
 have hentsget:∀ (us:Nat→AV) (i t:Nat) v,i≤k' - k→Tmps.get (ents (l.drop k) us i) t=some v→∃ j,j < i∧(l[k + j]?).bind (·.dst)=some t∧v=us j:=fun us i t v hi hg=>by
  obtain ⟨j,hj,hdj,rfl⟩:=ents_get i t _ hg;exact ⟨j,hj,by rw [← hget j (by omega)]; exact hdj,rfl⟩
 have hentsnone:∀ (us:Nat→AV) (i t:Nat),i≤k' - k→Tmps.get (ents (l.drop k) us i) t=none→∀ j,j < i→(l[k + j]?).bind (·.dst)≠some t:=fun us i t hi hg j hj=>by
  rw [← hget j (by omega)];exact ents_none i t hg j hj
 have done:∀ (m:Nat) (listed:Array Bool) (a:Act) (w:World),Inv listed a w→(∀ j,j < k'→listed.getD j true=true)→l.length≤k' + m→wpAny P .any l.toArray (QOf n ds g0 w0 K E) m listed a w:=by
  intro m listed a w ⟨hsz,hcl,hfst,htl,hn,hd,g,st1,he,hs,hI1,hA,hB⟩ hall hm';have hlist:∀ j,j < k'→listed.getD j false=true:=fun j hj=>by
   rw [getD_ft (by omega)]; exact hall j hj
  obtain ⟨us,hus,hus2⟩:=choose listed a g w hB;obtain ⟨_,hfin,_⟩:=hout us (fun i Q hQ=>by rw [Nat.zero_add]; exact hus i Q hQ);rw [hlk0,Nat.zero_add] at hfin;have hIt:(Es.map fun e=>listed.getD e false)=Es.map fun _=>true:=List.map_congr_left fun e he=>hlist e (hEs e he).2;rw [hIt] at hI1;refine hfin st1 hI1 g0 w0 ds g w a m listed he hs (fun t u hu=>?_) hn hd hm' hsz (fun j hj=>?_) hcl
  ·rw [get_append] at hu;cases hg:Tmps.get (ents (l.drop k) us (k' - k)) t with
   | some u' =>
    rw [hg] at hu;cases hu;obtain ⟨j,hj,hdj,rfl⟩:=hentsget us _ t _ (Nat.le_refl _) hg;exact hus2 j t hj hdj (hlist (k + j) (by omega))
   | none =>
    rw [hg] at hu;exact hA t u hu fun i hi hit=>absurd hit (hentsnone us _ t (Nat.le_refl _) hg i hi)
  ·by_cases hjk:j < k'
   ·rw [hall j hjk,decide_eq_true hjk]
   ·rw [htl j (by omega) hj,decide_eq_false hjk]
 have step:∀ (K':Act→World→Prop) (listed:Array Bool) (a:Act) (w:World) (q:Nat),Inv listed a w→q < k' - k→k + q ∈ Region.ready .any l.toArray listed→(∀ a' w',Inv (listed.setIfInBounds (k + q) true) a' w'→K' a' w') →
   wpOp P l.toArray (QOf n ds g0 w0 K E) (k + q) K' a w:=by
  intro K' listed a w q ⟨hsz,hcl,hfst,htl,hn,hd,g,st1,he,hs,hI1,hA,hB⟩ hqk hri hK;obtain ⟨hun,o,ho,hed'⟩:=ready_edges hri;have hil:=(List.getElem?_eq_some_iff.1 ho).1
  have hunf:listed.getD (k + q) false=false:=by
   rw [getD_ft (by omega)]; exact hun
  have hcl':=hcl.set ho hed'
  have hsz':(listed.setIfInBounds (k + q) true).size=l.length:=by simpa using hsz
  have hfst':∀ j,j < k→(listed.setIfInBounds (k + q) true).getD j true=true:=fun j h1=>by
   rw [getD_set_ne true (by omega)]; exact hfst j h1
  have htl':∀ j,k'≤j→j < l.length→(listed.setIfInBounds (k + q) true).getD j true=false:=fun j h1 h2=>by
   rw [getD_set_ne true (by omega)]; exact htl j h1 h2
  obtain ⟨us,hus,hus2⟩:=choose listed a g w hB;obtain ⟨_,_,hops⟩:=hout us (fun i Q hQ=>by rw [Nat.zero_add]; exact hus i Q hQ);obtain ⟨Q,hdn,hQi,hstep⟩:=hops q o (by rw [List.getElem?_take_of_lt hqk,hget q hqk]; exact ho);rw [Nat.zero_add] at hstep;have hlooked:∀ j,j < k' - k→∀ t,(l[k + j]?).bind (·.dst)=some t→(o.looksAt l.toArray).contains t=true→listed.getD (k + j) false=true∧j < q:=by
   intro j hj t hjt hlook;have hp:l[k + j]?=some l[k + j]:=List.getElem?_eq_getElem (by omega);rw [hp] at hjt;have h2:=((hbody (k + q) o ho (by omega) (by omega)).2 (k + j) _ (by omega) (by omega) hp).2 t hjt hlook;refine ⟨preds_listed hcl ho hed' h2,?_⟩;have hcl2:Closed l (Array.ofFn fun x:Fin l.length=>decide (x.val < k + q)):=by
    intro x ox hx hx' y hy;have hql:=(List.getElem?_eq_some_iff.1 hx).1;rw [Array.getD_eq_getD_getElem?,Array.getElem?_ofFn] at hx' ⊢;simp only [hql,dif_pos,Option.getD_some,decide_eq_true_eq] at hx';have hxq:=hedge x ox hx y hy;simp only [show y < l.length by omega,dif_pos,Option.getD_some,decide_eq_true_eq];omega
   have h3:=preds_listed hcl2 ho (fun x hx'=>by
    have hxi:=hedge (k + q) o ho x hx';rw [Array.getD_eq_getD_getElem?,Array.getElem?_ofFn];simp only [show x < l.length by omega,dif_pos,Option.getD_some,decide_eq_true_eq];exact hxi) h2
   rw [Array.getD_eq_getD_getElem?,Array.getElem?_ofFn] at h3;simp only [show k + j < l.length by omega,dif_pos,Option.getD_some,decide_eq_true_eq] at h3;omega
  have hknown:Known g w (see l.toArray o (ents (l.drop k) us q++T)) a:=fun t v ht=>by
   obtain ⟨hlook,hgt⟩:=get_filter _ _ _ _ ht;rw [get_append] at hgt;cases hg:Tmps.get (ents (l.drop k) us q) t with
   | some u' =>
    rw [hg] at hgt;cases hgt;obtain ⟨j,hj,hdj,rfl⟩:=hentsget us q t _ (by omega) hg;exact hus2 j t (by omega) hdj (hlooked j (by omega) t hdj hlook).1
   | none =>
    rw [hg] at hgt;refine hA t v hgt fun j hj hjt=>?_;have h1:=hlooked j hj t hjt hlook;exact absurd hjt (hentsnone us q t (by omega) hg j h1.2)
  have hother:∀ t,o.dst≠some t→∀ rv',(a.put o.dst rv').tmps[t]?=a.tmps[t]?:=fun t ht rv'=>by
   cases hod:o.dst with
   | none=>rfl
   | some d =>
    simp only [Act.put,Array.getElem?_setIfInBounds];rw [if_neg (fun h=>ht (by rw [hod,h]))]
  have hself:∀ d,o.dst=some d→∀ rv',(a.put o.dst rv').tmps[d]?=some rv':=fun d hod rv'=>by
   have hdn':=dstOk_lt hdn d hod;rw [hod];simp only [Act.put,Array.getElem?_setIfInBounds];simp [hn,hdn']
  have hdi:∀ d,(l[k + q]?).bind (·.dst)=some d→o.dst=some d:=fun d h=>by rw [ho] at h; exact h
  have after:∀ v rv g' w' st2,Ext g w g' w'→Sim g' w' st2→R g' w' v rv→Q v→I (setBit Es (k + q) (Es.map fun e=>listed.getD e false)) st2→Inv (listed.setIfInBounds (k + q) true) (a.put o.dst rv) w':=by
   intro v rv g' w' st2 he' hs' hR hQv hI2;refine ⟨hsz',hcl',hfst',htl',by rw [Act.size_put]; exact hn,by rw [Act.defers_put]; exact hd,g',st2,he.trans he',hs',by rw [setBit_of (by omega)]; exact hI2,fun t u ht hwr=>?_,fun j d' Q' hj hjd hjQ hjl=>?_⟩
   ·have htd:o.dst≠some t:=fun htd=>by
     have:=hwr q hqk (by rw [ho]; exact htd);rw [Array.getD_eq_getD_getElem?,Array.getElem?_setIfInBounds_self_of_lt (by omega)] at this;simp at this
    obtain ⟨ru,h1,h2⟩:=hA t u ht fun j hj hjt=>by
     have h3:=hwr j hj hjt;by_cases hij:q=j
     ·subst hij; exact hunf
     ·rwa [getD_set_ne false (by omega)] at h3
    exact ⟨ru,by rw [hother t htd]; exact h1,h2.ext he'⟩
   ·by_cases hij:q=j
    ·subst hij;rw [hQi] at hjQ;cases hjQ;exact ⟨v,rv,hQv,hself d' (hdi d' hjd) rv,hR⟩
    ·rw [getD_set_ne false (by omega)] at hjl;obtain ⟨u,ru,h1,h2,h3⟩:=hB j d' Q' hj hjd hjQ hjl;refine ⟨u,ru,h1,?_,h3.ext he'⟩;rw [hother d' ?_]
     ·exact h2
     ·have hp:l[k + j]?=some l[k + j]:=List.getElem?_eq_getElem (by omega);rw [hp] at hjd;exact fun hdd=>((hbody (k + q) o ho (by omega) (by omega)).2 (k + j) _ (by omega) (by omega) hp).1 (by omega) d' d' hdd hjd rfl
  unfold wpOp;simp only [List.getElem?_toArray,ho];rcases hstep with ⟨hw,hq1⟩|⟨hw,hq,hni⟩
  ·rw [wanted_of hknown hw,if_pos rfl]
   left
   exact hq1 _ (by simp) (may_of hcl hsz ho hed' hunf Es) st1 g w a K' _ hI1 hs hknown hn fun rv g' w' v st2 he' hs' hR hQv hI2=>hK _ _ (after v rv g' w' st2 he' hs' hR hQv hI2)
  ·rw [wanted_of hknown hw,if_neg (by simp)];exact hK _ _ (after _ undef g w st1 (.refl _ _) hs (.lit _) hq (by rw [setBit_none Es _ (by simp) hni]; exact hI1))
 have key:∀ (m:Nat) (listed:Array Bool) (a:Act) (w:World),Inv listed a w→μ listed≤m→wpAny P .any l.toArray (QOf n ds g0 w0 K E) m listed a w:=by
  intro m
  induction m with
  | zero =>
   intro listed a w hi hm0;have hall:∀ j,j < l.length→listed.getD j true=true:=fun j hj=>by
    cases hv:listed.getD j true with
    | true=>rfl
    | false=>have:=hμ listed j hj hi.1 hv; omega
   have hlk:l.length=k':=by
    rcases Nat.eq_or_lt_of_le hkl with h'|h'
    ·exact h'.symm
    ·have h1:=hall k' h'
     have h2:=hi.2.2.2.1 k' (Nat.le_refl _) h';rw [h1] at h2;cases h2
   exact done 0 listed a w hi (fun j hj=>hall j (by omega)) (by omega)
  | succ m ih =>
   intro listed a w hi hm1;by_cases hall:∀ j,j < k'→listed.getD j true=true
   ·refine done (m + 1) listed a w hi hall ?_;have:l.length - k'≤μ listed:=by
     exact countP_range_ge k' _ l.length fun j h1 h2=>by rw [hi.2.2.2.1 j h1 h2]; rfl
    omega
   ·have hex:∃ j,j < k'∧listed.getD j true=false∧∀ q,q < j→listed.getD q true=true:=by
     have:∃ j,j < k'∧listed.getD j true=false:=by
      apply Classical.byContradiction;intro hno;apply hall;intro j hj;cases hv:listed.getD j true with
      | true=>rfl
      | false=>exact absurd ⟨j,hj,hv⟩ hno
     obtain ⟨j,hj⟩:=this
     induction j using Nat.strongRecOn with
     | _ j ihj =>
      by_cases hq:∀ q,q < j→listed.getD q true=true
      ·exact ⟨j,hj.1,hj.2,hq⟩
      ·simp only [Classical.not_forall] at hq;obtain ⟨q,hqj,hq⟩:=hq;exact ihj q hqj ⟨by omega,by simpa using hq⟩
    obtain ⟨j0,hj0,hv0,hmin⟩:=hex;have hsz:=hi.1
    have hjl:j0 < l.length:=by omega
    have hkj:k≤j0:=by
     rcases Nat.lt_or_ge j0 k with h'|h'
     ·rw [hi.2.2.1 j0 h'] at hv0; cases hv0
     ·exact h'
    have hready:j0 ∈ Region.ready .any l.toArray listed:=ready_of_edges hv0 (List.getElem?_eq_getElem hjl) (fun x hx=>by
     have hxj:=hedge j0 _ (List.getElem?_eq_getElem hjl) x hx;rw [getD_ft (by omega)];exact hmin x hxj)
    refine ⟨fun h0=>(by rw [h0] at hready; cases hready),fun i hri=>?_⟩;obtain ⟨hun,o,ho,hed'⟩:=ready_edges hri;have hil:=(List.getElem?_eq_some_iff.1 ho).1
    have hik:i < k':=by
     rcases Nat.lt_or_ge i k' with h'|h'
     ·exact h'
     ·have h1:=preds_listed hi.2.1 ho hed' (htail i o h' ho j0 hkj hj0);rw [getD_ft (by omega),hv0] at h1;cases h1
    have hki:k≤i:=by
     rcases Nat.lt_or_ge i k with h'|h'
     ·rw [hi.2.2.1 i h'] at hun; cases hun
     ·exact h'
    obtain ⟨q,rfl⟩:∃ q,i=k + q:=⟨i - k,by omega⟩;exact step _ listed a w q hi (by omega) hri fun a' w' hi'=>ih _ a' w' hi' (by have:=hμ listed (k + q) hil hsz hun; omega)
 refine key m1 listed1 a1 w1 ⟨hsz1,hc1,fun j hj=>by rw [hli1 j (by omega),decide_eq_true hj],fun j h1 h2=>by rw [hli1 j h2,decide_eq_false (by omega)],hn1,hd1,g1,st,he1,hs1,?_,fun t v ht _=>hk1 t v ht,fun i d Q hi hdi _ hl=>?_⟩ ?_
 ·have:(Es.map fun e=>listed1.getD e false)=Es.map fun _=>false:=List.map_congr_left fun e he=>by
   obtain ⟨h1,h2⟩:=hEs e he;rw [getD_ft (by omega),hli1 e (by omega),decide_eq_false (by omega)]
  rw [this];exact hI
 ·rw [getD_ft (by omega),hli1 (k + i) (by omega),decide_eq_false (by omega)] at hl;cases hl
 ·have h2:μ listed1=(List.range l.length).countP fun j=>!decide (j < k):=List.countP_congr fun j hj=>by rw [hli1 j (List.mem_range.1 hj)]
  rw [h2];have h3:∀ N,(List.range N).countP (fun j=>!decide (j < k))≤N - k:=by
   intro N
   induction N with
   | zero=>simp
   | succ N ih =>
    rw [List.range_succ,List.countP_append,List.countP_singleton];by_cases hN:N < k
    ·simp only [hN,decide_true,Bool.not_true,Bool.false_eq_true,if_false]; omega
    ·simp only [hN,decide_false,Bool.not_false,if_true]; omega
  have:=h3 l.length;omega
def IG (sts:List Bool→Option St) (F:St→St→Prop) (base:St) (bs:List Bool) (s:St):Prop:=∃ s0,sts bs=some s0∧F s0 s∧StLe s base
variable {sts:List Bool→Option St} {F:St→St→Prop} {base:St} {S Es:List Nat} {ops:Array Oper} {Qs:List (AV→Prop)}
theorem AAny.segY {l:List Oper} {k:Nat} (k':Nat) (S Es:List Nat) (sts:List Bool→Option St) (F:St→St→Prop) (base:St) {Qs:List (AV→Prop)} {st0:St} (hok:segOk l k k' Es=true) (hS:predSets l []=S) (h0:sts (Es.map fun _=>false)=some st0) (hF:F st0 st) (hb:StLe st base)
  (h:DRunG P n (IG sts F base) S Es l.toArray k ((l.drop k).take (k' - k)) Qs T fun T' st'=>AAny P n l k' K E T' st'):AAny P n l k K E T st :=
 AAny.seg k' S Es (IG sts F base) Qs hok hS ⟨st0,h0,hF,hb⟩ h
theorem dqY {i:Nat} {o:Oper} {r:List Oper} {d:Tmp} {v:AV} {k:Tmps→St→Prop} (hi:Es.contains i=false:=by exact rfl) (hd:dstA n o.dst=some d:=by exact rfl) (hw:wantedA ops (see ops o T) o=some true:=by exact rfl)
  (h:∀ st',StLe st' base→AOps P n ops [o] (fun T' st''=>∃ u,T'=(d,u)::see ops o T∧(u=v∧st''=st')) (fun _ _ _=>False) (see ops o T) st')
  (z:DRunG P n (IG sts F base) S Es ops (i + 1) r Qs ((d,v)::T) k):DRunG P n (IG sts F base) S Es ops i (o::r) ((fun u=>u=v)::Qs) T k:=by
 obtain ⟨hd',hdn⟩:=dstA_some hd;refine ⟨⟨v,rfl⟩,hdn,.inl ⟨hw,fun bs hl _=>?_⟩,fun u hu=>?_⟩
 ·rw [setBit_none Es bs hl hi];intro s g w a K' Q' ⟨s0,h1,h2,hle⟩ hs hk hn hK;refine AOps.single hd' (dstOk_lt hdn d hd') (h s hle) hw hs hk K' Q' (fun rv g' w' u st' he hs' hR ⟨hu,hst⟩=>?_) hn;subst hu hst;exact hK rv g' w' u st' he hs' hR rfl ⟨s0,h1,h2,hle⟩
 ·subst hu;rw [hd'];exact z
theorem dsY {i:Nat} {o:Oper} {r:List Oper} {d:Tmp} {v:AV} {k:Tmps→St→Prop} (hi:Es.contains i=false:=by exact rfl) (hs:step1 ops n base (see ops o T) o=some (d,v):=by exact rfl)
  (z:DRunG P n (IG sts F base) S Es ops (i + 1) r Qs ((d,v)::T) k):DRunG P n (IG sts F base) S Es ops i (o::r) ((fun u=>u=v)::Qs) T k:=by
 have hg:goes ops n (see ops o T) o=some d:=by
  unfold step1 at hs;split at hs
  ·rename_i h1 h2;cases hs;exact h1
  ·cases hs
 obtain ⟨hw,hd,hok⟩:=goes_some hg;have hda:dstA n o.dst=some d:=by
  unfold goes at hg;rw [hw] at hg;exact hg
 exact dqY hi hda hw (fun st' hle=>sm ((step1_glob (n:=n) (ops:=ops) hle.glob (see ops o T) o).symm.trans hs) (nl ⟨v,rfl,rfl,rfl⟩)) z
theorem dfY (Q:AV→Prop) {i:Nat} {o:Oper} {r:List Oper} {d:Tmp} {k:Tmps→St→Prop} (hi:Es.contains i=false:=by exact rfl) (hd:dstA n o.dst=some d:=by exact rfl) (hw:wantedA ops (see ops o T) o=some true:=by exact rfl) (hex:∃ u,Q u)
  (h:∀ s0 s,F s0 s→StLe s base→AOps P n ops [o] (fun T' st''=>∃ u,T'=(d,u)::see ops o T∧(Q u∧F s0 st''∧StLe st'' base)) (fun _ _ _=>False) (see ops o T) s)
  (z:∀ u,Q u→DRunG P n (IG sts F base) S Es ops (i + 1) r Qs ((d,u)::T) k):DRunG P n (IG sts F base) S Es ops i (o::r) (Q::Qs) T k:=by
 obtain ⟨hd',hdn⟩:=dstA_some hd;refine ⟨hex,hdn,.inl ⟨hw,fun bs hl _=>?_⟩,fun u hu=>?_⟩
 ·rw [setBit_none Es bs hl hi];intro s g w a K' Q' ⟨s0,h1,h2,hle⟩ hs hk hn hK;exact AOps.single hd' (dstOk_lt hdn d hd') (h s0 s h2 hle) hw hs hk K' Q' (fun rv g' w' u st' he hs' hR hu=>hK rv g' w' u st' he hs' hR hu.1 ⟨s0,h1,hu.2⟩) hn
 ·rw [hd'];exact z u hu
def allBits:Nat→List (List Bool)
 | 0=>[[]]
 | k + 1=>(allBits k).flatMap fun bs=>[false::bs,true::bs]
theorem mem_allBits:∀ (bs:List Bool),bs ∈ allBits bs.length
 | []=>by simp [allBits]
 | b::bs=>by
  rw [List.length_cons,allBits,List.mem_flatMap];exact ⟨bs,mem_allBits bs,by cases b <;> simp⟩
def BAll:List (List Bool)→(List Bool→Prop)→Prop
 | [],_=>True
 | b::r,p=>p b∧BAll r p
theorem BAll.get {p:List Bool→Prop}:∀ {L:List (List Bool)},BAll L p→∀ bs ∈ L,p bs
 | b::r,h,bs,hb=>by
  rcases List.mem_cons.1 hb with hb|hb
  ·subst hb; exact h.1
  ·exact BAll.get h.2 bs hb
theorem deY (L:List (List Bool)) {i:Nat} {o:Oper} {r:List Oper} {k:Tmps→St→Prop} (hL:(allBits Es.length).filter (mayBe S Es i)=L) (hd:o.dst=none:=by exact rfl) (hw:wantedA ops (see ops o T) o=some true:=by exact rfl)
  (h:BAll L fun bs=>∀ s0,sts bs=some s0→∃ s1,sts (setBit Es i bs)=some s1∧∀ s,F s0 s→StLe s base→AOps P n ops [o] (fun T' st''=>T'=see ops o T∧F s1 st''∧StLe st'' base) (fun _ _ _=>False) (see ops o T) s)
  (z:DRunG P n (IG sts F base) S Es ops (i + 1) r Qs T k):DRunG P n (IG sts F base) S Es ops i (o::r) ((fun _=>True)::Qs) T k:=by
 refine ⟨⟨.bool true,trivial⟩,by rw [hd]; rfl,.inl ⟨hw,fun bs hl hm=>?_⟩,fun u _=>?_⟩
 ·intro s g w a K' Q' ⟨s0,h1,h2,hle⟩ hs hk hn hK;obtain ⟨s1,h3,h4⟩:=h.get bs (by rw [← hL,List.mem_filter]; exact ⟨by rw [← hl]; exact mem_allBits bs,hm⟩) s0 h1;refine AOps.singleN (h4 s h2 hle) hw hs hk K' Q' (fun rv g' w' st' he hs' hst=>?_) hn;exact hK rv g' w' (.lit rv) st' he hs' (.lit rv) trivial ⟨s1,h3,hst⟩
 ·rw [hd];exact z
theorem dnY {i:Nat} {sN:St} {k:Tmps→St→Prop} (hN:sts (Es.map fun _=>true)=some sN) (h:∀ s,F sN s→StLe s base→k T s):DRunG P n (IG sts F base) S Es ops i [] [] T k:=by
 intro s ⟨s0,h1,h2,h3⟩;rw [hN] at h1;cases h1;exact h s h2 h3
theorem AAny.segQ {l:List Oper} {k:Nat} (k':Nat) {Qs:List (AV→Prop)} (hok:segOk l k k' []=true)
  (h:DRunG P n (IG (fun _=>some st) (fun a b=>b=a) st) (predSets l []) [] l.toArray k ((l.drop k).take (k' - k)) Qs T fun T' st'=>AAny P n l k' K E T' st'):AAny P n l k K E T st :=
 AAny.seg k' _ [] _ Qs hok rfl ⟨st,rfl,rfl,.refl _⟩ h
theorem dnQ {i:Nat} {k:Tmps→St→Prop} (h:k T st):DRunG P n (IG (fun _=>some st) (fun a b=>b=a) st) S [] ops i [] [] T k:=by
 intro s ⟨s0,h1,h2,_⟩;cases h1;cases h2;exact h
theorem AAny.segF {l:List Oper} {k:Nat} (k':Nat) (F:St→Prop) {Qs:List (AV→Prop)} (base:St) (hok:segOk l k k' []=true) (hF:F st) (hb:∀ s,F s→StLe s base)
  (h:DRunG P n (IG (fun _=>some st) (fun _ b=>F b) base) (predSets l []) [] l.toArray k ((l.drop k).take (k' - k)) Qs T fun T' st'=>AAny P n l k' K E T' st'):AAny P n l k K E T st :=
 AAny.seg k' _ [] _ Qs hok rfl ⟨st,rfl,hF,hb _ hF⟩ h
theorem dnF {F:St→Prop} {i:Nat} {k:Tmps→St→Prop} (h:∀ s,F s→k T s):DRunG P n (IG (fun _=>some st) (fun _ b=>F b) base) S [] ops i [] [] T k:=by
 intro s ⟨s0,h1,h2,_⟩;exact h s h2
end
end Go.AM
namespace Go.AM
open Go.RowKit (Below)
section
variable {P:Program} {n:Nat} {K:Post} {E:EPost} {T:Tmps} {st:St} {ops:Array Oper} {rest:List Oper}
variable {ty:TypeId} {pos:String} {es:Array Edge} {gd:Option (Nat × Bool)} {d:Tmp} {x y:Operand} {dd:Option Tmp}
theorem append_nil_msl {g:G} {w:World} (hs:Sim g w st) {t e:TypeId} {sz by_:Nat} {ez:Value} [hu:Und P t (.slice e)] [hie:Inf P e sz by_ ez] (hz:zok sz ez=true) {ty:TypeId} {rows2:List (List AV)} {tk2:Tok} {uy:Value}
  (h2:R g w (.view sz rows2 tk2) uy) (h0:rows2≠[]) (hb:rows2.length * by_≤140737488355328) (hm:rows2.length≤maxLen) :
  ∃ v w' g' o',(Builtin.append_ #[t,t] ty #[.slice none 0 0,uy]).run P w=.ok v w'∧Ext g w g' w'∧Sim g' w' (st.set o' (.cells e sz rows2))∧R g' w' (.msl o' sz 0 rows2.length) v∧st.obj o'=none:=by
 obtain ⟨z1,z2,z3,z4⟩:=zok_spec hz;obtain ⟨inf,i1,i2,i3,i4⟩:=hie.out;obtain ⟨base2,cap2,f2,rfl,hnil2,hR2,hl2,h12,hcell2,hone2⟩:=src_of h2;have hpos:0 < rows2.length:=List.length_pos_iff.2 h0
 have hm64:rows2.length≤9223372036854775807:=by simp only [maxLen] at hm; omega
 obtain ⟨ad,rfl⟩:∃ ad,base2=some ad:=by
  cases base2 with
  | none=>exact absurd (hnil2 rfl).1 h0
  | some ad=>exact ⟨ad,rfl⟩
 subst i2;have hr:=run_append_nil (P:=P) w t ty e inf ez hu.out i1 i4 ad rows2.length cap2 (flatV f2 rows2.length inf.size) (flatV_length _ _ _) (hcell2 ad rfl) hpos (by omega)
  (by rw [i3]; omega)
 have hge:=grownCap_ge w rows2.length 0 e
 have hgm:=grownCap_le_maxLen w rows2.length 0 e hm;obtain ⟨hed,hsd⟩:=hs.draw;generalize hcp:grownCap w rows2.length 0 e=cp at hr hge hgm;generalize harr:(flatV f2 rows2.length inf.size).toArray++Builtin.zeroCells ez.cells (cp - rows2.length)=arr' at hr;have hsize':arr'.size=cp * inf.size:=by
  rw [← harr];simp only [Array.size_append,List.size_toArray,flatV_length,size_zeroCells,z1,← Nat.add_mul]
  congr 1
  omega
 obtain ⟨g',he,hs',hob',hnone⟩:=hsd.newObj (.cells arr' e) (.cells e inf.size rows2) (cp * inf.size) (fun g' he=>by
  refine ⟨arr',heap_alloc_new _ _,hsize',Nat.mul_le_mul_right _ hge,hl2,h12,fun i j row c hr hcj=>?_⟩;have hi:i < rows2.length:=(List.getElem?_eq_some_iff.1 hr).1
  have hj:j < inf.size:=by rw [← hl2 row (List.mem_of_getElem? hr)]; exact (List.getElem?_eq_some_iff.1 hcj).1
  have hlt:=mul_add_lt hi hj;refine ⟨f2 i j,?_,((hR2 i j row c hr hcj).ext hed).ext he⟩;rw [← harr,← Array.getElem?_toList];simp only [Array.toList_append];rw [List.getElem?_append_left (by rw [flatV_length]; exact hlt),flatV_at f2 hi hj])
 refine ⟨_,_,g',g.next,hr,hed.trans he,hs',?_,hnone⟩;have:=R.msl (g:=g') (w:=w.drew.alloc (.cells arr' e)) g.next inf.size 0 rows2.length cp w.drew.heap.size (cp * inf.size) hob' hge hgm (by simp)
 simpa using this
def mslot (sz:Nat) (len:Nat):Option Nat→AV
 | none=>.view 0 [] .nil
 | some o=>.msl o sz 0 len
def mst (st:St) (e:TypeId) (sz:Nat) (rows:List (List AV)):Option Nat→St
 | none=>st
 | some o=>st.set o (.cells e sz rows)
def mfit (st:St) (len:Nat):Option Nat→Prop
 | none=>len=0
 | some o=>st.obj o=none
theorem apq {t e:TypeId} {sz by_:Nat} {ez:Value} [hu:Und P t (.slice e)] [hie:Inf P e (sz + 1) by_ ez] {oo:Option Nat} {rows rows2:List (List AV)} {tk2:Tok}
  (hg:goes ops n T ⟨dd,.call ⟨.builtin .append,#[x,y],#[t,t]⟩,ty,pos,es,gd⟩=some d) (hx:ev st T x=some (mslot (sz + 1) rows.length oo)) (hy:ev st T y=some (.view (sz + 1) rows2 tk2)) (hf:mfit st rows.length oo)
  (h0:rows2≠[]) (hz:zok (sz + 1) ez=true) (hb:(rows.length + rows2.length) * by_≤140737488355328) (hm:rows.length + rows2.length≤maxLen)
  (k:∀ o',st.obj o'=none→AOps P n ops rest K E ((d,.msl o' (sz + 1) 0 (rows.length + rows2.length))::T) (st.set o' (.cells e (sz + 1) (rows++rows2)))) :
  AOps P n ops (⟨dd,.call ⟨.builtin .append,#[x,y],#[t,t]⟩,ty,pos,es,gd⟩::rest) K E T (mst st e (sz + 1) rows oo):=by
 cases oo with
 | none =>
  have hrows:rows=[]:=List.eq_nil_of_length_eq_zero hf;subst hrows;refine AOps.stepAny hg fun g w a hs hk=>?_;have h1:=ev_R hs hk hx
  have h2:=ev_R hs hk hy;generalize hux:a.eval x=ux at h1;generalize huy:a.eval y=uy at h2;have hrv:ux=.slice none 0 0:=by
   cases h1 with
   | vnil=>rfl
   | vemp _ _ _ hn _=>exact absurd rfl hn
   | view _ _ _ _ _ _ _ _ _ _ _ ht'=>simp [TokAt] at ht'
  subst hrv;obtain ⟨v,w',g',o',hr,he,hs',hR,hn⟩:=append_nil_msl (P:=P) hs (t:=t) (ty:=ty) hz h2 h0 (by simpa using hb) (by simpa using hm);exact ⟨v,g',w',_,_,by simp [execOp,resolve,invoke,builtin,hux,huy,hr],he,hs',by simpa using hR,k o' hn⟩
 | some o =>
  have hfo:st.obj o=none:=hf
  have hx':ev (mst st e (sz + 1) rows (some o)) T x=some (.msl o (sz + 1) 0 rows.length):=(ev_glob (s:=mst st e (sz + 1) rows (some o)) (s':=st) rfl T x).trans hx
  have hy':ev (mst st e (sz + 1) rows (some o)) T y=some (.view (sz + 1) rows2 tk2):=(ev_glob (s:=mst st e (sz + 1) rows (some o)) (s':=st) rfl T y).trans hy;refine apm hg hx' hy' (St.obj_set _ _ _) (Nat.le_refl _) h0 hz hb hm fun o' ho'=>?_;have hn:st.obj o'=none:=by
   rcases ho' with h|h
   ·rw [h]; exact hfo
   ·by_cases e:o'=o
    ·rw [e]; exact hfo
    ·have h':(st.set o (.cells _ (sz + 1) rows)).obj o'=none:=h
     rwa [St.obj_set_ne e] at h'
  rw [List.take_of_length_le (Nat.le_refl _)];exact AOps.weaken (TLe.refl _) (StLe.regrow hfo) (k o' hn)
theorem Sim.frzIn {g:G} {w:World} (hs:Sim g w st) {o o' s i j sz lo len:Nat} {oty oty':TypeId} {rows rows':List (List AV)} {row:List AV} (hne:o≠o') (ho:st.obj o=some (.cells oty s rows)) (hr:rows[i]?=some row) (hj:row[j]?=some (.msl o' sz lo len))
  (ho':st.obj o'=some (.cells oty' sz rows')) (hl:lo + len≤rows'.length) :
  ∃ g',Ext g w g' w∧Sim g' w ((st.drop o').set o (.cells oty s (rows.set i (row.set j (.view sz ((rows'.drop lo).take len) .shared))))):=by
 obtain ⟨b,m,hb,_,_,_⟩:=hs.objs o _ ho;obtain ⟨_,⟨arr,ha,hasz,hml,hlr,h1,hc⟩,_⟩:=hs.objOf ho hb;obtain ⟨v0,hv0,hR0⟩:=hc i j row _ hr hj;obtain ⟨g',he,hs',hRv⟩:=hR0.frozen hs ho' hl;have hoo:(st.drop o').obj o=some (.cells oty s rows):=by rw [St.obj_drop_ne hne]; exact ho
 have hb':=he.obj o _ hb
 have hil:i < rows.length:=(List.getElem?_eq_some_iff.1 hr).1
 have hjl:j < row.length:=(List.getElem?_eq_some_iff.1 hj).1;obtain ⟨_,⟨arr2,ha2,hasz2,hml2,hlr2,h12,hc2⟩,_⟩:=hs'.objOf hoo hb';rw [ha] at ha2;cases ha2;obtain ⟨he2,hs2⟩:=hs'.write (c':=.cells oty s (rows.set i (row.set j (.view sz ((rows'.drop lo).take len) .shared)))) hoo hb' w rfl rfl rfl rfl (fun _ _=>rfl) (fun _=>by
  refine ⟨arr,ha,hasz,by simpa using hml,fun r hm=>?_,fun r hm=>?_,fun i' j' r c hr' hc'=>?_⟩
  ·rcases List.mem_or_eq_of_mem_set hm with h|h
   ·exact hlr r h
   ·rw [h,List.length_set]; exact hlr row (List.mem_of_getElem? hr)
  ·rcases List.mem_or_eq_of_mem_set hm with h|h
   ·exact h1 r h
   ·subst h;intro c hcm;rcases List.mem_or_eq_of_mem_set hcm with h2|h2
    ·exact h1 row (List.mem_of_getElem? hr) c h2
    ·subst h2; rfl
  ·by_cases hi:i'=i
   ·subst hi;rw [List.getElem?_set_self hil] at hr';cases hr';by_cases hjj:j'=j
    ·subst hjj;rw [List.getElem?_set_self hjl] at hc';cases hc';exact ⟨v0,hv0,hRv⟩
    ·rw [List.getElem?_set_ne (Ne.symm hjj)] at hc';exact hc2 i' j' row c hr hc'
   ·rw [List.getElem?_set_ne (Ne.symm hi)] at hr';exact hc2 i' j' r c hr' hc')
 exact ⟨g',he,hs2⟩
theorem AWP.frzIn {c:Code} {o o' s i j sz lo len:Nat} {oty oty':TypeId} {rows rows':List (List AV)} {row:List AV} (hne:o≠o') (ho:st.obj o=some (.cells oty s rows)) (hr:rows[i]?=some row) (hj:row[j]?=some (.msl o' sz lo len))
  (ho':st.obj o'=some (.cells oty' sz rows')) (hl:lo + len≤rows'.length)
  (h:AWP P n c K E T ((st.drop o').set o (.cells oty s (rows.set i (row.set j (.view sz ((rows'.drop lo).take len) .shared)))))):AWP P n c K E T st :=
 AWP.ghost fun g w a hs hk=>by
  obtain ⟨g',he,hs'⟩:=hs.frzIn hne ho hr hj ho' hl;exact ⟨g',T,_,he,hs',hk.ext he,h⟩
theorem lnq {t u:TypeId} {e:TypeId} [hu:Und P t (.slice e)] {sz len:Nat} {oo:Option Nat}
  (hg:goes ops n T ⟨dd,.call ⟨.builtin .len,#[x],#[t]⟩,u,pos,es,gd⟩=some d) (hx:ev st T x=some (mslot sz len oo)) (h0:oo=none→len=0)
  (k:AOps P n ops rest K E ((d,.int .i64 len)::T) st):AOps P n ops (⟨dd,.call ⟨.builtin .len,#[x],#[t]⟩,u,pos,es,gd⟩::rest) K E T st:=by
 cases oo with
 | none =>
  have h:=h0 rfl;subst h;exact lnv hg hx k
 | some o=>exact lnm hg hx k
def St.bareOf (s:St):St:={ obj:=fun _=>none,tok:=fun _=>false,glob:=s.glob }
theorem StLe.bare {s s':St} (h:s'.glob=s.glob):StLe s' s.bareOf:=⟨fun _ _ h=>(by cases h),fun _ h=>(by cases h),h.symm⟩
theorem absV_agg {cs:Array Value} (h:cs.toList.all Value.oneCell'=true):absV (.agg cs)=.agg (cs.toList.map abs1):=by
 have h':cs.all Value.oneCell'=true:=by rw [← Array.all_toList]; exact h
 simp only [absV,h',cond_true]
theorem bz1 {t e:TypeId} {esz eby:Nat} {ez:Value} {cs:Array Value} {row:List AV} [hu:Und P t (.slice e)] [hie:Inf P e (esz + 1) eby ez] (hg:goes ops n T ⟨dd,.buildSlice t 1 #[(0,.const (.agg cs))],ty,pos,es,gd⟩=some d:=by exact rfl)
  (hz:zok (esz + 1) ez=true:=by exact rfl) (hsm:Nat.ble (1 * (esz + 1)) 16777216=true:=by exact rfl) (hc:cs.toList.all Value.oneCell'=true:=by exact rfl) (hr:cs.toList.map abs1=row:=by exact rfl) (hl:Nat.beq row.length (esz + 1)=true:=by exact rfl)
  (z:AOps P n ops rest K E ((d,.view (esz + 1) [row] .shared)::T) st):AOps P n ops (⟨dd,.buildSlice t 1 #[(0,.const (.agg cs))],ty,pos,es,gd⟩::rest) K E T st:=by
 refine bs1 (v:=.agg row) hg hz hsm ?_ hl rfl z;rw [← hr];exact congrArg some (absV_agg hc)
end
end Go.AM
namespace Go.AM
open Go.RowKit (Below)
section
variable {P:Program} {n:Nat} {K:Post} {E:EPost} {T:Tmps} {st:St}
def setV (Es:List Nat) (i:Nat) (v:AV) (vs:List (Option AV)):List (Option AV):=(Es.zip vs).map fun p=>bif Nat.beq p.1 i then some v else p.2
def LinkV (Es:List Nat) (i:Nat) (vals:Nat→AV) (vs:List (Option AV)):Prop:=∀ p ∈ Es.zip vs,p.1 < i→∀ u,p.2=some u→u=vals p.1
def valsOf (Es:List Nat) (listed:Array Bool) (us:Nat→AV):List (Option AV):=Es.map fun e=>bif listed.getD e false then some (us e) else none
theorem valsOf_some (Es:List Nat) (listed:Array Bool) (us:Nat→AV):(valsOf Es listed us).map Option.isSome=Es.map fun e=>listed.getD e false:=by
 unfold valsOf;rw [List.map_map];refine List.map_congr_left fun e _=>?_;show Option.isSome (bif listed.getD e false then some (us e) else none)=_;cases listed.getD e false <;> rfl
theorem setV_of {listed:Array Bool} {i:Nat} (hi:i < listed.size) (us:Nat→AV) (v:AV):∀ (Es:List Nat),valsOf Es (listed.setIfInBounds i true) (fun j=>bif Nat.beq j i then v else us j)=setV Es i v (valsOf Es listed us)
 | []=>rfl
 | e::Es=>by
  have:=setV_of hi us v Es;unfold setV valsOf at this ⊢;rw [List.map_cons,List.map_cons,List.zip_cons_cons,List.map_cons,this]
  congr 1
  by_cases h:i=e
  ·subst h;rw [Array.getD_eq_getD_getElem?,Array.getElem?_setIfInBounds_self_of_lt hi];simp only [nbeq_self,Option.getD_some,cond_true]
  ·rw [getD_set_ne false h];simp only [nbeq_ne (Ne.symm h),cond_false]
theorem setV_none {i:Nat} {v:AV}:∀ (Es:List Nat) (vs:List (Option AV)),vs.length=Es.length→Es.contains i=false→setV Es i v vs=vs
 | [],[],_,_=>rfl
 | [],_::_,h,_=>by simp at h
 | _::_,[],h,_=>by simp at h
 | e::Es,b::bs,h,hc=>by
  rw [List.contains_cons,Bool.or_eq_false_iff] at hc;have:=setV_none (v:=v) Es bs (by simpa using h) hc.2;unfold setV at this ⊢;rw [List.zip_cons_cons,List.map_cons,this,nbeq_ne (fun h=>by subst h; simp at hc),cond_false]
variable {J:List (Option AV)→St→Prop} {base:St} {S Es:List Nat} {ops:Array Oper} {Qs:List (AV→Prop)} {vals:Nat→AV}
variable {rest:List Oper} {ty:TypeId} {pos:String} {es:Array Edge} {gd:Option (Nat × Bool)} {d:Tmp} {x y:Operand} {dd:Option Tmp}
theorem bs0 {t e:TypeId} {sz eby:Nat} {ez:Value} [hu:Und P t (.slice e)] [hie:Inf P e sz eby ez] (hg:goes ops n T ⟨dd,.buildSlice t 0 #[],ty,pos,es,gd⟩=some d:=by exact rfl)
  (z:AOps P n ops rest K E ((d,.view sz [] .full)::T) st):AOps P n ops (⟨dd,.buildSlice t 0 #[],ty,pos,es,gd⟩::rest) K E T st:=by
 refine AOps.stepAny hg fun g w a hs hk=>?_;have hrun:(Instr.buildSlice t 0 #[]).run P w=.ok (.slice (some ⟨w.heap.size,0,none⟩) 0 0) (w.alloc (.cells #[] e)) :=
  run_buildSlice (P:=P) (e:=e) (len:=0) (sz:=sz) (eby:=eby) (ez:=ez) (by simp) #[] #[] w (by rw [Nat.zero_mul,show Array.map (fun x=>ez.cells[x % ez.cells.size]!) (Array.range 0)=#[] by simp]; rfl)
 obtain ⟨g',he,hs',_,_,_,_,_⟩:=hs.newImm (.cells #[] e) (fun _=>False);exact ⟨.slice (some ⟨w.heap.size,0,none⟩) 0 0,g',w.alloc (.cells #[] e),.view sz [] .full,st,by simp [execOp,hrun],he,hs',.vemp _ _ _ (fun h=>by cases h) (show (0:Nat)=0 from rfl),z⟩
theorem apf {t e:TypeId} {sz by_:Nat} {ez:Value} [hu:Und P t (.slice e)] [hie:Inf P e (sz + 1) by_ ez] {rows2:List (List AV)} {tk2:Tok}
  (hg:goes ops n T ⟨dd,.call ⟨.builtin .append,#[x,y],#[t,t]⟩,ty,pos,es,gd⟩=some d) (hx:ev st T x=some (.view (sz + 1) [] .full)) (hy:ev st T y=some (.view (sz + 1) rows2 tk2))
  (hz:zok (sz + 1) ez=true) (hb:rows2.length * by_≤140737488355328) (hm:rows2.length≤maxLen)
  (k:∀ tk',st.tok tk'=false→AOps P n ops rest K E ((d,.view (sz + 1) rows2 (.own tk' e))::T) (st.addTok tk')) :
  AOps P n ops (⟨dd,.call ⟨.builtin .append,#[x,y],#[t,t]⟩,ty,pos,es,gd⟩::rest) K E T st:=by
 refine AOps.stepAny hg fun g w a hs hk=>?_;have h1:=ev_R hs hk hx
 have h2:=ev_R hs hk hy;generalize hux:a.eval x=ux at h1;generalize huy:a.eval y=uy at h2;have hemp:∀ ad,ux=.slice (some ad) 0 0→∃ rv g' w' v st1,(execOp a.eval ⟨dd,.call ⟨.builtin .append,#[x,y],#[t,t]⟩,ty,pos,es,gd⟩).run P w=.ok (.value rv) w'∧Ext g w g' w'∧Sim g' w' st1∧R g' w' v rv∧AOps P n ops rest K E ((d,v)::T) st1:=fun ad e=>by
  subst e;obtain ⟨v,w',g',tk',hr,he,hs',hR,hf,_⟩:=append_emp (P:=P) hs (t:=t) (ty:=ty) (Nat.succ_pos sz) hz ad h2 hb hm;exact ⟨v,g',w',_,_,by simp [execOp,resolve,invoke,builtin,hux,huy,hr],he,hs',hR,k tk' hf⟩
 cases h1 with
 | vnil =>
  obtain ⟨g1,he1,hs1,htk1,hf1⟩:=hs.nilTok e;obtain ⟨v,w',g',tk',hr,he,hs',hR,hf⟩:=append_view (P:=P) hs1 (t:=t) (ty:=ty) (rows:=[]) (tk:=g.next) (Nat.succ_pos sz) hz (.vnil _ _ (TokAt.mkOwn rfl htk1 (fun h=>absurd rfl h))) (h2.ext he1) (St.tok_addTok _ _) (by simpa using hb) (by simpa using hm);have hne:tk'≠g.next:=by intro e'; rw [e',St.tok_addTok] at hf; cases hf
  have hf':st.tok tk'=false:=by simpa [St.addTok,hne] using hf
  exact ⟨v,g',w',_,_,by simp [execOp,resolve,invoke,builtin,hux,huy,hr],he1.trans he,hs'.le (StLe.reTok hf1 tk'),by simpa using hR,k tk' hf'⟩
 | vemp _ _ ad=>exact hemp ad rfl
 | view _ _ _ b off cap f hc hmx hl h1x ht himm hh =>
  have hcap:cap=0:=by have:([]:List (List AV)).length=cap:=ht; simpa using this.symm
  subst hcap;exact hemp _ rfl
end
end Go.AM
namespace Go.AM
section
variable {P:Program} {n:Nat} {K:Post} {E:EPost} {T:Tmps} {st:St} {ops:Array Oper} {rest:List Oper} {d:Tmp} {dd:Option Tmp} {x y:Operand} {ty:TypeId} {pos:String} {es:Array Edge} {gd:Option (Nat × Bool)}
end
theorem AWP.cutK {P:Program} {n:Nat} {K:Post} {E E1:EPost} {T:Tmps} {st:St} {c c':Code} {α:Type} (sh:α→Tmps) (ss:α→St) (inv:α→Prop) (h:AWP P n c (fun T' st'=>∃ y,inv y∧TLe T' (sh y)∧StLe st' (ss y)) E1 T st)
  (k:∀ y,inv y→AWP P n c' K E (sh y) (ss y)):AWP P n c (AWP P n c' K E) E1 T st :=
 h.mono (fun _ _ ⟨y,h1,h2,h3⟩=>AWP.weaken h2 h3 (k y h1)) (fun _ _ _ h=>h)
section
variable {P:Program} {n:Nat} {T:Tmps} {base:St} {ops:Array Oper} {sts:List St} {Es:List Nat}
end
end Go.AM
namespace Go.AM
open Go.RowKit (Below shut_bool)
open Go.ChangeShapes Go.WideShapes Go.ChangeAt
section
variable {H:Type} {enc:TypeId × Value→H} {P:Program}
end
end Go.AM
namespace Go.AM
section
variable {P:Program} {t:TypeId} {a:AV} {n:Nat} {cs:List AV}
end
end Go.AM
namespace Go.AM
open Go.RowKit (Below)
section
variable {P:Program} {n:Nat} {K:Post} {E:EPost} {T:Tmps} {st:St} {ops:Array Oper} {rest:List Oper}
variable {ty:TypeId} {pos:String} {es:Array Edge} {gd:Option (Nat × Bool)} {d:Tmp} {x y:Operand} {dd:Option Tmp}

theorem pnk {t:TypeId} {v:AV} (hw:wantedA ops T ⟨none,.panic x,ty,pos,es,gd⟩=some true) (hx:ev st T x=some (.iface t v))
  (h:E (.panic (.iface t v)) T st):AOps P n ops (⟨none,.panic x,ty,pos,es,gd⟩::rest) K E T st:=by
 intro g w a hs hk hn;have h1:=ev_R hs hk hx;unfold wpList;rw [wanted_of hk hw,if_pos rfl]
 left
 generalize hu:a.eval x=u at h1;cases h1 with
 | iface _ _ rv hr =>
  have hrun:(execOp a.eval ⟨none,.panic x,ty,pos,es,gd⟩).run P w=.halt (.panic (.iface t rv)) w:=by
   show Sem.run P (Instr.panic (a.eval x) >>= fun z=>pure (Next.value z)) w=_;rw [hu];rfl
  unfold Oper.wp;rw [hrun];exact ⟨hn,rfl,g,T,st,.refl _ _,hs,hk,_,_,rfl,.iface t v rv hr,h⟩

def noIf:TypeDesc→Bool
 | .interface _=>false
 | _=>true
theorem conc {t:TypeId} {td:TypeDesc} [hq:Und P t td] (h:noIf td=true):P.concrete t=true:=by
 unfold Program.concrete;rw [hq.out];cases td <;> first|rfl|cases h
theorem mif {t:TypeId} {v:AV} {td:TypeDesc} [hq:Und P t td] (hg:goes ops n T ⟨dd,.makeInterface t x,ty,pos,es,gd⟩=some d) (hc:noIf td=true) (hx:ev st T x=some v)
  (h:AOps P n ops rest K E ((d,.iface t v)::T) st):AOps P n ops (⟨dd,.makeInterface t x,ty,pos,es,gd⟩::rest) K E T st:=by
 obtain ⟨hw,hd,hok⟩:=goes_some hg;simp only at hd;subst hd;refine AOps.pure hw hok _ (fun g w a' hs hk=>?_) h;have h1:=ev_R hs hk hx;exact ⟨.iface t (a'.eval x),by simp [execOp,run_makeInterface w t _ (conc hc)],.iface t v _ h1⟩

theorem eqI_nil {w:World} {t:TypeId} {ms} (hu:P.underlying t=some (.interface ms)) (k:Nat):(Op.equalIn (k + 1) t .nilIface .nilIface).run P w=.ok true w:=by
 simp [Op.equalIn,run_underlying hu]
theorem eqI_some {w:World} {t t':TypeId} {v:Value} {ms} (hu:P.underlying t=some (.interface ms)) (k:Nat):(Op.equalIn (k + 1) t (.iface t' v) .nilIface).run P w=.ok false w:=by
 simp [Op.equalIn,run_underlying hu]
theorem neI {t u:TypeId} {ms} {v:AV} {b:Bool} [hq:Und P t (.interface ms)] (hg:goes ops n T ⟨dd,.binOp .neq t x (.const .nilIface) u,ty,pos,es,gd⟩=some d)
  (hx:ev st T x=some v) (hv:(v=.lit .nilIface∧b=false)∨(∃ t' v',v=.iface t' v'∧b=true))
  (h:AOps P n ops rest K E ((d,.bool b)::T) st):AOps P n ops (⟨dd,.binOp .neq t x (.const .nilIface) u,ty,pos,es,gd⟩::rest) K E T st:=by
 have hu:=hq.out;obtain ⟨hw,hd,hok⟩:=goes_some hg;simp only at hd;subst hd;refine AOps.pure hw hok _ (fun g w a' hs hk=>?_) h;have h1:=ev_R hs hk hx;generalize hu':a'.eval x=u1 at h1;have hrun:∀ u1 b,(Op.equalIn (9999 + 1) t u1 .nilIface).run P w=.ok b w→(eqGuard .neq t x (.const .nilIface) u1 .nilIface).run P w=.ok () w→(∀ z,binOp .neq t u1 .nilIface=z→z=(do pure (.bool (!(← Op.equal t u1 .nilIface))))) →
   a'.eval x=u1→(execOp a'.eval ⟨some d,.binOp .neq t x (.const .nilIface) u,ty,pos,es,gd⟩).run P w=.ok (.value (.bool (!b))) w:=by
  intro u1 b e1 e2 e3 e4;show Sem.run P ((do eqGuard .neq t x (.const .nilIface) (a'.eval x) .nilIface; binOp .neq t (a'.eval x) .nilIface) >>= fun z=>pure (Next.value z)) w=_;rw [e4,e3 _ rfl];simp only [Sem.run_bind,e2,Result.andThen_ok];show ((Sem.run P (Op.equalIn (9999 + 1) t u1 .nilIface) w).andThen _).andThen _=_;rw [e1];rfl
 rcases hv with ⟨rfl,rfl⟩|⟨t',v',rfl,rfl⟩
 ·cases h1;exact ⟨.bool false,hrun .nilIface true (eqI_nil hu 9999) (by unfold eqGuard; cases x <;> rfl) (fun z h=>h ▸ rfl) hu',.bool _⟩
 ·cases h1 with
  | iface _ _ rv hr =>
   exact ⟨.bool true,hrun (.iface t' rv) false (eqI_some hu 9999) (by unfold eqGuard; cases x <;> rfl) (fun z h=>h ▸ rfl) hu',.bool _⟩

theorem tas {t u:TypeId} {v:AV} {td:TypeDesc} [hq:Und P t td] (hg:goes ops n T ⟨dd,.typeAssert x u t true,ty,pos,es,gd⟩=some d) (hc:noIf td=true) (hx:ev st T x=some (.iface t v))
  (h:AOps P n ops rest K E ((d,.tuple [v,.bool true])::T) st):AOps P n ops (⟨dd,.typeAssert x u t true,ty,pos,es,gd⟩::rest) K E T st:=by
 obtain ⟨hw,hd,hok⟩:=goes_some hg;simp only at hd;subst hd;refine AOps.pure hw hok _ (fun g w a' hs hk=>?_) h;have h1:=ev_R hs hk hx;generalize hu':a'.eval x=u1 at h1;cases h1 with
 | iface _ _ rv hr =>
  refine ⟨.tuple #[rv,.bool true],?_,.tuple _ _ rfl (fun i c v hc hv=>?_)⟩
  ·have hc:=conc (P:=P) (t:=t) hc;unfold Program.concrete at hc;cases hd:P.underlying t with
   | none=>simp [hd] at hc
   | some d=>cases d <;> first|(simp [hd] at hc; done)|simp [execOp,hu',Instr.typeAssert,run_underlying hd]
  ·match i with
   | 0=>simp at hc hv; subst hc; subst hv; exact hr
   | 1=>simp at hc hv; subst hc; subst hv; exact .bool _
   | i + 2=>simp at hc
theorem clq {f:FuncId} [hf:GoFun P f] {args:Array Operand} {tys:Array TypeId} {avs:List AV} {Rt RP:AV→St→Prop}
  (hg:goes ops n T ⟨dd,.call ⟨.value (.func f),args,tys⟩,ty,pos,es,gd⟩=some d) (ha:evs st T args.toList=some avs)
  (hc:ACalls P f avs st Rt RP) (hp:∀ v st',RP v st'→E (.panic v) T st') (h:∀ v st',Rt v st'→AOps P n ops rest K E ((d,v)::T) st') :
  AOps P n ops (⟨dd,.call ⟨.value (.func f),args,tys⟩,ty,pos,es,gd⟩::rest) K E T st:=by
 obtain ⟨hw,hd,hok⟩:=goes_some hg;simp only at hd;subst hd;exact AOps.callFn hw hok ha hc h hp
theorem clcq {f:FuncId} [hf:GoFun P f] {args:Array Operand} {tys:Array TypeId} {avs ds:List AV} {Rt RP:AV→St→Prop}
  (hg:goes ops n T ⟨dd,.call ⟨.value x,args,tys⟩,ty,pos,es,gd⟩=some d) (hx:ev st T x=some (.func (.func f) [] ds)) (ha:evs st T args.toList=some avs)
  (hc:ACalls P f (avs++ds) st Rt RP) (hp:∀ v st',RP v st'→E (.panic v) T st') (h:∀ v st',Rt v st'→AOps P n ops rest K E ((d,v)::T) st') :
  AOps P n ops (⟨dd,.call ⟨.value x,args,tys⟩,ty,pos,es,gd⟩::rest) K E T st:=by
 obtain ⟨hw,hd,hok⟩:=goes_some hg;simp only at hd;subst hd;exact AOps.callC hx hw hok ha hc h hp
end

/-! ### A deferred function -/

def ADef (P:Program) (f:FuncId) (caps:List AV) (st:St) (pv:Option AV) (Q:St→Prop):Prop :=
 ∀ g w (rcaps:Array Value),Sim g w st→caps.length=rcaps.size→(∀ (i:Nat) c v,caps[i]?=some c→rcaps[i]?=some v→R g w c v) →
  ∀ u,(match pv with|none=>u=.returning|some pv=>∃ v,u=.panicking [{ v:=v,recovered:=false }]∧R g w pv v) →
  CallsD P f rcaps u w fun e u' w'=>(∃ rv,e=.returned rv)∧settle u'=.returning∧∃ g' st',Ext g w g' w'∧Sim g' w' st'∧Q st'

section
variable {P:Program} {n:Nat}

theorem ADef.of_body {f:FuncId} {fn:Func} {id:Nat} {d1 d2:Tmp} {tys:Array TypeId} {t1 t2:TypeId} {p1 p2:String} {e1 e2:Array Edge} {c:Code} {caps:List AV} {st:St} {pv:Option AV} {Q:St→Prop}
  (hf:P.funcs[f]?=some fn)
  (hb:fn.body=some (.seq (.region id #[⟨some d1,.call ⟨.builtin .recover,#[],tys⟩,t1,p1,e1,none⟩,⟨some d2,.assign (.tmp d1),t2,p2,e2,none⟩] false) c))
  (hn:fn.ntmps=n) (hr:fn.results=#[]) (hl:Nat.ble caps.length n=true) (hd:Nat.blt d1 n=true∧Nat.blt d2 n=true)
  (h:AWP P n c (fun _ st'=>∃ st2,StLe st' st2∧Q st2) (fun e _ st'=>match e with|.ret=>∃ st2,StLe st' st2∧Q st2|_=>False)
   ((d2,pv.getD (.lit .nilIface))::(d1,pv.getD (.lit .nilIface))::zipFrom 0 caps) st):ADef P f caps st pv Q:=by
 intro g w rcaps hs hlen hcap u hu;have hl':=Nat.ble_le hl
 have hd1:d1 < n:=Nat.lt_of_lt_of_le (Nat.lt_of_succ_le (Nat.ble_le hd.1)) (Nat.le_refl _)
 have hd2:d2 < n:=Nat.lt_of_lt_of_le (Nat.lt_of_succ_le (Nat.ble_le hd.2)) (Nat.le_refl _);refine callsD_of_wpS hf hb fun c₀ cs hc₀=>wpS_seq (wpS_region ?_);obtain ⟨rv,u',hrec,hset,hRv⟩:∃ rv u',((recoverD (c₀::cs)=some (rv,{ c₀ with mode:=u' }::cs))∨(recoverD (c₀::cs)=none∧rv=.nilIface∧{ c₀ with mode:=u' }=c₀))∧settle u'=.returning ∧
   R g w (pv.getD (.lit .nilIface)) rv:=by
  cases pv with
  | none =>
   simp only at hu;subst hu;refine ⟨.nilIface,.returning,.inr ⟨?_,rfl,?_⟩,rfl,.lit _⟩
   ·simp [recoverD,hc₀]
   ·rw [← hc₀]
  | some pv =>
   obtain ⟨v,rfl,hv⟩:=hu;refine ⟨v,.panicking [{ v:=v,recovered:=true }],.inl ?_,rfl,hv⟩;simp [recoverD,hc₀]
 have fin:∀ a':Act,a'.tmps.size=n→a'.defers=[]→Known g w ((d2,pv.getD (.lit .nilIface))::(d1,pv.getD (.lit .nilIface))::zipFrom 0 caps) a' →
   c.wpS P (bodyPostS P fn c₀ cs fun e u' w'=>(∃ rv,e=.returned rv)∧settle u'=.returning∧∃ g' st',Ext g w g' w'∧Sim g' w' st'∧Q st') a' ({ c₀ with mode:=u' }::cs) w:=by
  intro a' ha hde hka;refine wpS_of_wp (Code.wp_mono (fun e a2 w2 hq=>?_) (h g w a' hs hka ha));obtain ⟨h1,h2,g',T',st',h3,h4,h5,h6⟩:=hq;have fin2:(∃ st2,StLe st' st2∧Q st2)→a2.defers=[]∧∃ u'',({ c₀ with mode:=u' }::cs:List Frame)={ c₀ with mode:=u'' }::cs∧∃ v,(results fn a2.tmps).run P w2=.ok v w2 ∧
    ((∃ rv,Ending.returned v=.returned rv)∧settle u''=.returning∧∃ g' st',Ext g w g' w2∧Sim g' w2 st'∧Q st'):=by
   rintro ⟨st2,hle,hQ⟩;have hres:resA P st' T' fn.results.toList=some []:=by rw [hr]; rfl
   obtain ⟨rv',hrun,_⟩:=results_R (fn:=fn) h4 h5 hres;exact ⟨h2.trans hde,u',rfl,rv',hrun,⟨_,rfl⟩,hset,g',st2,h3,h4.le hle,hQ⟩
  cases e with
  | normal=>exact fin2 h6
  | ret=>exact fin2 h6
  | panic ch=>obtain ⟨_,_,_,_,hf'⟩:=h6; exact hf'.elim
  | exit id=>exact h6.elim
  | goto l=>exact h6.elim
  | outgrown=>exact h6.elim
 have hk0:Known g w (zipFrom 0 caps) { tmps:=rcaps++Array.replicate (fn.ntmps - rcaps.size) undef,defers:=[] }:=by
  intro i v hv;obtain ⟨_,h2⟩:=get_zipFrom caps 0 i v hv;have hi:i < rcaps.size:=by rw [← hlen]; exact (List.getElem?_eq_some_iff.1 h2).1
  refine ⟨rcaps[i],?_,hcap i v _ h2 (by simp [hi])⟩;rw [Array.getElem?_append_left hi];simp [hi]
 have hsz:(rcaps++Array.replicate (fn.ntmps - rcaps.size) undef).size=n:=by simp; omega
 generalize ha0:({ tmps:=rcaps++Array.replicate (fn.ntmps - rcaps.size) undef,defers:=[] }:Act)=a0 at hk0;have hsz0:a0.tmps.size=n:=by rw [← ha0]; exact hsz
 have hde0:a0.defers=[]:=by rw [← ha0]
 have k1:Known g w ((d1,pv.getD (.lit .nilIface))::zipFrom 0 caps) (a0.put (some d1) rv):=hk0.put (d:=some d1) (fun t ht=>by cases ht; rw [hsz0]; exact hd1) hRv
 have k2:Known g w ((d2,pv.getD (.lit .nilIface))::(d1,pv.getD (.lit .nilIface))::zipFrom 0 caps) ((a0.put (some d1) rv).put (some d2) rv) :=
  k1.put (d:=some d2) (fun t ht=>by cases ht; rw [Act.size_put,hsz0]; exact hd2) hRv
 have last:=fin ((a0.put (some d1) rv).put (some d2) rv) (by rw [Act.size_put,Act.size_put]; exact hsz0) (by rw [Act.defers_put,Act.defers_put]; exact hde0) k2
 have hev:(a0.put (some d1) rv).eval (.tmp d1)=rv:=by
  simp [Act.eval,Act.put,Array.setIfInBounds,hsz0,hd1]
 have hst:∀ cs1,({ c₀ with mode:=u' }::cs:List Frame)=cs1→wpOpsS P #[⟨some d1,.call ⟨.builtin .recover,#[],tys⟩,t1,p1,e1,none⟩,⟨some d2,.assign (.tmp d1),t2,p2,e2,none⟩]
   (Exit.thenS (c.wpS P (bodyPostS P fn c₀ cs fun e u' w'=>(∃ rv,e=.returned rv)∧settle u'=.returning∧∃ g' st',Ext g w g' w'∧Sim g' w' st'∧Q st')) (bodyPostS P fn c₀ cs fun e u' w'=>(∃ rv,e=.returned rv)∧settle u'=.returning∧∃ g' st',Ext g w g' w'∧Sim g' w' st'∧Q st'))
   [1] (a0.put (some d1) rv) cs1 w:=by
  rintro cs1 rfl;unfold wpOpsS;have hrun:(execOp (a0.put (some d1) rv).eval ⟨some d2,.assign (.tmp d1),t2,p2,e2,none⟩).run P w=.ok (.value rv) w:=by
   show Result.ok (Next.value ((a0.put (some d1) rv).eval (.tmp d1))) w=_;rw [hev]
  simp only [List.getElem?_toArray,List.getElem?_cons_succ,List.getElem?_cons_zero,Region.wanted,if_true,hrun,Oper.upon];exact last
 show wpOpsS P _ _ [0,1] a0 (c₀::cs) w;unfold wpOpsS;have hrun:(execOp a0.eval ⟨some d1,.call ⟨.builtin .recover,#[],tys⟩,t1,p1,e1,none⟩).run P w=.ok .recover w:=by
  simp [execOp,resolve,invoke,builtin]
 simp only [List.getElem?_toArray,List.getElem?_cons_zero,Region.wanted,if_true,hrun];rcases hrec with hrec|⟨hrec,rfl,hc0⟩
 ·rw [hrec];exact hst _ rfl
 ·rw [hrec];exact hst _ (by rw [hc0])


def AD (P:Program) (n:Nat) (f:FuncId) (c:Code) (K:Post) (E:EPost) (Kd:List AV→Post) (Ed:List AV→EPost) (T:Tmps) (st:St):Prop :=
 ∀ g w a,Sim g w st→Known g w T a→a.tmps.size=n→a.defers=[] →
  c.wp P (fun e a' w'=>a'.tmps.size=n∧∃ g' T' st',Ext g w g' w'∧Sim g' w' st'∧Known g' w' T' a' ∧
   ((a'.defers=[]∧Leaves K E g' w' T' st' e) ∨
    ∃ caps rcaps,a'.defers=[{ target:=.fn (.func f) rcaps,args:=#[] }]∧caps.length=rcaps.size∧(∀ (i:Nat) c v,caps[i]?=some c→rcaps[i]?=some v→R g' w' c v) ∧
     Leaves (Kd caps) (Ed caps) g' w' T' st' e)) a w

section
variable {f:FuncId} {K:Post} {E:EPost} {Kd:List AV→Post} {Ed:List AV→EPost} {T:Tmps} {st:St}

theorem AD.seq {x y:Code} (h:AWP P n x (AD P n f y K E Kd Ed) E T st):AD P n f (.seq x y) K E Kd Ed T st:=by
 intro g w a hs hk hn hd;refine wp_seq (Code.wp_mono (fun e a' w' hq=>?_) (h g w a hs hk hn));obtain ⟨h1,h2,g',T',st',h3,h4,h5,h6⟩:=hq;cases e with
 | normal=>exact Code.wp_mono (fun _ _ _ ⟨q1,g2,T2,st2,q2,q3⟩=>⟨q1,g2,T2,st2,h3.trans q2,q3⟩) (h6 g' w' a' h4 h5 h1 (h2.trans hd))
 | exit id=>exact ⟨h1,g',T',st',h3,h4,h5,.inl ⟨h2.trans hd,h6⟩⟩
 | ret=>exact ⟨h1,g',T',st',h3,h4,h5,.inl ⟨h2.trans hd,h6⟩⟩
 | panic ch=>exact ⟨h1,g',T',st',h3,h4,h5,.inl ⟨h2.trans hd,h6⟩⟩
 | goto l=>exact h6.elim
 | outgrown=>exact h6.elim

theorem AD.dfr {c:Code} {id:Nat} {d1:Tmp} {ca:Array Operand} {t1 t2:TypeId} {p1 p2:String} {e1 e2:Array Edge} {caps:List AV} (hd:Nat.blt d1 n=true) (h1:evs st T ca.toList=some caps)
  (h:AWP P n c (Kd caps) (Ed caps) ((d1,.func (.func f) [] caps)::T) st) :
  AD P n f (.seq (.region id #[⟨some d1,.makeFunc (.func f) #[] ca,t1,p1,e1,none⟩,⟨none,.defer ⟨.value (.tmp d1),#[],#[]⟩,t2,p2,e2,none⟩] false) c) K E Kd Ed T st:=by
 intro g w a hs hk hn hde;have hd1:d1 < n:=Nat.lt_of_succ_le (Nat.ble_le hd);obtain ⟨hl,hr⟩:=evs_R hs hk _ _ h1
 let rv:Value:=.func (.func f) #[] (ca.map a.eval)
 have hR:R g w (.func (.func f) [] caps) rv:=.func (.func f) [] caps _ _ rfl (by simpa using hl) (fun i c v hc=>by simp at hc) (fun i c v hc hv=>hr i c v hc (by simpa using hv))
 have k1:Known g w ((d1,.func (.func f) [] caps)::T) (a.put (some d1) rv):=hk.put (d:=some d1) (fun t ht=>by cases ht; rw [hn]; exact hd1) hR
 have hev:(a.put (some d1) rv).eval (.tmp d1)=rv:=by simp [Act.eval,Act.put,Array.setIfInBounds,hn,hd1]
 refine wp_seq (wp_region_list ?_);show wpList P _ _ [_,_] a w;unfold wpList;have r1:(execOp a.eval ⟨some d1,.makeFunc (.func f) #[] ca,t1,p1,e1,none⟩).run P w=.ok (.value rv) w:=by simp [execOp,Instr.makeFunc,rv]
 rw [if_pos (by rfl)]
 left
 unfold Oper.wp;rw [r1];simp only [Oper.upon];unfold wpList;have r2:(execOp (a.put (some d1) rv).eval ⟨none,.defer ⟨.value (.tmp d1),#[],#[]⟩,t2,p2,e2,none⟩).run P w=.ok (.defer { target:=.fn (.func f) (ca.map a.eval),args:=#[] }) w:=by
  simp only [execOp,resolve,hev];simp [Deferred.ofValue,rv]
 rw [if_pos (by rfl)]
 left
 unfold Oper.wp;rw [r2];simp only [Oper.upon,wpList];generalize ha2:({ tmps:=(a.put (some d1) rv).tmps,defers:={ target:=Target.fn (Fn.func f) (Array.map a.eval ca),args:=#[] }::(a.put (some d1) rv).defers }:Act).put none undef=a2;have hn2:a2.tmps.size=n:=by rw [← ha2,Act.size_put]; show (a.put (some d1) rv).tmps.size=n; rw [Act.size_put]; exact hn
 have hde2:a2.defers=[{ target:=.fn (.func f) (ca.map a.eval),args:=#[] }]:=by
  rw [← ha2,Act.defers_put]; show _::(a.put (some d1) rv).defers=_; rw [Act.defers_put,hde]
 have hk2:Known g w ((d1,.func (.func f) [] caps)::T) a2:=by
  rw [← ha2]; exact fun i v hv=>k1 i v hv
 refine Code.wp_mono (fun e a' w' hq=>?_) (h g w a2 hs hk2 hn2);obtain ⟨h1',h2,g',T',st',h3,h4,h5,h6⟩:=hq;exact ⟨h1',g',T',st',h3,h4,h5,.inr ⟨caps,ca.map a.eval,h2.trans hde2,by simpa using hl,fun i c v hc hv=>(hr i c v hc (by simpa using hv)).ext h3,h6⟩⟩
end

theorem ACalls.ofBodyD {f fd:FuncId} [hfd:GoFun P fd] {fn:Func} {c:Code} {args:List AV} {st:St} {Rt RP:AV→St→Prop} (hf:P.funcs[f]?=some fn) (hb:fn.body=some c) (hn:fn.ntmps=n) (hl:Nat.ble args.length n=true)
  (h:AD P n fd c (fun _ _=>False)
   (fun e T' st'=>match e with
    | .ret=>∃ vs v st1,resA P st' T' fn.results.toList=some vs∧Le (packA vs) v∧StLe st' st1∧Rt v st1
    | .panic pv=>∃ st1,StLe st' st1∧RP pv st1
    | .exit _=>False)
   (fun caps T' st'=>ADef P fd caps st' none (fun st2=>∃ vs v st1,resA P st2 T' fn.results.toList=some vs∧Le (packA vs) v∧StLe st2 st1∧Rt v st1))
   (fun caps e T' st'=>match e with
    | .ret=>ADef P fd caps st' none (fun st2=>∃ vs v st1,resA P st2 T' fn.results.toList=some vs∧Le (packA vs) v∧StLe st2 st1∧Rt v st1)
    | .panic pv=>ADef P fd caps st' (some pv) (fun st2=>∃ vs v st1,resA P st2 T' fn.results.toList=some vs∧Le (packA vs) v∧StLe st2 st1∧Rt v st1)
    | .exit _=>False) (zipFrom 0 args) st):ACalls P f args st Rt RP:=by
 intro g w rargs hs hlen ha;have hl':=Nat.ble_le hl;refine calls_of_wp_defers hf hb (Code.wp_mono (fun e a' w' hq=>?_) (h g w { tmps:=rargs++Array.replicate (fn.ntmps - rargs.size) undef,defers:=[] } hs ?_ ?_ rfl))
 ·obtain ⟨h1,g',T',st',h3,h4,h5,h6⟩:=hq;have ret:∀ g2 w2 st2,Ext g' w' g2 w2→Sim g2 w2 st2→(∃ vs v st1,resA P st2 T' fn.results.toList=some vs∧Le (packA vs) v∧StLe st2 st1∧Rt v st1)→∃ v,(results fn a'.tmps).run P w2=.ok v w2 ∧
    ∃ g' st',Ext g w g' w2∧Sim g' w2 st'∧∃ u,R g' w2 u v∧Rt u st':=by
   rintro g2 w2 st2 he hs2 ⟨vs,v,st1,hr,hle,hle2,hRt⟩;obtain ⟨rv,hrun,hR⟩:=results_R (fn:=fn) hs2 (h5.ext he) hr;exact ⟨rv,hrun,g2,st1,h3.trans he,hs2.le hle2,v,hR.le hle,hRt⟩
  obtain ⟨fd',hd1,hd2,hd3⟩:=hfd.out;have hinv:∀ rcaps:Array Value,(invoke (.fn (.func fd) rcaps) #[]).run P w'=.ok (.enter fd rcaps) w':=by
   intro rcaps;have h2':¬ fd'.body=none:=by intro e; simp [e] at hd2
   have h3' : ¬ fd'.name = "runtime.NumGoroutine" := by simpa using hd3
   simp [invoke,callFunc,hd1,h2',h3']
  have deferred:∀ (rcaps:Array Value) (caps:List AV) (u:FrameMode) (pv:Option AV),u≠.run→caps.length=rcaps.size→(∀ (i:Nat) c v,caps[i]?=some c→rcaps[i]?=some v→R g' w' c v) →
    (match pv with|none=>u=.returning|some pv=>∃ v,u=.panicking [{ v:=v,recovered:=false }]∧R g' w' pv v) →
    ADef P fd caps st' pv (fun st2=>∃ vs v st1,resA P st2 T' fn.results.toList=some vs∧Le (packA vs) v∧StLe st2 st1∧Rt v st1) →
    Go.Leaves P fn a'.tmps (fun e w'=>∃ g' st',Ext g w g' w'∧Sim g' w' st'∧match e with
     | .returned rv=>∃ v,R g' w' v rv∧Rt v st'
     | .panicked ch=>∃ pv v,ch=[{ v:=v,recovered:=false }]∧R g' w' pv v∧RP pv st'
     | .outgrown=>False) [{ target:=.fn (.func fd) rcaps,args:=#[] }] u w':=by
   intro rcaps caps u pv hu hlc hrc hm hA;refine leaves_cons hu (hinv rcaps) ((hA g' w' rcaps h4 hlc hrc u hm).mono ?_);rintro e u' w2 ⟨⟨rv,rfl⟩,hset,g2,st2,he2,hs2,hQ⟩;show Go.Leaves P fn a'.tmps _ [] (settle u') w2;rw [hset];obtain ⟨v,hrun,g3,st3,x1,x2,u3,x3,x4⟩:=ret g2 w2 st2 he2 hs2 hQ;exact ⟨v,hrun,g3,st3,x1,x2,u3,x3,x4⟩
  rcases h6 with ⟨hde,h6⟩|⟨caps,rcaps,hde,hlc,hrc,h6⟩
  ·cases e with
   | normal=>exact h6.elim
   | ret =>
    show Go.Leaves P fn a'.tmps _ a'.defers .returning w';rw [hde];obtain ⟨v,hrun,g3,st3,x1,x2,u3,x3,x4⟩:=ret g' w' st' (.refl _ _) h4 h6;exact ⟨v,hrun,g3,st3,x1,x2,u3,x3,x4⟩
   | panic ch =>
    show Go.Leaves P fn a'.tmps _ a'.defers (.panicking ch) w';rw [hde];obtain ⟨pv,v,x1,x2,st1,x3,x4⟩:=h6;exact ⟨g',st1,h3,h4.le x3,pv,v,x1,x2,x4⟩
   | exit id=>exact h6.elim
   | goto l=>exact h6.elim
   | outgrown=>exact h6.elim
  ·cases e with
   | normal =>
    show Go.Leaves P fn a'.tmps _ a'.defers .returning w';rw [hde];exact deferred rcaps caps .returning none (by simp) hlc hrc rfl h6
   | ret =>
    show Go.Leaves P fn a'.tmps _ a'.defers .returning w';rw [hde];exact deferred rcaps caps .returning none (by simp) hlc hrc rfl h6
   | panic ch =>
    show Go.Leaves P fn a'.tmps _ a'.defers (.panicking ch) w';rw [hde];obtain ⟨pv,v,x1,x2,x3⟩:=h6;exact deferred rcaps caps (.panicking ch) (some pv) (by simp) hlc hrc ⟨v,by rw [x1],x2⟩ x3
   | exit id=>exact h6.elim
   | goto l=>exact h6.elim
   | outgrown=>exact h6.elim
 ·intro i v hv;obtain ⟨_,h2⟩:=get_zipFrom args 0 i v hv;have hi:i < rargs.size:=by rw [← hlen]; exact (List.getElem?_eq_some_iff.1 h2).1
  refine ⟨rargs[i],?_,ha i v _ h2 (by simp [hi])⟩;rw [Array.getElem?_append_left hi];simp [hi]
 ·simp; omega
end
end Go.AM
