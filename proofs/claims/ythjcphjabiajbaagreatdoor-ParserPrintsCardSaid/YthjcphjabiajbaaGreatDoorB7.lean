/- The generator: loops. No conditions: definitions and lemmas only. -/
import Derived.Test.YthjcphjabiajbaaGreatDoorB6
namespace Go.Proofs
open Go.AM
attribute [local irreducible] AWP AOps ACalls AAny
set_option linter.unusedSimpArgs false
def LoopRt (E:MEnv) (st0:St) (a:MA) (d:Nat) (v:AV) (s':St):Prop :=
 ∃ (r1 r2:List AV) (b:MA),v=.view 13 [r1,r2] .shared∧GS (d+2) r1∧GS (d+2) r2∧MV E st0 b∧MLe a b∧b.count+b.left≤a.count+a.left+1∧s'=E.st st0 b
def LJ (E:MEnv) (B:St) (a:MA) (vs:List (Option AV)) (s:St):Prop :=
 match vs with
 | [none]=>MJ E B a s
 | [some u]=>∃ o,u=.cptr o 13 0 0∧o≠E.oT∧o≠E.oM∧B.obj o=none∧MJ E (B.set o zSt) a s
 | _=>False
theorem LJ.le {E:MEnv} {B:St} {a:MA} {vs:List (Option AV)} {s:St} (h:LJ E B a vs s):StLe s ((E.st B a).drop E.oT):=by
 match vs,h with
 | [none],h=>exact MJ.le h
 | [some u],⟨o,_,h1,h2,h3,h4⟩ =>
  refine StLe.trans h4.le ?_;rw [← E.under h1 h2,← St.set_drop h1];refine StLe.new ?_ (.refl _);rw [St.obj_drop_ne h1,E.obj_o h1 h2];exact h3
theorem inc_le {kind len:Int} {name typ fn:List UInt8} {tg args:AV} (rows:List (List AV)) (h:tg.one=true∧args.one=true∧∀ row ∈ rows,∀ c ∈ row,c.one=true):Le (.view 13 (rows++[stRow kind len name typ fn tg args nilV nilV]) .shared) (.view 13 (rows++[stRow kind len name typ fn tg args (vw 13 []) (vw 13 [])]) .shared):=by
 obtain ⟨h1,h2,h3⟩:=h;refine .view _ _ _ _ (by simp) (fun row hr c hc=>?_) (fun i a b h1 h2=>?_) fun i j a b c d h1 h2 h3 h4=>?_
 ·rcases List.mem_append.1 hr with hr|hr
  ·exact h3 row hr c hc
  ·rw [List.mem_singleton.1 hr] at hc;simp only [stRow,List.mem_cons,List.not_mem_nil,or_false] at hc;rcases hc with rfl|rfl|rfl|rfl|rfl|rfl|rfl|rfl|rfl|rfl|rfl|rfl|rfl<;>first|rfl|assumption
 ·by_cases hi:i<rows.length
  ·rw [List.getElem?_append_left hi] at h1 h2;rw [h1] at h2;cases h2;rfl
  ·rw [List.getElem?_append_right (by omega)] at h1 h2;have h5:=List.mem_of_getElem? h1;have h6:=List.mem_of_getElem? h2;rw [List.mem_singleton.1 h5,List.mem_singleton.1 h6];rfl
 ·by_cases hi:i<rows.length
  ·rw [List.getElem?_append_left hi] at h1 h2;rw [h1] at h2;cases h2;rw [h3] at h4;cases h4;exact .refl _
  ·rw [List.getElem?_append_right (by omega)] at h1 h2;have h5:=List.mem_singleton.1 (List.mem_of_getElem? h1);have h6:=List.mem_singleton.1 (List.mem_of_getElem? h2);subst h5 h6
   match j,h3,h4 with
   | 0,h1,h2=>cases h1;cases h2;exact .refl _
   | 1,h1,h2=>cases h1;cases h2;exact .refl _
   | 2,h1,h2=>cases h1;cases h2;exact .refl _
   | 3,h1,h2=>cases h1;cases h2;exact .refl _
   | 4,h1,h2=>cases h1;cases h2;exact .refl _
   | 5,h1,h2=>cases h1;cases h2;exact .refl _
   | 6,h1,h2=>cases h1;cases h2;exact .refl _
   | 7,h1,h2=>cases h1;cases h2;exact .refl _
   | 8,h1,h2=>cases h1;cases h2;exact .refl _
   | 9,h1,h2=>cases h1;cases h2;exact .refl _
   | 10,h1,h2=>cases h1;cases h2;exact .refl _
   | 11,h1,h2=>cases h1;cases h2;exact .nilShared _ _
   | 12,h1,h2=>cases h1;cases h2;exact .nilShared _ _
   | j+13,h1,h2=>cases h1
theorem GS_cells {d:Nat} {row:List AV} (h:GS d row):∀ c ∈ row,c.one=true:=by
 obtain ⟨kind,len,name,typ,fn,tg,args,body,els,rfl⟩:=GS_row h;intro c hc;simp only [stRow,List.mem_cons,List.not_mem_nil,or_false] at hc;rcases hc with rfl|rfl|rfl|rfl|rfl|rfl|rfl|rfl|rfl|rfl|rfl|rfl|rfl<;>rfl
theorem next_l (E:MEnv) {B:St} {a:MA} (hv:MV E B a) {vs:List (Option AV)} {s:St} (h:LJ E B a vs s) (k:Int) (hk:0<k) (hk2:k≤4611686018427387904) :
  ACalls Tryz.prog 37 [.cptr E.oT 2 0 0,.int .i64 k] s (fun v s'=>(∃ n:Nat,v=.int .i64 (n:Int)∧(n:Int)<k)∧LJ E B a vs s') (fun _ _=>False):=by
 match vs,h with
 | [none],h=>exact next_j E hv h k hk hk2
 | [some u],⟨o,h1,h2,h3,h4,h5⟩=>exact (next_j E (hv.set _ _) h5 k hk hk2).mono (fun v s' ⟨q1,q2⟩=>⟨q1,o,h1,h2,h3,h4,q2⟩) (fun _ _ h=>h)
set_option maxHeartbeats 4000000 in
theorem loop_m (d:Nat) (hd:d≤3) (hS:StmtsC d) (E:MEnv) {st0:St} {a:MA} (hv:MV E st0 a) (hc:a.count+a.left≤21) :
  ACalls Tryz.prog 69 [.cptr E.oM 9 0 0,.int .i64 (3-(d:Int))] (E.st st0 a) (LoopRt E st0 a d) (fun _ _=>False):=by
 refine ACalls.ofBody Tryz.func69 rfl Tryz.ntmps69 rfl ?_;refine goD ?_;refine cl rfl rfl (fresh_m E (st0:=st0) (a:=a) (by omega)) fun v s' ⟨⟨w,hw,wl⟩,hs⟩=>?_;subst hw hs;obtain ⟨a1,ha1⟩:∃ a1:MA,a1={ a with count:=a.count+1 }:=⟨_,rfl⟩;rw [← ha1];have hv1:MV E st0 a1:=by
  subst ha1;exact { hv with lS:=by have:=hv.lS;simp only;omega,lD:=by have:=hv.lD;simp only;omega,lA:=by have:=hv.lA;simp only;omega,c:=by simp only;omega }
 have c1:a1.count=a.count+1∧a1.left=a.left∧a1.S=a.S∧a1.D=a.D∧a1.A=a.A:=by subst ha1;exact ⟨rfl,rfl,rfl,rfl,rfl⟩
 clear ha1;have hM:=E.obj_M st0 a1;refine goD ?_;rw [E.st_K st0 a1];refine apx (o:=some a1.kS) 0 rfl rfl rfl (TokL.of_tok hv1.tk rfl) rfl (fun h=>by cases h) rfl ?_ ?_ fun k' htk=>?_
 ·rw [nrows_len];simp only [List.length_cons,List.length_nil];have:=hv1.lS;have:=hv1.c;omega
 ·rw [nrows_len];simp only [List.length_cons,List.length_nil,maxLen];have:=hv1.lS;have:=hv1.c;omega
 rw [nrows_append,toks_set];refine goE ?_;unfold MEnv.c mkC;refine YB (row':=mkRow E.oT E.f E.funcs E.pv (gnv (a1.S++[w]) k') (gnv a1.D a1.kD) (gnv a1.A a1.kA) a1.count a1.left) (hle:=by exact Nat.le_of_ble_eq_true rfl) (he:=by exact rfl) (z:=?_);obtain ⟨a2,ha2⟩:∃ a2:MA,a2={ a1 with S:=a1.S++[w],kS:=k' }:=⟨_,rfl⟩;have hst:((st0.set E.oT (tapeC E.l a1.j)).toks (a1.toks.set 0 (some k'))).set E.oM (.cells 92 9 [mkRow E.oT E.f E.funcs E.pv (gnv (a1.S++[w]) k') (gnv a1.D a1.kD) (gnv a1.A a1.kA) a1.count a1.left])=E.st st0 a2:=by rw [ha2];rfl
 rw [hst];have hv2:MV E st0 a2:=by
  subst ha2;refine { hv1 with nS:=fun s hs=>?_,lS:=?_,tk:=TokL.of_tok htk rfl }
  ·rcases List.mem_append.1 hs with hs|hs
   ·exact hv1.nS s hs
   ·rw [List.mem_singleton.1 hs];exact wl
  ·simp only [List.length_append,List.length_cons,List.length_nil];have:=hv.lS;rw [c1.2.2.1];omega
 have c2s:a2.count+a2.left=a.count+a.left+1:=by subst ha2;simp only [c1.1,c1.2.1];omega
 have c2:MLe a a2:=by
  subst ha2;exact ⟨by simp only [List.length_append,c1.2.2.1];omega,by rw [c1.2.2.2.1];exact Nat.le_refl _,by rw [c1.2.2.2.2];exact Nat.le_refl _,Nat.le_of_eq c1.2.1⟩
 have hM2:=E.obj_M st0 a2;refine goD ?_;refine bds (cs:=stRow 1 0 w [] [] nilV nilV nilV nilV) rfl rfl rfl rfl ?_;refine goD ?_;refine AWP.weaken (tl4 (i0:=6) (i1:=5) (i2:=1) (i3:=0) rfl rfl rfl rfl) (.refl _) ?_;have hMb:((E.st st0 a2).drop E.oT).obj E.oM=some (E.c a2):=by rw [St.obj_drop_ne E.hne];exact hM2
 refine AWP.any rfl ?_;apply AAny.segX (X:=fun _ _=>False) (hX:=fun _ _ h=>h.elim) (k':=14) (Es:=[13]) (J:=LJ E st0 a2) (base:=(E.st st0 a2).drop E.oT) (hok:=rfl) (hJ:=MJ.refl hv2) (hb:=(MJ.refl hv2).le);repeat (first|apply dsP (hi:=rfl) (hs:=rfl)|apply dqP (hi:=rfl) (hd:=rfl) (hw:=rfl) (h:=fun _ _=>ZC (z:=nz))|apply dqP (hi:=rfl) (hd:=rfl) (hw:=rfl) (h:=fun _ _=>ZH (z:=nz))|apply dqP (hi:=rfl) (hd:=rfl) (hw:=rfl) (h:=fun _ _=>YC (z:=nz)))
 apply dfP (J:=LJ E st0 a2) (Q:=fun v=>∃ n:Nat,v=.int .i64 (n:Int)∧(n:Int)<4) (hi:=rfl) (hd:=rfl) (hw:=rfl) (hex:=⟨_,0,rfl,by decide⟩) (h:=fun vs s hJ hle=>cl rfl rfl (next_l E hv2 hJ 4 (by decide) (by decide)) fun v s' hv=>nl ⟨v,rfl,hv.1,hv.2,hv.2.le⟩);rintro v ⟨n,rfl,hn⟩;apply dfP (J:=LJ E st0 a2) (Q:=fun v=>∃ m:Nat,v=.int .i64 (m:Int)∧m≤4) (hi:=rfl) (hd:=rfl) (hw:=rfl) (hex:=⟨_,0,rfl,by decide⟩) (h:=fun vs s hJ hle=>adn (a:=1) rfl rfl rfl (by omega) (nl ⟨_,rfl,⟨1+n,rfl,by omega⟩,hJ,hle⟩));rintro v ⟨m,rfl,hm⟩;apply dfP (J:=LJ E st0 a2) (Q:=fun v=>∃ row,v=.agg row∧GE 1 row) (hi:=rfl) (hd:=rfl) (hw:=rfl) (hex:=⟨_,_,rfl,GE_lit 0 (n:=0) (by decide) (by decide)⟩) (h:=fun vs s hJ hle=>clp rfl rfl inferInstance (nl ⟨_,rfl,⟨_,rfl,GE_lit 0 (by omega) (by omega)⟩,hJ,hle⟩));rintro v ⟨row,rfl,hrow⟩;obtain ⟨p1,p2,p3,p4,p5,rfl⟩:=GE_row hrow;apply dfP (J:=LJ E st0 a2) (Q:=fun v=>∃ row,v=.view 6 [exRow 1 0 w [] noE,row] .shared∧GE 1 row) (hi:=rfl) (hd:=rfl) (hw:=rfl) (hex:=⟨_,_,rfl,hrow⟩) (h:=fun vs s hJ hle=>bsh (cs:=exRow 1 0 w [] noE++exRow p1 p2 p3 p4 (.view 6 p5 .shared)) rfl rfl rfl rfl rfl (nl ⟨_,rfl,⟨exRow p1 p2 p3 p4 (.view 6 p5 .shared),rfl,hrow⟩,hJ,hle⟩));rintro v ⟨row2,rfl,hrow2⟩;have hg2:GE 2 (exRow 14 0 [] [] (.view 6 [exRow 1 0 w [] noE,row2] .shared)):=⟨14,0,[],[],_,rfl,by decide,by decide,by decide,by decide,by decide,by decide,by simp,fun r hr=>by
  rw [List.mem_cons,List.mem_singleton] at hr;rcases hr with rfl|rfl
  ·exact GE_var 0 wl
  ·exact hrow2⟩
 apply dfP (J:=LJ E st0 a2) (Q:=fun v=>∃ row,v=.agg row∧GE 2 row) (hi:=rfl) (hd:=rfl) (hw:=rfl) (hex:=⟨_,_,rfl,hg2⟩) (h:=fun vs s hJ hle=>bds (cs:=exRow 14 0 [] [] (.view 6 [exRow 1 0 w [] noE,row2] .shared)) rfl rfl rfl rfl (nl ⟨_,rfl,⟨_,rfl,hg2⟩,hJ,hle⟩));rintro v ⟨row3,rfl,hrow3⟩;obtain ⟨p1,p2,p3,p4,p5,rfl⟩:=GE_row hrow3;apply dfP (J:=LJ E st0 a2) (Q:=fun v=>∃ row,v=.view 6 [row] .shared∧GE 2 row) (hi:=rfl) (hd:=rfl) (hw:=rfl) (hex:=⟨_,_,rfl,hrow3⟩) (h:=fun vs s hJ hle=>bs1 rfl rfl rfl rfl rfl rfl (nl ⟨_,rfl,⟨exRow p1 p2 p3 p4 (.view 6 p5 .shared),rfl,hrow3⟩,hJ,hle⟩));rintro v ⟨row4,rfl,hrow4⟩;apply dfP (J:=LJ E st0 a2) (Q:=fun v=>∃ row,v=.agg (stRow 5 0 [] [] [] nilV (vw 6 [row]) nilV nilV)∧GE 2 row) (hi:=rfl) (hd:=rfl) (hw:=rfl) (hex:=⟨_,_,rfl,hrow4⟩) (h:=fun vs s hJ hle=>bds (cs:=stRow 5 0 [] [] [] nilV (vw 6 [row4]) nilV nilV) rfl rfl rfl rfl (nl ⟨_,rfl,⟨row4,rfl,hrow4⟩,hJ,hle⟩));rintro v ⟨row5,rfl,hrow5⟩;apply deP0 (J:=LJ E st0 a2) (Q:=fun v=>∃ o,v=.cptr o 13 0 0) (L:=[[false]]) (hL:=rfl) (hd:=rfl) (hw:=rfl) (hex:=⟨_,0,rfl⟩) (h:=by
  refine ⟨?_,trivial⟩;intro vs hvs hlk s hJ hb
  match vs,hvs,hJ with
  | [none],_,hJ =>
   have hJ':MJ E st0 a2 s:=hJ;obtain ⟨j,hj,rfl⟩:=hJ';refine al rfl rfl fun o ho=>?_;obtain ⟨n1,n2,n3⟩:=MEnv.new ho;have hLJ:LJ E st0 a2 [some (.cptr o 13 0 0)] (E.st (st0.set o zSt) { a2 with j:=j }):=⟨o,rfl,n1,n2,n3,j,hj,rfl⟩;refine nl ⟨_,rfl,⟨o,rfl⟩,?_,?_⟩
   ·rw [E.under n1 n2];exact hLJ
   ·rw [E.under n1 n2];exact hLJ.le)
 rintro v ⟨o7,rfl⟩;refine dnP fun s hJ=>?_;have hJ':LJ E st0 a2 [some (.cptr o7 13 0 0)] s:=hJ;obtain ⟨o,e,n1,n2,n3,j,hj,rfl⟩:=hJ';cases e;refine AAny.text rfl ?_;rw [← E.under n1 n2];unfold zSt;refine soV rfl rfl rfl rfl rfl rfl ?_;rw [E.under n1 n2];obtain ⟨a3,ha3⟩:∃ a3:MA,a3={ a2 with j:=j }:=⟨_,rfl⟩;rw [← ha3];have hv3:MV E st0 a3:=by rw [ha3];exact hv2.tape hj
 have c3s:a3.count+a3.left=a.count+a.left+1:=by subst ha3;exact c2s
 have c3:MLe a a3:=by subst ha3;exact ⟨c2.S,c2.D,c2.A,c2.left⟩
 clear ha3;refine nl ?_;refine AWP.weaken (tl5 (i0:=7) (i1:=6) (i2:=5) (i3:=1) (i4:=0) rfl rfl rfl rfl rfl) (.refl _) ?_;refine goD ?_;refine Go.AM.ad rfl rfl rfl (by omega) ?_;rw [show 3-(d:Int)+1=4-(d:Int) by omega];refine cl rfl rfl (body_m d hS E (st0:=st0.set o7 (.cells 41 13 [stRow 5 0 [] [] [] nilV (vw 6 [row5]) nilV nilV])) (hv3.set _ _) 4 (by decide)) fun v s' ⟨rows,tk,b,hv',hg,hl,h0,hvb,hle,hsum,hs⟩=>?_;subst hv' hs;refine goE ?_;refine bsh (cs:=exRow 1 0 w [] noE++exRow 0 1 [] [] noE) rfl rfl rfl rfl rfl ?_;refine bds (cs:=exRow 6 0 [] [] (vw 6 [exRow 1 0 w [] noE,exRow 0 1 [] [] noE])) rfl rfl rfl rfl ?_;refine goE ?_;refine bds (cs:=stRow 2 0 [] [] [] (vw 6 [exRow 1 0 w [] noE]) (vw 6 [exRow 6 0 [] [] (vw 6 [exRow 1 0 w [] noE,exRow 0 1 [] [] noE])]) nilV nilV) rfl rfl rfl rfl ?_;refine goE ?_;refine ap_out E (rows2:=[stRow 2 0 [] [] [] (vw 6 [exRow 1 0 w [] noE]) (vw 6 [exRow 6 0 [] [] (vw 6 [exRow 1 0 w [] noE,exRow 0 1 [] [] noE])]) nilV nilV]) rfl rfl rfl h0 hvb (by simp only [List.length_cons,List.length_nil];omega) fun tk' htk' hvb'=>?_;rw [show (st0.set o7 (.cells 41 13 [stRow 5 0 [] [] [] nilV (vw 6 [row5]) nilV nilV])).addTok tk'=(st0.addTok tk').set o7 (.cells 41 13 [stRow 5 0 [] [] [] nilV (vw 6 [row5]) nilV nilV]) from rfl,← E.under n1 n2];refine goE ?_;refine YB (row':=stRow 5 0 [] [] [] nilV (vw 6 [row5]) (.view 13 (rows++[stRow 2 0 [] [] [] (vw 6 [exRow 1 0 w [] noE]) (vw 6 [exRow 6 0 [] [] (vw 6 [exRow 1 0 w [] noE,exRow 0 1 [] [] noE])]) nilV nilV]) (.own tk' 41)) nilV) (hle:=by exact Nat.le_of_ble_eq_true rfl) (he:=by exact rfl) (z:=?_);refine nl ?_;refine goC ?_;refine rg ?_;refine goE ?_;refine AOps.weaken (T':=[(53,.agg (stRow 5 0 [] [] [] (vw 6 []) (vw 6 [row5]) (vw 13 (rows++[stRow 2 0 [] [] [] (vw 6 [exRow 1 0 w [] noE]) (vw 6 [exRow 6 0 [] [] (vw 6 [exRow 1 0 w [] noE,exRow 0 1 [] [] noE])]) (vw 13 []) (vw 13 [])])) (vw 13 []))),(52,.agg (stRow 1 0 w [] [] (vw 6 []) (vw 6 []) (vw 13 []) (vw 13 [])))]) (TLe.cons rfl (st_le (.nilShared _ _) (.refl _) (.trans _ _ _ (.shared _ _ _) (inc_le _ ⟨rfl,rfl,fun row hr=>GS_cells (hg row hr)⟩)) (.nilShared _ _) rfl rfl rfl rfl) (TLe.cons rfl (st_le (.nilShared _ _) (.nilShared _ _) (.nilShared _ _) (.nilShared _ _) rfl rfl rfl rfl) (TLe.nil _))) (.refl _) ?_;refine bsh (cs:=stRow 1 0 w [] [] (vw 6 []) (vw 6 []) (vw 13 []) (vw 13 [])++stRow 5 0 [] [] [] (vw 6 []) (vw 6 [row5]) (vw 13 (rows++[stRow 2 0 [] [] [] (vw 6 [exRow 1 0 w [] noE]) (vw 6 [exRow 6 0 [] [] (vw 6 [exRow 1 0 w [] noE,exRow 0 1 [] [] noE])]) (vw 13 []) (vw 13 [])])) (vw 13 [])) rfl rfl rfl rfl rfl ?_;refine goD ?_;have hx:GE 2 (exRow 6 0 [] [] (vw 6 [exRow 1 0 w [] noE,exRow 0 1 [] [] noE])):=⟨6,0,[],[],_,rfl,by decide,by decide,by decide,by decide,by decide,by decide,by simp,fun r hr=>by
  rw [List.mem_cons,List.mem_singleton] at hr;rcases hr with rfl|rfl
  ·exact GE_var 0 wl
  ·exact GE_lit 0 (by decide) (by decide)⟩
 have hinc:GS 1 (stRow 2 0 [] [] [] (vw 6 [exRow 1 0 w [] noE]) (vw 6 [exRow 6 0 [] [] (vw 6 [exRow 1 0 w [] noE,exRow 0 1 [] [] noE])]) (vw 13 []) (vw 13 [])):=GS_one (by decide) (by decide) (by decide) (by decide) (by decide) (by decide) (by decide) (Nat.le_refl _) (by simp) (fun r hr=>by rw [List.mem_singleton.1 hr];exact GE_var 3 wl) (fun r hr=>by rw [List.mem_singleton.1 hr];exact GE_le (by omega) hx);refine AWP.ret (rets rfl (.refl _) (StLe.new ?_ (E.tokLe st0 b tk')) ⟨stRow 1 0 w [] [] (vw 6 []) (vw 6 []) (vw 13 []) (vw 13 []),stRow 5 0 [] [] [] (vw 6 []) (vw 6 [row5]) (vw 13 (rows++[stRow 2 0 [] [] [] (vw 6 [exRow 1 0 w [] noE]) (vw 6 [exRow 6 0 [] [] (vw 6 [exRow 1 0 w [] noE,exRow 0 1 [] [] noE])]) (vw 13 []) (vw 13 [])])) (vw 13 []),b,rfl,GS_le (by omega) (GS_one (len:=0) (by decide) (by decide) (by decide) (by decide) wl (by decide) (by decide) (Nat.zero_le _) (Nat.zero_le _) (fun r hr=>(by cases hr)) (fun r hr=>(by cases hr))),?_,hvb'.unTok.unset,c3.trans hle,by omega,rfl⟩)
 ·rw [E.obj_o n1 n2];exact n3
 ·refine ⟨5,0,[],[],[],[],[row5],rows++[stRow 2 0 [] [] [] (vw 6 [exRow 1 0 w [] noE]) (vw 6 [exRow 6 0 [] [] (vw 6 [exRow 1 0 w [] noE,exRow 0 1 [] [] noE])]) (vw 13 []) (vw 13 [])],[],rfl,by decide,by decide,by decide,by decide,by decide,by decide,by decide,by decide,by simp,by simp only [List.length_append,List.length_cons,List.length_nil];omega,by decide,fun r hr=>(by cases hr),fun r hr=>by rw [List.mem_singleton.1 hr];exact GE_le (by omega) hrow5,fun r hr=>?_,fun r hr=>(by cases hr)⟩;rcases List.mem_append.1 hr with hr|hr
  ·exact hg r hr
  ·rw [List.mem_singleton.1 hr];exact GS_le (by omega) hinc
theorem more_m (E:MEnv) {st0:St} {a:MA}:ACalls Tryz.prog 65 [.cptr E.oT 2 0 0] (E.st st0 a) (fun v s'=>(∃ b:Bool,v=.bool b)∧s'=E.st st0 a) (fun _ _=>False):=by
 refine ACalls.ofBody Tryz.func65 rfl Tryz.ntmps65 rfl ?_;have hT:=E.obj_T st0 a;refine goD ?_;refine AWP.draw rfl 9 9 (fun _ _=>False) rfl ?_;refine goF ?_;refine dn ⟨fun _=>?_,fun h=>absurd h (by decide)⟩;refine goD ?_;exact AWP.ret (rets rfl (.refl _) (.refl _) ⟨⟨_,rfl⟩,rfl⟩)
theorem MLe.tape (c:MA) (j:Nat):MLe c { c with j:=j }:=⟨Nat.le_refl _,Nat.le_refl _,Nat.le_refl _,Nat.le_refl _⟩
theorem GS_blk {d:Nat} {kind:Int} {name:List UInt8} {args body els:List (List AV)} (h1:0≤kind) (h2:kind≤30) (h3:name.length≤30) (h4:args.length≤4) (h5:∀ r ∈ args,GE 4 r) (h6:body.length≤60) (h7:els.length≤60) (h8:∀ r ∈ body,GS d r) (h9:∀ r ∈ els,GS d r) :
  GS (d+1) (stRow kind 0 name [] [] (vw 6 []) (vw 6 args) (vw 13 body) (vw 13 els)) :=
 ⟨kind,0,name,[],[],[],args,body,els,rfl,h1,h2,by decide,by decide,h3,by decide,by decide,by decide,h4,h6,h7,fun r hr=>(by cases hr),h5,h8,h9⟩
theorem MEnv.dropo (E:MEnv) {st0:St} {b:MA} {tk' o:Nat} (n1:o≠E.oT) (n2:o≠E.oM) (n3:st0.obj o=none) (R:AObj):StLe (E.st ((st0.set o R).addTok tk') b) (E.st (st0.addTok tk') b):=by
 show StLe (E.st ((st0.addTok tk').set o R) b) _;rw [← E.under n1 n2];exact StLe.new (by rw [E.obj_o n1 n2];exact n3) (.refl _)
set_option maxRecDepth 4000 in
set_option maxHeartbeats 40000000 in
theorem stmts_step (d:Nat) (hd:d≤3) (hrec:∀ d',d=d'+1→StmtsC d'):StmtsC d:=by
 intro E st0 a hv most hm;refine ACalls.ofBody Tryz.func38 rfl Tryz.ntmps38 rfl ?_;refine goC ?_;refine rg ?_;refine goE ?_;refine goC ?_;refine rg ?_;refine goE ?_;refine goC ?_;refine rg ?_;refine goE ?_;refine nl ?_;refine goC ?_;refine AWP.nilTok 7 41 13 rfl fun tk htk=>?_;obtain ⟨h0,hv1⟩:=hv.newTok htk;rw [E.tokk];refine AWP.loop (α:=Nat × List (List AV) × Nat × MA) (fun x=>[(8,.int .i64 (x.1:Int)),(7,.view 13 x.2.1 (.own x.2.2.1 41)),(2,.int .i64 (most:Int)),(1,.int .i64 (4-(d:Int))),(0,.cptr E.oM 9 0 0)])
  (fun x=>E.st (st0.addTok x.2.2.1) x.2.2.2) (fun x=>x.1≤most∧x.2.1.length≤2 * x.1∧(∀ r ∈ x.2.1,GS (d+1) r)∧st0.tok x.2.2.1=false∧MV E (st0.addTok x.2.2.1) x.2.2.2∧MLe a x.2.2.2∧x.2.2.2.count+x.2.2.2.left≤a.count+a.left) (fun x=>most-x.1)
  (0,[],tk,a) ⟨Nat.zero_le _,Nat.zero_le _,fun r hr=>(by cases hr),h0,hv1,MLe.refl a,Nat.le_refl _⟩ (tl5 rfl rfl rfl rfl rfl) (.refl _) ?_
 clear htk h0 hv1 tk;rintro ⟨n,rows,tk,c⟩ ⟨hn,hl,hg,h0,hvc,hle,hsum⟩;simp only at hn hl hg h0 hvc hle hsum;show AWP _ _ _ _ _ _ (E.st (st0.addTok tk) c);refine AWP.weaken (T':=[(8,.int .i64 (n:Int)),(7,.view 13 rows (.own tk 41)),(2,.int .i64 (most:Int)),(1,.int .i64 (4-(d:Int))),(0,.cptr E.oM 9 0 0)]) (tl5 rfl rfl rfl rfl rfl) (.refl _) ?_;have hM:=E.obj_M (st0.addTok tk) c;by_cases c1:(n:Int)<(most:Int)
 ·by_cases c2:(0:Int)<(c.left:Int)
  ·refine goD ?_;refine cl rfl rfl (more_m E (st0:=st0.addTok tk) (a:=c)) fun v s' ⟨⟨b,hb⟩,hs⟩=>?_;subst hb hs;refine goE ?_;refine nl ?_;refine AWP.cond_bool rfl (fun hb=>AWP.skip ?_) (fun hb=>AWP.exit (blk_hit ?_))
   ·clear hb;have hleft:0<c.left:=by omega
    refine goD ?_;refine sbn (b:=1) rfl rfl rfl (by have:=hvc.c;omega) ?_;refine goE ?_;rw [E.st_M (st0.addTok tk) c];unfold MEnv.c mkC;refine YB (row':=mkRow E.oT E.f E.funcs E.pv (gnv c.S c.kS) (gnv c.D c.kD) (gnv c.A c.kA) c.count ((c.left-1:Nat):Int)) (hle:=by exact Nat.le_of_ble_eq_true rfl) (he:=by exact rfl) (z:=?_);obtain ⟨c',hc'⟩:∃ c':MA,c'={ c with left:=c.left-1 }:=⟨_,rfl⟩;rw [show ((((st0.addTok tk).set E.oT (tapeC E.l c.j)).toks c.toks).set E.oM (.cells 92 9 [mkRow E.oT E.f E.funcs E.pv (gnv c.S c.kS) (gnv c.D c.kD) (gnv c.A c.kA) c.count ((c.left-1:Nat):Int)]))=E.st (st0.addTok tk) c' by rw [hc'];rfl];have hv1:MV E (st0.addTok tk) c':=by rw [hc'];exact { hvc with c:=by have:=hvc.c;simp only;omega }
    have hle1:MLe a c':=by rw [hc'];exact ⟨hle.S,hle.D,hle.A,by have:=hle.left;simp only;omega⟩
    have hcl:c'.count+c'.left≤21:=by rw [hc'];have:=hvc.c;simp only;omega
    have hsum1:c'.count+c'.left+1≤a.count+a.left:=by rw [hc'];simp only;omega
    clear hvc hle hM hc' c2 hleft hsum;have hM1:=E.obj_M (st0.addTok tk) c';refine goD ?_;refine cl rfl rfl (next_m E hv1 16 (by decide) (by decide)) fun v s' ⟨⟨k,hk,hk16⟩,j,hj,hs⟩=>?_;subst hk hs;obtain ⟨c2,hc2⟩:∃ c2:MA,c2={ c' with j:=j }:=⟨_,rfl⟩;rw [← hc2];have hv2:MV E (st0.addTok tk) c2:=by rw [hc2];exact hv1.tape hj
    have hle2:MLe a c2:=by rw [hc2];exact ⟨hle1.S,hle1.D,hle1.A,hle1.left⟩
    have hcl2:c2.count+c2.left≤21:=by rw [hc2];exact hcl
    have hsum2:c2.count+c2.left+1≤a.count+a.left:=by rw [hc2];exact hsum1
    clear hv1 hle1 hcl hc2 hM1 hsum1;have hM2:=E.obj_M (st0.addTok tk) c2;refine goE ?_;refine nl ?_;refine AWP.weaken (T':=[(9,.int .i64 (k:Int)),(8,.int .i64 (n:Int)),(7,.view 13 rows (.own tk 41)),(2,.int .i64 (most:Int)),(1,.int .i64 (4-(d:Int))),(0,.cptr E.oM 9 0 0)]) (tl6 rfl rfl rfl rfl rfl rfl) (.refl _) ?_;have fin:∀ (more:List (List AV)) (tk':Nat) (b:MA),(∀ r ∈ more,GS (d+1) r)→more.length≤2→st0.tok tk'=false→MV E (st0.addTok tk') b→MLe c2 b→b.count+b.left≤c2.count+c2.left+1 →
     (n+1≤most∧(rows++more).length≤2 * (n+1)∧(∀ r ∈ rows++more,GS (d+1) r)∧st0.tok tk'=false∧MV E (st0.addTok tk') b∧MLe a b∧b.count+b.left≤a.count+a.left)∧most-(n+1)<most-n:=fun more tk' b h1 h2 h3 h4 h5 h6 =>
     ⟨⟨by omega,by rw [List.length_append];omega,fun r hr=>by
      rcases List.mem_append.1 hr with hr|hr
      ·exact hg r hr
      ·exact h1 r hr,h3,h4,hle2.trans h5,by omega⟩,by omega⟩
    have hrl:∀ m:Nat,m≤2→rows.length+m≤1000:=fun m hm=>by omega
    by_cases k3:(k:Int)<3
    ·by_cases cc:(c2.count:Int)<14
     ·refine goD ?_;refine cl rfl rfl (declare_m E hv2 hcl2) fun v s' ⟨⟨row,hv,hgr⟩,b,hvb,hleb,hbc,hbl,hs⟩=>?_;subst hv hs;obtain ⟨g1,g2,g3,g4,g5,g6,g7,g8,g9,rfl⟩:=GS_row hgr;refine goE ?_;refine ap_out E (rows2:=[stRow g1 g2 g3 g4 g5 (vw 6 g6) (vw 6 g7) (vw 13 g8) (vw 13 g9)]) rfl rfl rfl h0 hvb (hrl 1 (by omega)) fun tk' h0' hvb'=>?_;refine goD ?_;obtain ⟨f1,f2⟩:=fin [stRow g1 g2 g3 g4 g5 (vw 6 g6) (vw 6 g7) (vw 13 g8) (vw 13 g9)] tk' b (fun r hr=>by rw [List.mem_singleton.1 hr];exact GS_le (by omega) hgr) (Nat.le_succ 1) h0' hvb' hleb (by omega);exact ⟨(n+1,_,tk',b),f1,f2,(tl5 rfl rfl rfl rfl rfl),.refl _⟩
     ·refine goD ?_;refine cl rfl rfl (assign_m E hv2) fun v s' ⟨⟨row,hv,hgr⟩,j9,hj9,hs⟩=>?_;subst hv hs;obtain ⟨g1,g2,g3,g4,g5,g6,g7,g8,g9,rfl⟩:=GS_row hgr;refine goE ?_;refine ap_out E (rows2:=[stRow g1 g2 g3 g4 g5 (vw 6 g6) (vw 6 g7) (vw 13 g8) (vw 13 g9)]) rfl rfl rfl h0 (MV.tape hv2 hj9) (hrl 1 (by omega)) fun tk' h0' hvb'=>?_;refine goD ?_;obtain ⟨f1,f2⟩:=fin [stRow g1 g2 g3 g4 g5 (vw 6 g6) (vw 6 g7) (vw 13 g8) (vw 13 g9)] tk' { c2 with j:=j9 } (fun r hr=>by rw [List.mem_singleton.1 hr];exact GS_le (by omega) hgr) (Nat.le_succ 1) h0' hvb' (MLe.tape _ _) (by first|omega|(simp only;omega));exact ⟨(n+1,_,tk',{ c2 with j:=j9 }),f1,f2,(tl5 rfl rfl rfl rfl rfl),.refl _⟩
    by_cases k6:(k:Int)=6
    ·refine goD ?_;refine cl rfl rfl (expr_m E hv2 0 (by decide) (by decide)) fun v s' ⟨⟨row2,hv,hg2⟩,j3,hj3,hs⟩=>?_;subst hv hs;obtain ⟨p1,p2,p3,p4,p5,rfl⟩:=GE_row hg2;refine goE ?_;refine bds (cs:=stRow 9 0 [] [] [] nilV (vw 6 [exRow p1 p2 p3 p4 (.view 6 p5 .shared)]) nilV nilV) rfl rfl rfl rfl ?_;refine AOps.weaken (T':=[(180,.agg (stRow 9 0 [] [] [] (vw 6 []) (vw 6 [exRow p1 p2 p3 p4 (.view 6 p5 .shared)]) (vw 13 []) (vw 13 []))),(176,.view 13 rows (.own tk 41)),(8,.int .i64 (n:Int)),(2,.int .i64 (most:Int)),(1,.int .i64 (4-(d:Int))),(0,.cptr E.oM 9 0 0)]) (TLe.cons rfl (st_le (.nilShared _ _) (.refl _) (.nilShared _ _) (.nilShared _ _) rfl rfl rfl rfl) (tl5 rfl rfl rfl rfl rfl)) (.refl _) ?_;refine goE ?_;refine ap_out E (rows2:=[stRow 9 0 [] [] [] (vw 6 []) (vw 6 [exRow p1 p2 p3 p4 (.view 6 p5 .shared)]) (vw 13 []) (vw 13 [])]) rfl rfl rfl h0 (MV.tape hv2 hj3) (hrl 1 (by omega)) fun tk' h0' hvb'=>?_;refine goD ?_;obtain ⟨f1,f2⟩:=fin [stRow 9 0 [] [] [] (vw 6 []) (vw 6 [exRow p1 p2 p3 p4 (.view 6 p5 .shared)]) (vw 13 []) (vw 13 [])] tk' { c2 with j:=j3 } (fun r hr=>by rw [List.mem_singleton.1 hr];exact GS_le (by omega) (GS_one (len:=0) (by decide) (by decide) (by decide) (by decide) (by decide) (by decide) (by decide) (Nat.zero_le _) (by simp) (fun r hr=>(by cases hr)) (fun r hr=>by rw [List.mem_singleton.1 hr];exact hg2))) (Nat.le_succ 1) h0' hvb' (MLe.tape _ _) (by first|omega|(simp only;omega));exact ⟨(n+1,_,tk',{ c2 with j:=j3 }),f1,f2,(tl5 rfl rfl rfl rfl rfl),.refl _⟩
    by_cases k10:10≤(k:Int)
    ·refine goD ?_;refine cl rfl rfl (assign_m E hv2) fun v s' ⟨⟨row,hv,hgr⟩,j9,hj9,hs⟩=>?_;subst hv hs;obtain ⟨g1,g2,g3,g4,g5,g6,g7,g8,g9,rfl⟩:=GS_row hgr;refine goE ?_;refine ap_out E (rows2:=[stRow g1 g2 g3 g4 g5 (vw 6 g6) (vw 6 g7) (vw 13 g8) (vw 13 g9)]) rfl rfl rfl h0 (MV.tape hv2 hj9) (hrl 1 (by omega)) fun tk' h0' hvb'=>?_;refine goD ?_;obtain ⟨f1,f2⟩:=fin [stRow g1 g2 g3 g4 g5 (vw 6 g6) (vw 6 g7) (vw 13 g8) (vw 13 g9)] tk' { c2 with j:=j9 } (fun r hr=>by rw [List.mem_singleton.1 hr];exact GS_le (by omega) hgr) (Nat.le_succ 1) h0' hvb' (MLe.tape _ _) (by first|omega|(simp only;omega));exact ⟨(n+1,_,tk',{ c2 with j:=j9 }),f1,f2,(tl5 rfl rfl rfl rfl rfl),.refl _⟩
    by_cases k8:(k:Int)=8
    ·refine goD ?_;refine cl rfl rfl (next_m E hv2 3 (by decide) (by decide)) fun v s' ⟨⟨m,hm',hm3⟩,j2,hj2,hs⟩=>?_;subst hm' hs;have hM3:=E.obj_M (st0.addTok tk) { c2 with j:=j2 };have hv3:MV E (st0.addTok tk) { c2 with j:=j2 }:=hv2.tape hj2;by_cases m0:(m:Int)=0
     ·refine goD ?_;refine cl rfl rfl (expr_m E hv3 1 (by decide) (by decide)) fun v s' ⟨⟨row2,hv,hg2⟩,j3,hj3,hs⟩=>?_;subst hv hs;obtain ⟨p1,p2,p3,p4,p5,rfl⟩:=GE_row hg2;refine goE ?_;refine bds (cs:=stRow 7 0 [] [] [] nilV (vw 6 [exRow p1 p2 p3 p4 (.view 6 p5 .shared)]) nilV nilV) rfl rfl rfl rfl ?_;refine AOps.weaken (T':=[(229,.agg (stRow 7 0 [] [] [] (vw 6 []) (vw 6 [exRow p1 p2 p3 p4 (.view 6 p5 .shared)]) (vw 13 []) (vw 13 []))),(225,.view 13 rows (.own tk 41)),(8,.int .i64 (n:Int)),(2,.int .i64 (most:Int)),(1,.int .i64 (4-(d:Int))),(0,.cptr E.oM 9 0 0)]) (TLe.cons rfl (st_le (.nilShared _ _) (.refl _) (.nilShared _ _) (.nilShared _ _) rfl rfl rfl rfl) (tl5 rfl rfl rfl rfl rfl)) (.refl _) ?_;refine goE ?_;refine ap_out E (rows2:=[stRow 7 0 [] [] [] (vw 6 []) (vw 6 [exRow p1 p2 p3 p4 (.view 6 p5 .shared)]) (vw 13 []) (vw 13 [])]) rfl rfl rfl h0 (MV.tape hv3 hj3) (hrl 1 (by omega)) fun tk' h0' hvb'=>?_;refine goD ?_;obtain ⟨f1,f2⟩:=fin [stRow 7 0 [] [] [] (vw 6 []) (vw 6 [exRow p1 p2 p3 p4 (.view 6 p5 .shared)]) (vw 13 []) (vw 13 [])] tk' { c2 with j:=j3 } (fun r hr=>by rw [List.mem_singleton.1 hr];exact GS_le (by omega) (GS_one (len:=0) (by decide) (by decide) (by decide) (by decide) (by decide) (by decide) (by decide) (Nat.zero_le _) (by simp) (fun r hr=>(by cases hr)) (fun r hr=>by rw [List.mem_singleton.1 hr];exact hg2))) (Nat.le_succ 1) h0' hvb' (MLe.tape _ _) (by first|omega|(simp only;omega));exact ⟨(n+1,_,tk',{ c2 with j:=j3 }),f1,f2,(tl5 rfl rfl rfl rfl rfl),.refl _⟩
     ·refine goD ?_;refine cl rfl rfl (assign_m E hv3) fun v s' ⟨⟨row,hv,hgr⟩,j9,hj9,hs⟩=>?_;subst hv hs;obtain ⟨g1,g2,g3,g4,g5,g6,g7,g8,g9,rfl⟩:=GS_row hgr;refine goE ?_;refine ap_out E (rows2:=[stRow g1 g2 g3 g4 g5 (vw 6 g6) (vw 6 g7) (vw 13 g8) (vw 13 g9)]) rfl rfl rfl h0 (MV.tape hv3 hj9) (hrl 1 (by omega)) fun tk' h0' hvb'=>?_;refine goD ?_;obtain ⟨f1,f2⟩:=fin [stRow g1 g2 g3 g4 g5 (vw 6 g6) (vw 6 g7) (vw 13 g8) (vw 13 g9)] tk' { c2 with j:=j9 } (fun r hr=>by rw [List.mem_singleton.1 hr];exact GS_le (by omega) hgr) (Nat.le_succ 1) h0' hvb' (MLe.tape _ _) (by first|omega|(simp only;omega));exact ⟨(n+1,_,tk',{ c2 with j:=j9 }),f1,f2,(tl5 rfl rfl rfl rfl rfl),.refl _⟩
    by_cases k9:(k:Int)=9
    ·refine goD ?_;refine cl rfl rfl (next_m E hv2 8 (by decide) (by decide)) fun v s' ⟨⟨m,hm',hm3⟩,j2,hj2,hs⟩=>?_;subst hm' hs;have hM3:=E.obj_M (st0.addTok tk) { c2 with j:=j2 };have hv3:MV E (st0.addTok tk) { c2 with j:=j2 }:=hv2.tape hj2;by_cases m0:(m:Int)=0
     ·by_cases hd0:0<d
      ·obtain ⟨d',hdd,e1,e2⟩:∃ d':Nat,d=d'+1∧4-(d:Int)+1=4-(d':Int)∧4-(d:Int)=3-(d':Int):=⟨d-1,by omega,by omega,by omega⟩;have hS:=hrec d' hdd;refine goD ?_;refine cl rfl rfl (expr_m E hv3 1 (by decide) (by decide)) fun v s' ⟨⟨row2,hv,hg2⟩,j3,hj3,hs⟩=>?_;subst hv hs;obtain ⟨p1,p2,p3,p4,p5,rfl⟩:=GE_row hg2;refine goE ?_;refine Go.AM.ad rfl rfl rfl (by omega) ?_;rw [e1];refine cl rfl rfl (body_m d' hS E (MV.tape hv3 hj3) 3 (by decide)) fun v s' ⟨rb,tkb,b,hv',hgb,hlb,h0b,hvb,hleb,hsb,hs⟩=>?_;subst hv' hs
       replace hsb:b.count+b.left≤c2.count+c2.left:=hsb
       refine AOps.weaken (T':=[(254,vw 13 rb),(250,vw 6 [exRow p1 p2 p3 p4 (.view 6 p5 .shared)]),(247,.view 13 rows (.own tk 41)),(8,.int .i64 (n:Int)),(2,.int .i64 (most:Int)),(1,.int .i64 (4-(d:Int))),(0,.cptr E.oM 9 0 0)]) (TLe.cons rfl (.shared _ _ _) (tl6 rfl rfl rfl rfl rfl rfl)) (E.tokLe (st0.addTok tk) b tkb) ?_;refine bds (cs:=stRow 5 0 [] [] [] nilV (vw 6 [exRow p1 p2 p3 p4 (.view 6 p5 .shared)]) (vw 13 rb) nilV) rfl rfl rfl rfl ?_;refine AOps.weaken (T':=[(255,.agg (stRow 5 0 [] [] [] (vw 6 []) (vw 6 [exRow p1 p2 p3 p4 (.view 6 p5 .shared)]) (vw 13 rb) (vw 13 []))),(247,.view 13 rows (.own tk 41)),(8,.int .i64 (n:Int)),(2,.int .i64 (most:Int)),(1,.int .i64 (4-(d:Int))),(0,.cptr E.oM 9 0 0)]) (TLe.cons rfl (st_le (.nilShared _ _) (.refl _) (.refl _) (.nilShared _ _) rfl rfl rfl rfl) (tl5 rfl rfl rfl rfl rfl)) (.refl _) ?_;refine goE ?_;refine ap_out E (rows2:=[stRow 5 0 [] [] [] (vw 6 []) (vw 6 [exRow p1 p2 p3 p4 (.view 6 p5 .shared)]) (vw 13 rb) (vw 13 [])]) rfl rfl rfl h0 hvb.unTok (hrl 1 (by omega)) fun tk' h0' hvb'=>?_;refine goD ?_;obtain ⟨f1,f2⟩:=fin [stRow 5 0 [] [] [] (vw 6 []) (vw 6 [exRow p1 p2 p3 p4 (.view 6 p5 .shared)]) (vw 13 rb) (vw 13 [])] tk' b (fun r hr=>by rw [List.mem_singleton.1 hr,hdd];exact GS_blk (by decide) (by decide) (by decide) (by simp) (fun r hr=>by rw [List.mem_singleton.1 hr];exact hg2) (by omega) (by decide) hgb (fun r hr=>(by cases hr))) (Nat.le_succ 1) h0' hvb' ((MLe.tape c2 _).trans hleb) (by first|omega|(simp only;omega));exact ⟨(n+1,_,tk',b),f1,f2,(tl5 rfl rfl rfl rfl rfl),.refl _⟩
      ·refine goD ?_;refine cl rfl rfl (assign_m E hv3) fun v s' ⟨⟨row,hv,hgr⟩,j9,hj9,hs⟩=>?_;subst hv hs;obtain ⟨g1,g2,g3,g4,g5,g6,g7,g8,g9,rfl⟩:=GS_row hgr;refine goE ?_;refine ap_out E (rows2:=[stRow g1 g2 g3 g4 g5 (vw 6 g6) (vw 6 g7) (vw 13 g8) (vw 13 g9)]) rfl rfl rfl h0 (MV.tape hv3 hj9) (hrl 1 (by omega)) fun tk' h0' hvb'=>?_;refine goD ?_;obtain ⟨f1,f2⟩:=fin [stRow g1 g2 g3 g4 g5 (vw 6 g6) (vw 6 g7) (vw 13 g8) (vw 13 g9)] tk' { c2 with j:=j9 } (fun r hr=>by rw [List.mem_singleton.1 hr];exact GS_le (by omega) hgr) (Nat.le_succ 1) h0' hvb' (MLe.tape _ _) (by first|omega|(simp only;omega));exact ⟨(n+1,_,tk',{ c2 with j:=j9 }),f1,f2,(tl5 rfl rfl rfl rfl rfl),.refl _⟩
     ·refine goD ?_;refine cl rfl rfl (assign_m E hv3) fun v s' ⟨⟨row,hv,hgr⟩,j9,hj9,hs⟩=>?_;subst hv hs;obtain ⟨g1,g2,g3,g4,g5,g6,g7,g8,g9,rfl⟩:=GS_row hgr;refine goE ?_;refine ap_out E (rows2:=[stRow g1 g2 g3 g4 g5 (vw 6 g6) (vw 6 g7) (vw 13 g8) (vw 13 g9)]) rfl rfl rfl h0 (MV.tape hv3 hj9) (hrl 1 (by omega)) fun tk' h0' hvb'=>?_;refine goD ?_;obtain ⟨f1,f2⟩:=fin [stRow g1 g2 g3 g4 g5 (vw 6 g6) (vw 6 g7) (vw 13 g8) (vw 13 g9)] tk' { c2 with j:=j9 } (fun r hr=>by rw [List.mem_singleton.1 hr];exact GS_le (by omega) hgr) (Nat.le_succ 1) h0' hvb' (MLe.tape _ _) (by first|omega|(simp only;omega));exact ⟨(n+1,_,tk',{ c2 with j:=j9 }),f1,f2,(tl5 rfl rfl rfl rfl rfl),.refl _⟩
    by_cases k4:(k:Int)=4
    ·by_cases cc:(c2.count:Int)<14
     ·by_cases hd0:0<d
      ·obtain ⟨d',hdd,e1,e2⟩:∃ d':Nat,d=d'+1∧4-(d:Int)+1=4-(d':Int)∧4-(d:Int)=3-(d':Int):=⟨d-1,by omega,by omega,by omega⟩;have hS:=hrec d' hdd;refine goD ?_;have hlp:=loop_m d' (by omega) hS E hv2 hcl2;rw [← e2] at hlp;refine cl rfl rfl hlp fun v s' ⟨r1,r2,b,hv',hr1,hr2,hvb,hleb,hsb,hs⟩=>?_;subst hv' hs;refine ap_out E (rows2:=[r1,r2]) rfl rfl rfl h0 hvb (hrl 2 (by omega)) fun tk' h0' hvb'=>?_;refine goD ?_;obtain ⟨f1,f2⟩:=fin [r1,r2] tk' b (fun r hr=>by
         rw [List.mem_cons,List.mem_singleton] at hr;rw [hdd];rcases hr with rfl|rfl
         ·exact hr1
         ·exact hr2) (Nat.le_refl 2) h0' hvb' (hleb) (by first|omega|(simp only;omega))
       exact ⟨(n+1,_,tk',b),f1,f2,(tl5 rfl rfl rfl rfl rfl),.refl _⟩
      ·refine goD ?_;refine cl rfl rfl (assign_m E hv2) fun v s' ⟨⟨row,hv,hgr⟩,j9,hj9,hs⟩=>?_;subst hv hs;obtain ⟨g1,g2,g3,g4,g5,g6,g7,g8,g9,rfl⟩:=GS_row hgr;refine goE ?_;refine ap_out E (rows2:=[stRow g1 g2 g3 g4 g5 (vw 6 g6) (vw 6 g7) (vw 13 g8) (vw 13 g9)]) rfl rfl rfl h0 (MV.tape hv2 hj9) (hrl 1 (by omega)) fun tk' h0' hvb'=>?_;refine goD ?_;obtain ⟨f1,f2⟩:=fin [stRow g1 g2 g3 g4 g5 (vw 6 g6) (vw 6 g7) (vw 13 g8) (vw 13 g9)] tk' { c2 with j:=j9 } (fun r hr=>by rw [List.mem_singleton.1 hr];exact GS_le (by omega) hgr) (Nat.le_succ 1) h0' hvb' (MLe.tape _ _) (by first|omega|(simp only;omega));exact ⟨(n+1,_,tk',{ c2 with j:=j9 }),f1,f2,(tl5 rfl rfl rfl rfl rfl),.refl _⟩
     ·by_cases hd0:0<d
      ·obtain ⟨d',hdd,e1,e2⟩:∃ d':Nat,d=d'+1∧4-(d:Int)+1=4-(d':Int)∧4-(d:Int)=3-(d':Int):=⟨d-1,by omega,by omega,by omega⟩;have hS:=hrec d' hdd;refine goD ?_;refine cl rfl rfl (assign_m E hv2) fun v s' ⟨⟨row,hv,hgr⟩,j9,hj9,hs⟩=>?_;subst hv hs;obtain ⟨g1,g2,g3,g4,g5,g6,g7,g8,g9,rfl⟩:=GS_row hgr;refine goE ?_;refine ap_out E (rows2:=[stRow g1 g2 g3 g4 g5 (vw 6 g6) (vw 6 g7) (vw 13 g8) (vw 13 g9)]) rfl rfl rfl h0 (MV.tape hv2 hj9) (hrl 1 (by omega)) fun tk' h0' hvb'=>?_;refine goD ?_;obtain ⟨f1,f2⟩:=fin [stRow g1 g2 g3 g4 g5 (vw 6 g6) (vw 6 g7) (vw 13 g8) (vw 13 g9)] tk' { c2 with j:=j9 } (fun r hr=>by rw [List.mem_singleton.1 hr];exact GS_le (by omega) hgr) (Nat.le_succ 1) h0' hvb' (MLe.tape _ _) (by first|omega|(simp only;omega));exact ⟨(n+1,_,tk',{ c2 with j:=j9 }),f1,f2,(tl5 rfl rfl rfl rfl rfl),.refl _⟩
      ·refine goD ?_;refine cl rfl rfl (assign_m E hv2) fun v s' ⟨⟨row,hv,hgr⟩,j9,hj9,hs⟩=>?_;subst hv hs;obtain ⟨g1,g2,g3,g4,g5,g6,g7,g8,g9,rfl⟩:=GS_row hgr;refine goE ?_;refine ap_out E (rows2:=[stRow g1 g2 g3 g4 g5 (vw 6 g6) (vw 6 g7) (vw 13 g8) (vw 13 g9)]) rfl rfl rfl h0 (MV.tape hv2 hj9) (hrl 1 (by omega)) fun tk' h0' hvb'=>?_;refine goD ?_;obtain ⟨f1,f2⟩:=fin [stRow g1 g2 g3 g4 g5 (vw 6 g6) (vw 6 g7) (vw 13 g8) (vw 13 g9)] tk' { c2 with j:=j9 } (fun r hr=>by rw [List.mem_singleton.1 hr];exact GS_le (by omega) hgr) (Nat.le_succ 1) h0' hvb' (MLe.tape _ _) (by first|omega|(simp only;omega));exact ⟨(n+1,_,tk',{ c2 with j:=j9 }),f1,f2,(tl5 rfl rfl rfl rfl rfl),.refl _⟩
    by_cases k3':(k:Int)=3
    ·by_cases hd0:0<d
     ·obtain ⟨d',hdd,e1,e2⟩:∃ d':Nat,d=d'+1∧4-(d:Int)+1=4-(d':Int)∧4-(d:Int)=3-(d':Int):=⟨d-1,by omega,by omega,by omega⟩;have hS:=hrec d' hdd;refine goD ?_;refine cl rfl rfl (expr_m E hv2 0 (by decide) (by decide)) fun v s' ⟨⟨row2,hv,hg2⟩,j3,hj3,hs⟩=>?_;subst hv hs;obtain ⟨p1,p2,p3,p4,p5,rfl⟩:=GE_row hg2;refine goE ?_;refine bds (cs:=stRow 4 0 [] [] [] nilV (vw 6 [exRow p1 p2 p3 p4 (.view 6 p5 .shared)]) nilV nilV) rfl rfl rfl rfl ?_;refine al rfl rfl fun o ho=>?_;obtain ⟨n1,n2,n3⟩:=MEnv.new ho;refine soV rfl rfl rfl rfl rfl rfl ?_;rw [E.under n1 n2];refine nl ?_;refine goC ?_;refine rg ?_;refine goE ?_;refine Go.AM.ad rfl rfl rfl (by omega) ?_;rw [e1];refine cl rfl rfl (body_m d' hS E (MV.set (hv2.tape hj3) o _) 4 (by decide)) fun v s' ⟨rb,tkb,b,hv',hgb,hlb,h0b,hvb,hleb,hsbb,hs⟩=>?_;subst hv' hs;refine AOps.weaken (T':=[(78,vw 13 rb),(10,.cptr o 13 0 0),(7,.view 13 rows (.own tk 41)),(8,.int .i64 (n:Int)),(2,.int .i64 (most:Int)),(1,.int .i64 (4-(d:Int))),(0,.cptr E.oM 9 0 0)]) (TLe.cons rfl (.shared _ _ _) (tl6 rfl rfl rfl rfl rfl rfl)) (E.tokLe _ b tkb) ?_
      replace hvb:MV E (st0.addTok tk) b:=hvb.unTok.unset
      replace hsbb:b.count+b.left≤c2.count+c2.left:=hsbb
      refine goE ?_;rw [← E.under n1 n2];refine YB (row':=stRow 4 0 [] [] [] nilV (vw 6 [exRow p1 p2 p3 p4 (.view 6 p5 .shared)]) (vw 13 rb) nilV) (hle:=by exact Nat.le_of_ble_eq_true rfl) (he:=by exact rfl) (z:=?_);refine nl ?_;rw [E.under n1 n2];have hM4:=E.obj_M ((st0.addTok tk).set o (.cells 41 13 [stRow 4 0 [] [] [] nilV (vw 6 [exRow p1 p2 p3 p4 (.view 6 p5 .shared)]) (vw 13 rb) nilV])) b;refine goD ?_;refine cl rfl rfl (next_m E (hvb.set o _) 2 (by decide) (by decide)) fun v s' ⟨⟨m,hm',hm2⟩,j4,hj4,hs⟩=>?_;subst hm' hs;by_cases m1:(m:Int)=1
      ·refine goD ?_;refine Go.AM.ad rfl rfl rfl (by omega) ?_;rw [e1];refine cl rfl rfl (body_m d' hS E (MV.set (hvb.tape hj4) o _) 3 (by decide)) fun v s' ⟨rc,tkc,b2,hv',hgc,hlc,h0b,hvc2,hlec,hsbb2,hs⟩=>?_;subst hv' hs;refine AOps.weaken (T':=[(89,vw 13 rc),(10,.cptr o 13 0 0),(7,.view 13 rows (.own tk 41)),(8,.int .i64 (n:Int)),(2,.int .i64 (most:Int)),(1,.int .i64 (4-(d:Int))),(0,.cptr E.oM 9 0 0)]) (TLe.cons rfl (.shared _ _ _) (tl6 rfl rfl rfl rfl rfl rfl)) (E.tokLe _ b2 tkc) ?_
       replace hvc2:MV E (st0.addTok tk) b2:=hvc2.unTok.unset
       replace hsbb2:b2.count+b2.left≤b.count+b.left:=hsbb2
       refine goE ?_;rw [← E.under n1 n2];refine YB (row':=stRow 4 0 [] [] [] nilV (vw 6 [exRow p1 p2 p3 p4 (.view 6 p5 .shared)]) (vw 13 rb) (vw 13 rc)) (hle:=by exact Nat.le_of_ble_eq_true rfl) (he:=by exact rfl) (z:=?_);refine nl ?_
       skip
       refine rg ?_;refine sm rfl ?_;refine lcW rfl rfl rfl (St.obj_set _ _ _) rfl rfl ?_;refine AOps.weaken (T':=[(92,.agg (stRow 4 0 [] [] [] (vw 6 []) (vw 6 [exRow p1 p2 p3 p4 (.view 6 p5 .shared)]) (vw 13 rb) (vw 13 rc))),(91,.view 13 rows (.own tk 41)),(8,.int .i64 (n:Int)),(2,.int .i64 (most:Int)),(1,.int .i64 (4-(d:Int))),(0,.cptr E.oM 9 0 0)]) (TLe.cons rfl (st_le (.nilShared _ _) (.refl _) (.refl _) (.refl _) rfl rfl rfl rfl) (tl5 rfl rfl rfl rfl rfl)) (.refl _) ?_;rw [E.under n1 n2];refine goE ?_;refine ap_out E (st0:=st0.set o (.cells 41 13 [stRow 4 0 [] [] [] nilV (vw 6 [exRow p1 p2 p3 p4 (.view 6 p5 .shared)]) (vw 13 rb) (vw 13 rc)])) (rows2:=[stRow 4 0 [] [] [] (vw 6 []) (vw 6 [exRow p1 p2 p3 p4 (.view 6 p5 .shared)]) (vw 13 rb) (vw 13 rc)]) rfl rfl rfl h0 (MV.set hvc2 _ _) (hrl 1 (by omega)) fun tk' h0' hvb'=>?_;refine goD ?_;obtain ⟨f1,f2⟩:=fin [stRow 4 0 [] [] [] (vw 6 []) (vw 6 [exRow p1 p2 p3 p4 (.view 6 p5 .shared)]) (vw 13 rb) (vw 13 rc)] tk' b2 (fun r hr=>by rw [List.mem_singleton.1 hr,hdd];exact GS_blk (by decide) (by decide) (by decide) (by simp) (fun r hr=>by rw [List.mem_singleton.1 hr];exact hg2) (by omega) (by omega) hgb hgc) (Nat.le_succ 1) h0' (show MV E ((st0.addTok tk').set o _) _ from hvb').unset (((MLe.tape c2 _).trans hleb).trans ((MLe.tape b _).trans hlec)) (by first|omega|(simp only;omega));exact ⟨(n+1,_,tk',b2),f1,f2,(tl5 rfl rfl rfl rfl rfl),E.dropo (st0:=st0) n1 n2 n3 _⟩
      ·refine goE ?_;refine nl ?_
       skip
       refine AWP.cond_dec rfl (fun h=>absurd h m1) (fun _=>AWP.skip ?_);rw [← E.under n1 n2]
       skip
       refine rg ?_;refine sm rfl ?_;refine lcW rfl rfl rfl (St.obj_set _ _ _) rfl rfl ?_;refine AOps.weaken (T':=[(92,.agg (stRow 4 0 [] [] [] (vw 6 []) (vw 6 [exRow p1 p2 p3 p4 (.view 6 p5 .shared)]) (vw 13 rb) (vw 13 []))),(91,.view 13 rows (.own tk 41)),(8,.int .i64 (n:Int)),(2,.int .i64 (most:Int)),(1,.int .i64 (4-(d:Int))),(0,.cptr E.oM 9 0 0)]) (TLe.cons rfl (st_le (.nilShared _ _) (.refl _) (.refl _) (.nilShared _ _) rfl rfl rfl rfl) (tl5 rfl rfl rfl rfl rfl)) (.refl _) ?_;rw [E.under n1 n2];refine goE ?_;refine ap_out E (st0:=st0.set o (.cells 41 13 [stRow 4 0 [] [] [] nilV (vw 6 [exRow p1 p2 p3 p4 (.view 6 p5 .shared)]) (vw 13 rb) nilV])) (rows2:=[stRow 4 0 [] [] [] (vw 6 []) (vw 6 [exRow p1 p2 p3 p4 (.view 6 p5 .shared)]) (vw 13 rb) (vw 13 [])]) rfl rfl rfl h0 (MV.set (MV.tape hvb hj4) _ _) (hrl 1 (by omega)) fun tk' h0' hvb'=>?_;refine goD ?_;obtain ⟨f1,f2⟩:=fin [stRow 4 0 [] [] [] (vw 6 []) (vw 6 [exRow p1 p2 p3 p4 (.view 6 p5 .shared)]) (vw 13 rb) (vw 13 [])] tk' { b with j:=j4 } (fun r hr=>by rw [List.mem_singleton.1 hr,hdd];exact GS_blk (by decide) (by decide) (by decide) (by simp) (fun r hr=>by rw [List.mem_singleton.1 hr];exact hg2) (by omega) (by decide) hgb (fun r hr=>(by cases hr))) (Nat.le_succ 1) h0' (show MV E ((st0.addTok tk').set o _) _ from hvb').unset (((MLe.tape c2 _).trans hleb).trans (MLe.tape b _)) (by first|omega|(simp only;omega));exact ⟨(n+1,_,tk',{ b with j:=j4 }),f1,f2,(tl5 rfl rfl rfl rfl rfl),E.dropo (st0:=st0) n1 n2 n3 _⟩
     ·refine goD ?_;refine cl rfl rfl (assign_m E hv2) fun v s' ⟨⟨row,hv,hgr⟩,j9,hj9,hs⟩=>?_;subst hv hs;obtain ⟨g1,g2,g3,g4,g5,g6,g7,g8,g9,rfl⟩:=GS_row hgr;refine goE ?_;refine ap_out E (rows2:=[stRow g1 g2 g3 g4 g5 (vw 6 g6) (vw 6 g7) (vw 13 g8) (vw 13 g9)]) rfl rfl rfl h0 (MV.tape hv2 hj9) (hrl 1 (by omega)) fun tk' h0' hvb'=>?_;refine goD ?_;obtain ⟨f1,f2⟩:=fin [stRow g1 g2 g3 g4 g5 (vw 6 g6) (vw 6 g7) (vw 13 g8) (vw 13 g9)] tk' { c2 with j:=j9 } (fun r hr=>by rw [List.mem_singleton.1 hr];exact GS_le (by omega) hgr) (Nat.le_succ 1) h0' hvb' (MLe.tape _ _) (by first|omega|(simp only;omega));exact ⟨(n+1,_,tk',{ c2 with j:=j9 }),f1,f2,(tl5 rfl rfl rfl rfl rfl),.refl _⟩
    by_cases k7:(k:Int)=7
    ·refine goD ?_;refine cl rfl rfl (next_m E hv2 3 (by decide) (by decide)) fun v s' ⟨⟨m,hm',hm3⟩,j2,hj2,hs⟩=>?_;subst hm' hs;have hM3:=E.obj_M (st0.addTok tk) { c2 with j:=j2 };have hv3:MV E (st0.addTok tk) { c2 with j:=j2 }:=hv2.tape hj2;by_cases m0:(m:Int)=0
     ·refine goD ?_;refine bds (cs:=callRow 6 [] nilV) rfl rfl rfl rfl ?_;refine al rfl rfl fun o ho=>?_;obtain ⟨n1,n2,n3⟩:=MEnv.new ho;refine soV rfl rfl rfl rfl rfl rfl ?_;rw [E.under n1 n2];refine nl ?_;rw [show (st0.addTok tk).set o (.cells 41 13 [AV.cells (.agg (callRow 6 [] nilV))])=(st0.addTok tk).set o (stC (callRow 6 [] nilV)) from rfl];have hM4:=E.obj_M ((st0.addTok tk).set o (stC (callRow 6 [] nilV))) { c2 with j:=j2 };refine goD ?_;refine cl rfl rfl (next_m E (MV.set hv3 o _) 2 (by decide) (by decide)) fun v s' ⟨⟨m2,hm2',hm22⟩,j4,hj4,hs⟩=>?_;subst hm2' hs;have hv5:MV E (st0.addTok tk) { c2 with j:=j4 }:=hv2.tape hj4;by_cases m20:(m2:Int)=0
      ·refine goD ?_;refine cl rfl rfl (expr_m E (MV.set hv5 o _) 0 (by decide) (by decide)) fun v s' ⟨⟨row2,hv,hg2⟩,j3,hj3,hs⟩=>?_;subst hv hs;obtain ⟨p1,p2,p3,p4,p5,rfl⟩:=GE_row hg2;refine goE ?_;refine bds (cs:=stRow 6 0 [] [] [] nilV (vw 6 [exRow p1 p2 p3 p4 (.view 6 p5 .shared)]) nilV nilV) rfl rfl rfl rfl ?_;rw [← E.under n1 n2];unfold stC;refine soV rfl rfl rfl rfl rfl rfl ?_;refine nl ?_
       skip
       refine rg ?_;refine sm rfl ?_;refine lcW rfl rfl rfl (St.obj_set _ _ _) rfl rfl ?_;refine AOps.weaken (T':=[(211,.agg (stRow 6 0 [] [] [] (vw 6 []) (vw 6 [exRow p1 p2 p3 p4 (.view 6 p5 .shared)]) (vw 13 []) (vw 13 []))),(210,.view 13 rows (.own tk 41)),(8,.int .i64 (n:Int)),(2,.int .i64 (most:Int)),(1,.int .i64 (4-(d:Int))),(0,.cptr E.oM 9 0 0)]) (TLe.cons rfl (st_le (.nilShared _ _) (.refl _) (.nilShared _ _) (.nilShared _ _) rfl rfl rfl rfl) (tl5 rfl rfl rfl rfl rfl)) (.refl _) ?_;rw [E.under n1 n2];refine goE ?_;refine ap_out E (st0:=st0.set o (.cells 41 13 [stRow 6 0 [] [] [] nilV (vw 6 [exRow p1 p2 p3 p4 (.view 6 p5 .shared)]) nilV nilV])) (rows2:=[stRow 6 0 [] [] [] (vw 6 []) (vw 6 [exRow p1 p2 p3 p4 (.view 6 p5 .shared)]) (vw 13 []) (vw 13 [])]) rfl rfl rfl h0 (MV.set (MV.tape hv2 hj3) _ _) (hrl 1 (by omega)) fun tk' h0' hvb'=>?_;refine goD ?_;obtain ⟨f1,f2⟩:=fin [stRow 6 0 [] [] [] (vw 6 []) (vw 6 [exRow p1 p2 p3 p4 (.view 6 p5 .shared)]) (vw 13 []) (vw 13 [])] tk' { c2 with j:=j3 } (fun r hr=>by rw [List.mem_singleton.1 hr];exact GS_le (by omega) (GS_one (len:=0) (by decide) (by decide) (by decide) (by decide) (by decide) (by decide) (by decide) (Nat.zero_le _) (by simp) (fun r hr=>(by cases hr)) (fun r hr=>by rw [List.mem_singleton.1 hr];exact hg2))) (Nat.le_succ 1) h0' (show MV E ((st0.addTok tk').set o _) _ from hvb').unset (MLe.tape _ _) (by first|omega|(simp only;omega));exact ⟨(n+1,_,tk',{ c2 with j:=j3 }),f1,f2,(tl5 rfl rfl rfl rfl rfl),E.dropo (st0:=st0) n1 n2 n3 _⟩
      ·refine goD ?_;refine cl rfl rfl (call_j E (st0:=st0.addTok tk) hv2 o n1 n2 6 ⟨j4,hj4,rfl⟩) fun v s' ⟨b,fn,args,crows,j5,hv,hfn,hle5,hone,hrl5,hrg,hj5,hs⟩=>?_;subst hv hs
       replace hv5:MV E (st0.addTok tk) { c2 with j:=j5 }:=hv2.tape hj5
       cases b with
       | false =>
        refine goD ?_;refine cl rfl rfl (expr_m E (MV.set hv5 o _) 0 (by decide) (by decide)) fun v s' ⟨⟨row2,hv,hg2⟩,j3,hj3,hs⟩=>?_;subst hv hs;obtain ⟨p1,p2,p3,p4,p5,rfl⟩:=GE_row hg2;refine goE ?_;refine bds (cs:=stRow 6 0 [] [] [] nilV (vw 6 [exRow p1 p2 p3 p4 (.view 6 p5 .shared)]) nilV nilV) rfl rfl rfl rfl ?_;rw [← E.under n1 n2];unfold stC;refine soV rfl rfl rfl rfl rfl rfl ?_;refine nl ?_
        skip
        refine rg ?_;refine sm rfl ?_;refine lcW rfl rfl rfl (St.obj_set _ _ _) rfl rfl ?_;refine AOps.weaken (T':=[(211,.agg (stRow 6 0 [] [] [] (vw 6 []) (vw 6 [exRow p1 p2 p3 p4 (.view 6 p5 .shared)]) (vw 13 []) (vw 13 []))),(210,.view 13 rows (.own tk 41)),(8,.int .i64 (n:Int)),(2,.int .i64 (most:Int)),(1,.int .i64 (4-(d:Int))),(0,.cptr E.oM 9 0 0)]) (TLe.cons rfl (st_le (.nilShared _ _) (.refl _) (.nilShared _ _) (.nilShared _ _) rfl rfl rfl rfl) (tl5 rfl rfl rfl rfl rfl)) (.refl _) ?_;rw [E.under n1 n2];refine goE ?_;refine ap_out E (st0:=st0.set o (.cells 41 13 [stRow 6 0 [] [] [] nilV (vw 6 [exRow p1 p2 p3 p4 (.view 6 p5 .shared)]) nilV nilV])) (rows2:=[stRow 6 0 [] [] [] (vw 6 []) (vw 6 [exRow p1 p2 p3 p4 (.view 6 p5 .shared)]) (vw 13 []) (vw 13 [])]) rfl rfl rfl h0 (MV.set (MV.tape hv2 hj3) _ _) (hrl 1 (by omega)) fun tk' h0' hvb'=>?_;refine goD ?_;obtain ⟨f1,f2⟩:=fin [stRow 6 0 [] [] [] (vw 6 []) (vw 6 [exRow p1 p2 p3 p4 (.view 6 p5 .shared)]) (vw 13 []) (vw 13 [])] tk' { c2 with j:=j3 } (fun r hr=>by rw [List.mem_singleton.1 hr];exact GS_le (by omega) (GS_one (len:=0) (by decide) (by decide) (by decide) (by decide) (by decide) (by decide) (by decide) (Nat.zero_le _) (by simp) (fun r hr=>(by cases hr)) (fun r hr=>by rw [List.mem_singleton.1 hr];exact hg2))) (Nat.le_succ 1) h0' (show MV E ((st0.addTok tk').set o _) _ from hvb').unset (MLe.tape _ _) (by first|omega|(simp only;omega));exact ⟨(n+1,_,tk',{ c2 with j:=j3 }),f1,f2,(tl5 rfl rfl rfl rfl rfl),E.dropo (st0:=st0) n1 n2 n3 _⟩
       | true =>
        refine goE ?_;refine nl ?_
        skip
        refine AWP.cond_false rfl (AWP.skip ?_);rw [← E.under n1 n2];unfold stC callRow
        skip
        refine rg ?_;refine sm rfl ?_;refine lcW rfl rfl rfl (St.obj_set _ _ _) rfl rfl ?_;refine AOps.weaken (T':=[(211,.agg (stRow 6 0 [] [] fn (vw 6 []) (vw 6 crows) (vw 13 []) (vw 13 []))),(210,.view 13 rows (.own tk 41)),(8,.int .i64 (n:Int)),(2,.int .i64 (most:Int)),(1,.int .i64 (4-(d:Int))),(0,.cptr E.oM 9 0 0)]) (TLe.cons rfl (st_le (.nilShared _ _) hle5 (.nilShared _ _) (.nilShared _ _) rfl rfl rfl rfl) (tl5 rfl rfl rfl rfl rfl)) (.refl _) ?_;rw [E.under n1 n2];refine goE ?_;refine ap_out E (st0:=st0.set o (.cells 41 13 [stRow 6 0 [] [] fn nilV args nilV nilV])) (rows2:=[stRow 6 0 [] [] fn (vw 6 []) (vw 6 crows) (vw 13 []) (vw 13 [])]) rfl rfl rfl h0 (MV.set hv5 _ _) (hrl 1 (by omega)) fun tk' h0' hvb'=>?_;refine goD ?_;obtain ⟨f1,f2⟩:=fin [stRow 6 0 [] [] fn (vw 6 []) (vw 6 crows) (vw 13 []) (vw 13 [])] tk' { c2 with j:=j5 } (fun r hr=>by rw [List.mem_singleton.1 hr];exact GS_le (by omega) (GS_one (len:=0) (by decide) (by decide) (by decide) (by decide) (by decide) (by decide) hfn (Nat.zero_le _) hrl5 (fun r hr=>(by cases hr)) hrg)) (Nat.le_succ 1) h0' (show MV E ((st0.addTok tk').set o _) _ from hvb').unset (MLe.tape _ _) (by first|omega|(simp only;omega));exact ⟨(n+1,_,tk',{ c2 with j:=j5 }),f1,f2,(tl5 rfl rfl rfl rfl rfl),E.dropo (st0:=st0) n1 n2 n3 _⟩
     ·refine goD ?_;refine cl rfl rfl (assign_m E hv3) fun v s' ⟨⟨row,hv,hgr⟩,j9,hj9,hs⟩=>?_;subst hv hs;obtain ⟨g1,g2,g3,g4,g5,g6,g7,g8,g9,rfl⟩:=GS_row hgr;refine goE ?_;refine ap_out E (rows2:=[stRow g1 g2 g3 g4 g5 (vw 6 g6) (vw 6 g7) (vw 13 g8) (vw 13 g9)]) rfl rfl rfl h0 (MV.tape hv3 hj9) (hrl 1 (by omega)) fun tk' h0' hvb'=>?_;refine goD ?_;obtain ⟨f1,f2⟩:=fin [stRow g1 g2 g3 g4 g5 (vw 6 g6) (vw 6 g7) (vw 13 g8) (vw 13 g9)] tk' { c2 with j:=j9 } (fun r hr=>by rw [List.mem_singleton.1 hr];exact GS_le (by omega) hgr) (Nat.le_succ 1) h0' hvb' (MLe.tape _ _) (by first|omega|(simp only;omega));exact ⟨(n+1,_,tk',{ c2 with j:=j9 }),f1,f2,(tl5 rfl rfl rfl rfl rfl),.refl _⟩
    have k5:(k:Int)=5:=by omega
    by_cases cc:(c2.count:Int)<14
    ·by_cases hd0:0<d
     ·obtain ⟨d',hdd,e1,e2⟩:∃ d':Nat,d=d'+1∧4-(d:Int)+1=4-(d':Int)∧4-(d:Int)=3-(d':Int):=⟨d-1,by omega,by omega,by omega⟩;have hS:=hrec d' hdd;refine goD ?_;refine bds (cs:=stRow 8 0 [] [] [] nilV nilV nilV nilV) rfl rfl rfl rfl ?_;refine al rfl rfl fun o ho=>?_;obtain ⟨n1,n2,n3⟩:=MEnv.new ho;refine soV rfl rfl rfl rfl rfl rfl ?_;rw [E.under n1 n2];refine nl ?_;refine goC ?_;refine rg ?_;refine goE ?_;refine Go.AM.ad rfl rfl rfl (by omega) ?_;rw [e1];refine cl rfl rfl (body_m d' hS E (MV.set hv2 o _) 4 (by decide)) fun v s' ⟨rb,tkb,b,hv',hgb,hlb,h0b,hvb,hleb,hsbb,hs⟩=>?_;subst hv' hs;refine AOps.weaken (T':=[(132,vw 13 rb),(11,.cptr o 13 0 0),(7,.view 13 rows (.own tk 41)),(8,.int .i64 (n:Int)),(2,.int .i64 (most:Int)),(1,.int .i64 (4-(d:Int))),(0,.cptr E.oM 9 0 0)]) (TLe.cons rfl (.shared _ _ _) (tl6 rfl rfl rfl rfl rfl rfl)) (E.tokLe _ b tkb) ?_
      replace hvb:MV E (st0.addTok tk) b:=hvb.unTok.unset
      replace hsbb:b.count+b.left≤c2.count+c2.left:=hsbb
      refine goE ?_;rw [← E.under n1 n2];refine YB (row':=stRow 8 0 [] [] [] nilV nilV (vw 13 rb) nilV) (hle:=by exact Nat.le_of_ble_eq_true rfl) (he:=by exact rfl) (z:=?_);refine nl ?_;rw [E.under n1 n2];refine goD ?_;refine cl rfl rfl (fresh_m E (st0:=(st0.addTok tk).set o (.cells 41 13 [stRow 8 0 [] [] [] nilV nilV (vw 13 rb) nilV])) (a:=b) (by omega)) fun v s' ⟨⟨w,hw,wl⟩,hs⟩=>?_;subst hw hs;obtain ⟨b1,hb1⟩:∃ b1:MA,b1={ b with count:=b.count+1 }:=⟨_,rfl⟩;rw [← hb1];have hvb1:MV E (st0.addTok tk) b1:=by
       subst hb1;exact { hvb with lS:=by have:=hvb.lS;simp only;omega,lD:=by have:=hvb.lD;simp only;omega,lA:=by have:=hvb.lA;simp only;omega,c:=by simp only;omega }
      have d1:b1.count=b.count+1∧b1.left=b.left∧b1.S=b.S∧b1.D=b.D∧b1.A=b.A:=by subst hb1;exact ⟨rfl,rfl,rfl,rfl,rfl⟩
      have lS1:b1.S.length+1≤4+b1.count:=by rw [d1.1,d1.2.2.1];have:=hvb.lS;omega
      clear hb1;refine goE ?_;rw [← E.under n1 n2];refine YB (row':=stRow 8 0 w [] [] nilV nilV (vw 13 rb) nilV) (hle:=by exact Nat.le_of_ble_eq_true rfl) (he:=by exact rfl) (z:=?_);refine nl ?_;rw [E.under n1 n2];obtain ⟨B,hB⟩:∃ B,B=(st0.addTok tk).set o (.cells 41 13 [stRow 8 0 w [] [] nilV nilV (vw 13 rb) nilV]):=⟨_,rfl⟩;rw [← hB];have hM5:=E.obj_M B b1;have ho5:(E.st B b1).obj o=some (.cells 41 13 [stRow 8 0 w [] [] nilV nilV (vw 13 rb) nilV]):=by rw [E.obj_o n1 n2,hB];exact St.obj_set _ _ _
      have hvB1:MV E B b1:=by rw [hB];exact hvb1.set _ _
      refine AWP.weaken (T':=[(11,.cptr o 13 0 0),(7,.view 13 rows (.own tk 41)),(8,.int .i64 (n:Int)),(2,.int .i64 (most:Int)),(1,.int .i64 (4-(d:Int))),(0,.cptr E.oM 9 0 0)]) (tl6 rfl rfl rfl rfl rfl rfl) (.refl _) ?_;refine goC ?_;refine AWP.draw rfl 9 8 (fun v s=>∃ k',TokL ((B.set E.oT (tapeC E.l b1.j)).set E.oM (E.c b1)) (b1.toks.set 0 (some k'))∧v=.view 1 (nrows (b1.S++[w])) (.own k' 9)∧s=((B.set E.oT (tapeC E.l b1.j)).set E.oM (E.c b1)).toks (b1.toks.set 0 (some k'))) rfl ?_;refine goF ?_;refine de rfl rfl rfl ?_ ?_
      ·rw [E.st_K B b1];refine apx (o:=some b1.kS) 0 rfl rfl rfl (TokL.of_tok hvB1.tk rfl) rfl (fun h=>by cases h) rfl ?_ ?_ fun k' htk=>nl ⟨_,rfl,⟨k',htk,by rw [nrows_append],rfl⟩,⟨fun _ _ h=>h,fun _ h=>(by cases h),rfl⟩⟩
       ·rw [nrows_len];simp only [List.length_cons,List.length_nil];have:=hvb1.lS;have:=hvb1.c;omega
       ·rw [nrows_len];simp only [List.length_cons,List.length_nil,maxLen];have:=hvb1.lS;have:=hvb1.c;omega
      refine dn ⟨fun h=>absurd h (by decide),fun _=>?_⟩;rintro v s1 d9 hd9 ⟨k',htk,rfl,rfl⟩;cases hd9;refine goE ?_;rw [toks_set];unfold MEnv.c mkC;refine YB (row':=mkRow E.oT E.f E.funcs E.pv (gnv (b1.S++[w]) k') (gnv b1.D b1.kD) (gnv b1.A b1.kA) b1.count b1.left) (hle:=by exact Nat.le_of_ble_eq_true rfl) (he:=by exact rfl) (z:=?_);obtain ⟨b2,hb2⟩:∃ b2:MA,b2={ b1 with S:=b1.S++[w],kS:=k' }:=⟨_,rfl⟩;have hst:((B.set E.oT (tapeC E.l b1.j)).toks (b1.toks.set 0 (some k'))).set E.oM (.cells 92 9 [mkRow E.oT E.f E.funcs E.pv (gnv (b1.S++[w]) k') (gnv b1.D b1.kD) (gnv b1.A b1.kA) b1.count b1.left])=E.st B b2:=by rw [hb2];rfl
      rw [hst];have hvb2:MV E (st0.addTok tk) b2:=by
       subst hb2;refine { hvb1 with nS:=fun s hs=>?_,lS:=?_,tk:=TokL.of_tok htk (by rw [hB];rfl) }
       ·rcases List.mem_append.1 hs with hs|hs
        ·exact hvb1.nS s hs
        ·rw [List.mem_singleton.1 hs];exact wl
       ·simp only [List.length_append,List.length_cons,List.length_nil];omega
      have d2:b2.S.length=b.S.length+1∧b2.D=b.D∧b2.A=b.A∧b2.left=b.left∧b2.count+b2.left=b.count+b.left+1:=by
       subst hb2;exact ⟨by simp only [List.length_append,List.length_cons,List.length_nil,d1.2.2.1],d1.2.2.2.1,d1.2.2.2.2,d1.2.1,by simp only;omega⟩
      clear hst hb2 hM5 ho5 hvB1;refine nl ?_;rw [hB];clear hB;refine goC ?_;refine rg ?_;refine goE ?_;refine Go.AM.ad rfl rfl rfl (by omega) ?_;rw [e1];refine cl rfl rfl (body_m d' hS E (MV.set hvb2 o _) 3 (by decide)) fun v s' ⟨rc,tkc,b3,hv',hgc,hlc,h0b,hvb3,hlec,hsbb3,hs⟩=>?_;subst hv' hs;refine AOps.weaken (T':=[(151,vw 13 rc),(11,.cptr o 13 0 0),(7,.view 13 rows (.own tk 41)),(8,.int .i64 (n:Int)),(2,.int .i64 (most:Int)),(1,.int .i64 (4-(d:Int))),(0,.cptr E.oM 9 0 0)]) (TLe.cons rfl (.shared _ _ _) (tl6 rfl rfl rfl rfl rfl rfl)) (E.tokLe _ b3 tkc) ?_
      replace hvb3:MV E (st0.addTok tk) b3:=hvb3.unTok.unset
      replace hsbb3:b3.count+b3.left≤b2.count+b2.left:=hsbb3
      refine goE ?_;rw [← E.under n1 n2];refine YB (row':=stRow 8 0 w [] [] nilV nilV (vw 13 rb) (vw 13 rc)) (hle:=by exact Nat.le_of_ble_eq_true rfl) (he:=by exact rfl) (z:=?_);refine nl ?_;rw [E.under n1 n2];obtain ⟨B,hB⟩:∃ B,B=(st0.addTok tk).set o (.cells 41 13 [stRow 8 0 w [] [] nilV nilV (vw 13 rb) (vw 13 rc)]):=⟨_,rfl⟩;rw [← hB];have hM6:=E.obj_M B b3;have hvB3:MV E B b3:=by rw [hB];exact hvb3.set _ _
      have hS3:1≤b3.S.length:=by have:=hlec.S;omega
      have hn3:(nrows b3.S).length≤100:=by rw [nrows_len];have:=hvb3.lS;have:=hvb3.c;omega
      refine goC ?_;refine AWP.draw rfl 14 13 (fun v s=>∃ k',(E.st B b3).tok k'=false∧v=.view 1 ((nrows b3.S).take (b3.S.length-1)) (.own k' 9)∧s=(E.st B b3).addTok k') rfl ?_;refine goF ?_;refine dp (h:=fun _ _=>bs0 (z:=nz)) (z:=?_);refine goF ?_;rw [nrows_len,show ((b3.S.length:Int)-1)=((b3.S.length-1:Nat):Int) by omega];refine dq rfl rfl rfl (fun st1 hle=>svh (b:=b3.S.length-1) rfl rfl rfl (by rw [nrows_len];omega) (nl ⟨_,rfl,rfl,rfl⟩)) ?_
      skip
      refine de rfl rfl rfl ?_ ?_
      ·refine apf rfl rfl rfl rfl (by simp only [List.length_take,nrows_len];have:=hvb3.lS;have:=hvb3.c;omega) (by simp only [List.length_take,nrows_len,maxLen];have:=hvb3.lS;have:=hvb3.c;omega) fun k' hk'=>nl ⟨_,rfl,⟨k',hk',rfl,rfl⟩,⟨fun _ _ h=>h,fun _ h=>(by cases h),rfl⟩⟩
      refine dn ⟨fun h=>absurd h (by decide),fun _=>?_⟩;rintro v s1 d9 hd9 ⟨k9,hk9,rfl,rfl⟩;cases hd9;rw [nrows_take];refine goE ?_;rw [show (E.st B b3).addTok k9=(((B.set E.oT (tapeC E.l b3.j)).toks b3.toks).addTok k9).set E.oM (E.c b3) from rfl];unfold MEnv.c mkC;refine YB (row':=mkRow E.oT E.f E.funcs E.pv (gnv (b3.S.take (b3.S.length-1)) k9) (gnv b3.D b3.kD) (gnv b3.A b3.kA) b3.count b3.left) (hle:=by exact Nat.le_of_ble_eq_true rfl) (he:=by exact rfl) (z:=?_);refine nl ?_;obtain ⟨b4,hb4⟩:∃ b4:MA,b4={ b3 with S:=b3.S.take (b3.S.length-1),kS:=k9 }:=⟨_,rfl⟩;have htk4:TokL ((B.set E.oT (tapeC E.l b3.j)).set E.oM (E.c b4)) (b3.toks.set 0 (some k9)):=TokL.of_tok (TokL.set (st:=(B.set E.oT (tapeC E.l b3.j)).set E.oM (E.c b3)) (TokL.of_tok hvB3.tk rfl) hk9 0) rfl;have hvb4:MV E (st0.addTok tk) b4:=by
       subst hb4;refine { hvb3 with nS:=fun s hs=>hvb3.nS s (List.mem_of_mem_take hs),lS:=?_,tk:=TokL.of_tok htk4 (by rw [hB];rfl) };simp only [List.length_take];have:=hvb3.lS;omega
      have d4:b4.S.length=b3.S.length-1∧b4.D=b3.D∧b4.A=b3.A∧b4.left=b3.left∧b4.count=b3.count:=by
       subst hb4;exact ⟨by simp only [List.length_take];omega,rfl,rfl,rfl,rfl⟩
      have hle4:StLe ((((B.set E.oT (tapeC E.l b3.j)).toks b3.toks).addTok k9).set E.oM (.cells 92 9 [mkRow E.oT E.f E.funcs E.pv (gnv (b3.S.take (b3.S.length-1)) k9) (gnv b3.D b3.kD) (gnv b3.A b3.kA) b3.count b3.left])) (E.st B b4):=by
       subst hb4;refine ⟨fun _ _ h=>h,fun t h=>?_,rfl⟩;have h':(decide (some t ∈ [some k9,some b3.kD,some b3.kA]) || B.tok t)=true:=h;show (if t=k9 then true else (decide (some t ∈ [some b3.kS,some b3.kD,some b3.kA]) || B.tok t))=true;by_cases e:t=k9
       ·rw [if_pos e]
       ·rw [if_neg e];rw [Bool.or_eq_true] at h' ⊢;rcases h' with h'|h'
        ·refine .inl ?_;simp only [decide_eq_true_eq,List.mem_cons,Option.some.injEq,List.not_mem_nil,or_false] at h' ⊢;rcases h' with h'|h'|h'
         ·exact absurd h' e
         ·exact .inr (.inl h')
         ·exact .inr (.inr h')
        ·exact .inr h'
      refine AWP.weaken (TLe.refl _) hle4 ?_;rw [hB,← E.under n1 n2]
      skip
      refine rg ?_;refine sm rfl ?_;refine lcW rfl rfl rfl (St.obj_set _ _ _) rfl rfl ?_;refine AOps.weaken (T':=[(170,.agg (stRow 8 0 w [] [] (vw 6 []) (vw 6 []) (vw 13 rb) (vw 13 rc))),(169,.view 13 rows (.own tk 41)),(8,.int .i64 (n:Int)),(2,.int .i64 (most:Int)),(1,.int .i64 (4-(d:Int))),(0,.cptr E.oM 9 0 0)]) (TLe.cons rfl (st_le (.nilShared _ _) (.nilShared _ _) (.refl _) (.refl _) rfl rfl rfl rfl) (tl5 rfl rfl rfl rfl rfl)) (.refl _) ?_;rw [E.under n1 n2];refine goE ?_;refine ap_out E (st0:=st0.set o (.cells 41 13 [stRow 8 0 w [] [] nilV nilV (vw 13 rb) (vw 13 rc)])) (rows2:=[stRow 8 0 w [] [] (vw 6 []) (vw 6 []) (vw 13 rb) (vw 13 rc)]) rfl rfl rfl h0 (MV.set hvb4 _ _) (hrl 1 (by omega)) fun tk' h0' hvb'=>?_;refine goD ?_;obtain ⟨f1,f2⟩:=fin [stRow 8 0 w [] [] (vw 6 []) (vw 6 []) (vw 13 rb) (vw 13 rc)] tk' b4 (fun r hr=>by rw [List.mem_singleton.1 hr,hdd];exact GS_blk (by decide) (by decide) wl (by decide) (fun r hr=>(by cases hr)) (by omega) (by omega) hgb hgc) (Nat.le_succ 1) h0' (show MV E ((st0.addTok tk').set o _) _ from hvb').unset (⟨by have:=hleb.S;have:=hlec.S;omega,by rw [d4.2.1];exact Nat.le_trans (hleb.D) (by have:=hlec.D;rw [d2.2.1] at this;exact this),by rw [d4.2.2.1];exact Nat.le_trans (hleb.A) (by have:=hlec.A;rw [d2.2.2.1] at this;exact this),by have:=hleb.left;have:=hlec.left;omega⟩) (by first|omega|(simp only;omega));exact ⟨(n+1,_,tk',b4),f1,f2,(tl5 rfl rfl rfl rfl rfl),E.dropo (st0:=st0) n1 n2 n3 _⟩
     ·refine goD ?_;refine cl rfl rfl (assign_m E hv2) fun v s' ⟨⟨row,hv,hgr⟩,j9,hj9,hs⟩=>?_;subst hv hs;obtain ⟨g1,g2,g3,g4,g5,g6,g7,g8,g9,rfl⟩:=GS_row hgr;refine goE ?_;refine ap_out E (rows2:=[stRow g1 g2 g3 g4 g5 (vw 6 g6) (vw 6 g7) (vw 13 g8) (vw 13 g9)]) rfl rfl rfl h0 (MV.tape hv2 hj9) (hrl 1 (by omega)) fun tk' h0' hvb'=>?_;refine goD ?_;obtain ⟨f1,f2⟩:=fin [stRow g1 g2 g3 g4 g5 (vw 6 g6) (vw 6 g7) (vw 13 g8) (vw 13 g9)] tk' { c2 with j:=j9 } (fun r hr=>by rw [List.mem_singleton.1 hr];exact GS_le (by omega) hgr) (Nat.le_succ 1) h0' hvb' (MLe.tape _ _) (by first|omega|(simp only;omega));exact ⟨(n+1,_,tk',{ c2 with j:=j9 }),f1,f2,(tl5 rfl rfl rfl rfl rfl),.refl _⟩
    ·by_cases hd0:0<d
     ·obtain ⟨d',hdd,e1,e2⟩:∃ d':Nat,d=d'+1∧4-(d:Int)+1=4-(d':Int)∧4-(d:Int)=3-(d':Int):=⟨d-1,by omega,by omega,by omega⟩;have hS:=hrec d' hdd;refine goD ?_;refine cl rfl rfl (assign_m E hv2) fun v s' ⟨⟨row,hv,hgr⟩,j9,hj9,hs⟩=>?_;subst hv hs;obtain ⟨g1,g2,g3,g4,g5,g6,g7,g8,g9,rfl⟩:=GS_row hgr;refine goE ?_;refine ap_out E (rows2:=[stRow g1 g2 g3 g4 g5 (vw 6 g6) (vw 6 g7) (vw 13 g8) (vw 13 g9)]) rfl rfl rfl h0 (MV.tape hv2 hj9) (hrl 1 (by omega)) fun tk' h0' hvb'=>?_;refine goD ?_;obtain ⟨f1,f2⟩:=fin [stRow g1 g2 g3 g4 g5 (vw 6 g6) (vw 6 g7) (vw 13 g8) (vw 13 g9)] tk' { c2 with j:=j9 } (fun r hr=>by rw [List.mem_singleton.1 hr];exact GS_le (by omega) hgr) (Nat.le_succ 1) h0' hvb' (MLe.tape _ _) (by first|omega|(simp only;omega));exact ⟨(n+1,_,tk',{ c2 with j:=j9 }),f1,f2,(tl5 rfl rfl rfl rfl rfl),.refl _⟩
     ·refine goD ?_;refine cl rfl rfl (assign_m E hv2) fun v s' ⟨⟨row,hv,hgr⟩,j9,hj9,hs⟩=>?_;subst hv hs;obtain ⟨g1,g2,g3,g4,g5,g6,g7,g8,g9,rfl⟩:=GS_row hgr;refine goE ?_;refine ap_out E (rows2:=[stRow g1 g2 g3 g4 g5 (vw 6 g6) (vw 6 g7) (vw 13 g8) (vw 13 g9)]) rfl rfl rfl h0 (MV.tape hv2 hj9) (hrl 1 (by omega)) fun tk' h0' hvb'=>?_;refine goD ?_;obtain ⟨f1,f2⟩:=fin [stRow g1 g2 g3 g4 g5 (vw 6 g6) (vw 6 g7) (vw 13 g8) (vw 13 g9)] tk' { c2 with j:=j9 } (fun r hr=>by rw [List.mem_singleton.1 hr];exact GS_le (by omega) hgr) (Nat.le_succ 1) h0' hvb' (MLe.tape _ _) (by first|omega|(simp only;omega));exact ⟨(n+1,_,tk',{ c2 with j:=j9 }),f1,f2,(tl5 rfl rfl rfl rfl rfl),.refl _⟩

   ·refine goD ?_;exact AWP.ret (rets rfl (.refl _) (.refl _) ⟨rows,tk,c,rfl,hg,by omega,h0,hvc,hle,hsum,rfl⟩)
  ·refine goD ?_;refine AWP.exit (blk_hit ?_);refine goD ?_;exact AWP.ret (rets rfl (.refl _) (.refl _) ⟨rows,tk,c,rfl,hg,by omega,h0,hvc,hle,hsum,rfl⟩)
 ·refine goD ?_;refine AWP.exit (blk_hit ?_);refine goD ?_;exact AWP.ret (rets rfl (.refl _) (.refl _) ⟨rows,tk,c,rfl,hg,by omega,h0,hvc,hle,hsum,rfl⟩)
theorem stmts_ok:∀ d:Nat,d≤3→StmtsC d
 | 0,h=>stmts_step 0 h (fun d' e=>by omega)
 | d+1,h=>stmts_step (d+1) h (fun d' e=>by cases e;exact stmts_ok d (by omega))
def fRow (name:List UInt8) (params body:AV):List AV:=[.str name,.int .i64 0,params,body]
def recV:AV:=.view 2 [[.str [80],vw 1 [[.str [120]],[.str [121]]]]] .shared
def zP:AObj:=.cells 28 2 [[nilV,nilV]]
def PC (funcs:AV):AObj:=.cells 28 2 [[recV,funcs]]
def GF (row:List AV):Prop:=∃ (name:List UInt8) (params:List (List UInt8)) (body:List (List AV)),row=fRow name (vw 1 (nrows params)) (vw 13 body)∧name.length≤30∧params.length≤4∧(∀ s ∈ params,s.length≤30)∧body.length≤60∧∀ r ∈ body,GS 4 r
theorem st1_le {kind len:Int} {name typ fn:List UInt8} {tg args body els tg' args' body' els':AV} (h1:Le tg tg') (h2:Le args args') (h3:Le body body') (h4:Le els els') (g1:tg'.one=true) (g2:args'.one=true) (g3:body'.one=true) (g4:els'.one=true) :
  Le (.view 13 [stRow kind len name typ fn tg args body els] .shared) (.view 13 [stRow kind len name typ fn tg' args' body' els'] .shared):=by
 refine .view _ _ _ _ rfl (fun row hr c hc=>?_) (fun i a b h1 h2=>?_) fun i j a b c d h5 h6 h7 h8=>?_
 ·rw [List.mem_singleton.1 hr] at hc;simp only [stRow,List.mem_cons,List.not_mem_nil,or_false] at hc;rcases hc with rfl|rfl|rfl|rfl|rfl|rfl|rfl|rfl|rfl|rfl|rfl|rfl|rfl<;>first|rfl|assumption
 ·match i,h1,h2 with
  | 0,h1,h2=>cases h1;cases h2;rfl
 ·match i,h5,h6 with
  | 0,h5,h6 =>
   cases h5;cases h6
   match j,h7,h8 with
   | 0,h7,h8=>cases h7;cases h8;exact .refl _
   | 1,h7,h8=>cases h7;cases h8;exact .refl _
   | 2,h7,h8=>cases h7;cases h8;exact .refl _
   | 3,h7,h8=>cases h7;cases h8;exact .refl _
   | 4,h7,h8=>cases h7;cases h8;exact .refl _
   | 5,h7,h8=>cases h7;cases h8;exact .refl _
   | 6,h7,h8=>cases h7;cases h8;exact .refl _
   | 7,h7,h8=>cases h7;cases h8;assumption
   | 8,h7,h8=>cases h7;cases h8;exact .refl _
   | 9,h7,h8=>cases h7;cases h8;exact .refl _
   | 10,h7,h8=>cases h7;cases h8;assumption
   | 11,h7,h8=>cases h7;cases h8;assumption
   | 12,h7,h8=>cases h7;cases h8;assumption
   | j+13,h7,h8=>cases h7
theorem fr_le {name:List UInt8} {params body body':AV} (h:Le body body') (g1:params.one=true) (g2:body'.one=true):Le (.agg (fRow name params body)) (.agg (fRow name params body')):=by
 refine .agg _ _ rfl (fun c hc=>by simp only [fRow,List.mem_cons,List.not_mem_nil,or_false] at hc;rcases hc with rfl|rfl|rfl|rfl<;>first|rfl|assumption) fun i a b h1 h2=>?_
 match i,h1,h2 with
 | 0,h1,h2=>cases h1;cases h2;exact .refl _
 | 1,h1,h2=>cases h1;cases h2;exact .refl _
 | 2,h1,h2=>cases h1;cases h2;exact .refl _
 | 3,h1,h2=>cases h1;cases h2;assumption
 | i+4,h1,h2=>cases h1
theorem fr1_le {name:List UInt8} {params body body':AV} (h:Le body body') (g1:params.one=true) (g2:body'.one=true):Le (.view 4 [fRow name params body] .shared) (.view 4 [fRow name params body'] .shared):=by
 refine .view _ _ _ _ rfl (fun row hr c hc=>?_) (fun i a b h1 h2=>?_) fun i j a b c d h5 h6 h7 h8=>?_
 ·rw [List.mem_singleton.1 hr] at hc;simp only [fRow,List.mem_cons,List.not_mem_nil,or_false] at hc;rcases hc with rfl|rfl|rfl|rfl<;>first|rfl|assumption
 ·match i,h1,h2 with
  | 0,h1,h2=>cases h1;cases h2;rfl
 ·match i,h5,h6 with
  | 0,h5,h6 =>
   cases h5;cases h6
   match j,h7,h8 with
   | 0,h7,h8=>cases h7;cases h8;exact .refl _
   | 1,h7,h8=>cases h7;cases h8;exact .refl _
   | 2,h7,h8=>cases h7;cases h8;exact .refl _
   | 3,h7,h8=>cases h7;cases h8;assumption
   | j+4,h7,h8=>cases h7
theorem pr_le (rows:List (List AV)) (k:Nat) (e:TypeId):Le (.agg [recV,.view 4 rows (.own k e)]) (.agg [recV,vw 4 rows]):=by
 refine .agg _ _ rfl (fun c hc=>by simp only [List.mem_cons,List.not_mem_nil,or_false] at hc;rcases hc with rfl|rfl<;>rfl) fun i a b h1 h2=>?_
 match i,h1,h2 with
 | 0,h1,h2=>cases h1;cases h2;exact .refl _
 | 1,h1,h2=>cases h1;cases h2;exact .shared _ _ _
theorem toks_drop (st:St) (L:List (Option Nat)):StLe (st.toks L) st:=⟨fun _ _ h=>h,fun t h=>by
 show (decide (some t ∈ L) || st.tok t)=true;rw [h,Bool.or_true],rfl⟩
def pnames:List (List UInt8):=[[97],[98],[99],[100]]
theorem next_t (l:List Int) (hl:l.length≤17592186043904) (k:Int) (hk:0<k) (hk2:k≤4611686018427387904) (o:Nat) (base s:St) (h:TI l o base s) :
  ACalls Tryz.prog 37 [.cptr o 2 0 0,.int .i64 k] s (fun v s'=>(∃ n:Nat,v=.int .i64 (n:Int)∧(n:Int)<k)∧TI l o base s') (fun _ _=>False):=by
 refine (next_ti l hl k hk hk2 o base s h).mono (fun v s' ⟨⟨n,h1,h2,h3⟩,h4⟩=>?_) (fun _ _ h=>h);exact ⟨⟨n.toNat,by rw [h1,Int.toNat_of_nonneg h2],by omega⟩,h4⟩
set_option maxRecDepth 4000 in
set_option maxHeartbeats 40000000 in
theorem program_ok (l:List Int) (hl:l.length≤17592186043904) (st:St) :
  ACalls Tryz.prog 19 [.view 1 (l.map fun x=>[.int .i64 x]) .shared] st (fun v st'=>∃ rows,v=.agg [recV,vw 4 rows]∧rows.length≤4∧(∀ r ∈ rows,GF r)∧st'=st) (fun _ _=>False):=by
 refine ACalls.ofBody Tryz.func19 rfl Tryz.ntmps19 rfl ?_;refine goC ?_;refine rg ?_;refine al rfl rfl fun o2 h2=>?_;refine goD ?_;refine bds (cs:=tapeRow l 0) rfl rfl rfl rfl ?_;refine bx rfl rfl rfl rfl fun oT hT=>?_;refine goD ?_;refine bsh (cs:=[.str [120],.str [121]]) rfl rfl rfl rfl rfl ?_;refine bds (cs:=[.str [80],vw 1 [[.str [120]],[.str [121]]]]) rfl rfl rfl rfl ?_;refine goE ?_;refine bds (cs:=[recV,nilV]) rfl rfl rfl rfl ?_;refine al rfl rfl fun o4 h4=>?_;refine soV rfl rfl rfl rfl rfl rfl ?_;have n2T:oT≠o2:=fun e=>by rw [e,St.obj_set] at hT;cases hT
 have hT':st.obj oT=none:=by rw [St.obj_set_ne n2T] at hT;exact hT
 have n4T:o4≠oT:=fun e=>by rw [e,St.obj_set] at h4;cases h4
 have n42:o4≠o2:=fun e=>by rw [e,St.obj_under n2T] at h4;cases h4
 have h4':st.obj o4=none:=by rw [St.obj_set_ne n4T,St.obj_set_ne n42] at h4;exact h4
 refine nl ?_;refine goC ?_;refine AWP.nilIn (o:=o4) (i:=0) (j:=1) 36 4 (St.obj_set _ _ _) rfl rfl fun tkF htkF=>?_;have htF:st.tok tkF=false:=htkF;obtain ⟨B,hB⟩:∃ B:Nat→List (List AV)→St,B=fun tk rows=>((st.set o2 zP).set o4 (PC (.view 4 rows (.own tk 36)))).addTok tk:=⟨_,rfl⟩;have hst:StLe (((((st.set o2 (.cells 28 2 [zrow (Value.agg #[.slice none 0 0,.slice none 0 0])])).set oT (.cells 88 2 [AV.cells (.agg (tapeRow l 0))])).set o4 (.cells 28 2 [AV.cells (.agg [recV,nilV])])).addTok tkF).set o4 (.cells 28 2 ([AV.cells (.agg [recV,nilV])].set 0 ((AV.cells (.agg [recV,nilV])).set 1 (.view 4 [] (.own tkF 36)))))) ((B tkF []).set oT (tapeC l 0)):=by
  rw [hB];show StLe ((((((st.set o2 zP).set oT (tapeC l 0)).set o4 _).set o4 (PC (.view 4 [] (.own tkF 36)))).addTok tkF)) ((((st.set o2 zP).set o4 (PC (.view 4 [] (.own tkF 36)))).set oT (tapeC l 0)).addTok tkF);rw [St.set_set,St.set_comm _ (Ne.symm n4T)];exact .refl _
 refine AWP.weaken (T':=[(4,.cptr o4 2 0 0),(3,.cptr oT 2 0 0),(2,.cptr o2 2 0 0)]) (tl3 rfl rfl rfl) hst ?_;clear hst htkF;refine goD ?_;refine cl rfl rfl (next_t l hl 4 (by decide) (by decide) oT (B tkF []) _ (TI.set (Nat.zero_le _))) fun v s1 ⟨⟨n0,hn0,hn04⟩,hs1⟩=>?_;subst hn0
 skip
 refine adn (a:=1) rfl rfl rfl (by omega) ?_;obtain ⟨nf,hnf⟩:∃ nf,nf=1+n0:=⟨_,rfl⟩;rw [← hnf];refine goD ?_;refine cl rfl rfl (next_t l hl 3 (by decide) (by decide) oT (B tkF []) _ hs1) fun v s2 ⟨⟨p1,hp1,hp14⟩,hs2⟩=>?_;subst hp1;refine goE ?_;refine cl rfl rfl (next_t l hl 4 (by decide) (by decide) oT (B tkF []) _ hs2) fun v s3 ⟨⟨p2,hp2,hp24⟩,hs3⟩=>?_;subst hp2;refine goE ?_;refine cl rfl rfl (next_t l hl 5 (by decide) (by decide) oT (B tkF []) _ hs3) fun v s4 ⟨⟨p3,hp3,hp34⟩,hs4⟩=>?_;subst hp3;obtain ⟨j,hj,rfl⟩:=hs4
 skip
 refine bsh (cs:=[.int .i64 2,.int .i64 (p1:Int),.int .i64 (p2:Int),.int .i64 (p3:Int)]) rfl rfl rfl rfl rfl ?_;obtain ⟨ps,hps⟩:∃ ps:List Nat,ps=[2,p1,p2,p3]:=⟨_,rfl⟩;have hpv:(AV.view (0+1) (chunk (0+1) 4 [.int .i64 2,.int .i64 (p1:Int),.int .i64 (p2:Int),.int .i64 (p3:Int)]) .shared)=.view 1 (ps.map fun (p:Nat)=>[AV.int .i64 (p:Int)]) .shared:=by rw [hps];rfl
 rw [hpv];have hpl:ps.length=4:=by rw [hps];rfl
 have hp4:∀ p ∈ ps,p≤4:=by
  rw [hps];intro p hp;simp only [List.mem_cons,List.not_mem_nil,or_false] at hp;rcases hp with rfl|rfl|rfl|rfl<;>omega
 clear hpv hs1 hs2 hs3;refine goE ?_;refine nl ?_;refine goC ?_;refine rg ?_;refine goE ?_;refine nl ?_;refine goC ?_;refine AWP.loop (α:=Nat × Nat × List (List AV) × Nat) (fun x=>[(7,.int .i64 (x.1:Int)),(6,.view 1 (ps.map fun (p:Nat)=>[AV.int .i64 (p:Int)]) .shared),(5,.int .i64 (nf:Int)),(4,.cptr o4 2 0 0),(3,.cptr oT 2 0 0),(2,.cptr o2 2 0 0)])
  (fun x=>(B x.2.2.2 x.2.2.1).set oT (tapeC l x.2.1)) (fun x=>x.1≤nf∧x.2.1≤l.length∧x.2.2.1.length=x.1∧(∀ r ∈ x.2.2.1,GF r)∧st.tok x.2.2.2=false) (fun x=>nf-x.1)
  (0,j,[],tkF) ⟨Nat.zero_le _,hj,rfl,fun r hr=>(by cases hr),htF⟩ (tl6 rfl rfl rfl rfl rfl rfl) (.refl _) ?_
 clear hj htF;rintro ⟨f,j,rows,tk⟩ ⟨hf,hj,hr,hg,h0⟩;simp only at hf hj hr hg h0;show AWP _ _ _ _ _ _ ((B tk rows).set oT (tapeC l j));refine AWP.weaken (T':=[(7,.int .i64 (f:Int)),(6,.view 1 (ps.map fun (p:Nat)=>[AV.int .i64 (p:Int)]) .shared),(5,.int .i64 (nf:Int)),(4,.cptr o4 2 0 0),(3,.cptr oT 2 0 0),(2,.cptr o2 2 0 0)]) (tl6 rfl rfl rfl rfl rfl rfl) (.refl _) ?_;refine goD ?_;refine AWP.cond_dec rfl (fun h=>AWP.skip ?_) (fun h=>AWP.exit (blk_hit ?_))
 ·have hfn:f<nf:=by have:(f:Int)<(nf:Int):=h;omega
  refine goD ?_;refine bds (cs:=mkRow oT (f:Int) (nf:Int) (.view 1 (ps.map fun (p:Nat)=>[AV.int .i64 (p:Int)]) .shared) nilV nilV nilV 0 22) rfl rfl rfl rfl ?_;refine bx rfl rfl rfl rfl fun oM hoM=>?_;refine goE ?_;refine nl ?_;have nMT:oM≠oT:=fun e=>by rw [e,St.obj_set] at hoM;cases hoM
  have hBM:(B tk rows).obj oM=none:=by rw [St.obj_set_ne nMT] at hoM;exact hoM
  have nM4:oM≠o4:=fun e=>by rw [e,hB] at hBM;have h9:(((st.set o2 zP).set o4 (PC (.view 4 rows (.own tk 36)))).addTok tk).obj o4=some (PC (.view 4 rows (.own tk 36))):=St.obj_set _ _ _;rw [h9] at hBM;cases hBM
  refine AWP.weaken (T':=[(8,.cptr oM 9 0 0),(7,.int .i64 (f:Int)),(6,.view 1 (ps.map fun (p:Nat)=>[AV.int .i64 (p:Int)]) .shared),(5,.int .i64 (nf:Int)),(4,.cptr o4 2 0 0),(3,.cptr oT 2 0 0),(2,.cptr o2 2 0 0)]) (tl7 rfl rfl rfl rfl rfl rfl rfl) (.refl _) ?_;refine AWP.nilIn (o:=oM) (i:=0) (j:=5) 9 1 (St.obj_set _ _ _) rfl rfl fun kD hkD=>?_;refine AWP.nilIn (o:=oM) (i:=0) (j:=6) 9 1 (St.obj_set _ _ _) rfl rfl fun kA hkA=>?_;have hkD0:(B tk rows).tok kD=false:=hkD;have hkA0:(B tk rows).tok kA=false∧kA≠kD:=by
   have h9:(if kA=kD then true else (B tk rows).tok kA)=false:=hkA;by_cases e:kA=kD
   ·rw [if_pos e] at h9;cases h9
   ·rw [if_neg e] at h9;exact ⟨h9,e⟩
  obtain ⟨Y,hY⟩:∃ Y,Y=(((B tk rows).set oT (tapeC l j)).addTok kD).addTok kA:=⟨_,rfl⟩;obtain ⟨pv,hpv⟩:∃ pv,pv=AV.view 1 (ps.map fun (p:Nat)=>[AV.int .i64 (p:Int)]) .shared:=⟨_,rfl⟩;refine AWP.weaken (T':=[(8,.cptr oM 9 0 0),(7,.int .i64 (f:Int)),(6,.view 1 (ps.map fun (p:Nat)=>[AV.int .i64 (p:Int)]) .shared),(5,.int .i64 (nf:Int)),(4,.cptr o4 2 0 0),(3,.cptr oT 2 0 0),(2,.cptr o2 2 0 0)]) (st':=Y.set oM (mkC oT (f:Int) (nf:Int) pv nilV (gnv [] kD) (gnv [] kA) 0 22)) (tl7 rfl rfl rfl rfl rfl rfl rfl) (by
   rw [hY,hpv];show StLe (((((((B tk rows).set oT (tapeC l j)).addTok kD).addTok kA).set oM _).set oM _).set oM (mkC oT (f:Int) (nf:Int) _ nilV (gnv [] kD) (gnv [] kA) 0 22)) _;rw [St.set_set,St.set_set];exact .refl _) ?_
  obtain ⟨w,hw,wl⟩:=fnames_get f (by omega);obtain ⟨p,hp,hp4'⟩:∃ p:Nat,(ps.map fun (p:Nat)=>[AV.int .i64 (p:Int)])[f]?=some [.int .i64 (p:Int)]∧p≤4:=by
   have hlt:f<ps.length:=by omega
   exact ⟨ps[f],by rw [List.getElem?_map,List.getElem?_eq_getElem hlt];rfl,hp4 _ (List.getElem_mem hlt)⟩
  have hfl:f<(ps.map fun (p:Nat)=>[AV.int .i64 (p:Int)]).length:=by rw [List.length_map];omega
  refine goC ?_;refine AWP.draw rfl 12 11 (fun v s=>∃ o,v=.cptr o 4 0 0∧(Y.set oM (mkC oT (f:Int) (nf:Int) pv nilV (gnv [] kD) (gnv [] kA) 0 22)).obj o=none∧s=(Y.set oM (mkC oT (f:Int) (nf:Int) pv nilV (gnv [] kD) (gnv [] kA) 0 22)).set o (.cells 36 4 [fRow [] nilV nilV])) rfl ?_;refine dp (h:=fun _ _=>bsh (cs:=gfnames) rfl rfl rfl rfl rfl nz) (z:=?_);refine goF ?_;refine dq rfl rfl rfl (fun st1 hle=>ix (m:=f) rfl rfl rfl rfl (by show f<4;omega) (nl ⟨_,rfl,rfl,rfl⟩)) ?_;refine goF ?_;refine dp (h:=fun _ _=>bsh (cs:=[.str [97],.str [98],.str [99],.str [100]]) rfl rfl rfl rfl rfl nz) (z:=?_);refine goF ?_;refine dq rfl rfl rfl (fun st1 hle=>svh (b:=p) rfl rfl rfl (by show p≤4;omega) (nl ⟨_,rfl,rfl,rfl⟩)) ?_;rw [show (chunk (0+1) 4 [AV.str [97],AV.str [98],AV.str [99],AV.str [100]]).take p=nrows (pnames.take p) from nrows_take pnames p];refine dp (h:=fun _ _=>bds (cs:=fRow w (vw 1 (nrows (pnames.take p))) nilV) rfl rfl rfl rfl nz) (z:=?_);refine de rfl rfl rfl ?_ ?_
  ·exact al rfl rfl fun o ho=>nl ⟨_,rfl,⟨o,rfl,ho,rfl⟩,⟨fun x c hx=>St.obj_new ho hx,fun _ h=>(by cases h),rfl⟩⟩
  refine dn ⟨fun h=>absurd h (by decide),fun _=>?_⟩;rintro v s1 d9 hd9 ⟨o9,rfl,ho9,rfl⟩;cases hd9;refine soV rfl rfl rfl rfl rfl rfl ?_;refine nl ?_;have n9M:o9≠oM:=fun e=>by rw [e,St.obj_set] at ho9;cases ho9
  have hY9:Y.obj o9=none:=by rw [St.obj_set_ne n9M] at ho9;exact ho9
  have n9T:o9≠oT:=fun e=>by
   rw [e,hY] at hY9;have h9:((((B tk rows).set oT (tapeC l j)).addTok kD).addTok kA).obj oT=some (tapeC l j):=St.obj_set _ _ _;rw [h9] at hY9;cases hY9
  have hB9:(B tk rows).obj o9=none:=by
   rw [hY] at hY9;have h9:((B tk rows).set oT (tapeC l j)).obj o9=none:=hY9
   rwa [St.obj_set_ne n9T] at h9
  refine AWP.weaken (T':=[(9,.cptr o9 4 0 0),(8,.cptr oM 9 0 0),(7,.int .i64 (f:Int)),(6,.view 1 (ps.map fun (p:Nat)=>[AV.int .i64 (p:Int)]) .shared),(5,.int .i64 (nf:Int)),(4,.cptr o4 2 0 0),(3,.cptr oT 2 0 0),(2,.cptr o2 2 0 0)]) (tl8 rfl rfl rfl rfl rfl rfl rfl rfl) (.refl _) ?_;refine goC ?_;refine rg ?_;refine sm rfl ?_;refine bs0 (z:=?_);refine goE ?_;refine apf rfl rfl rfl rfl (by rw [nrows_len,List.length_take];omega) (by rw [nrows_len,List.length_take];simp only [maxLen];omega) fun kS hkS=>?_;refine goE ?_;rw [show ((Y.set oM (mkC oT (f:Int) (nf:Int) pv nilV (gnv [] kD) (gnv [] kA) 0 22)).set o9 (.cells 36 4 [AV.cells (.agg (fRow w (vw 1 (nrows (pnames.take p))) nilV))])).addTok kS=((Y.addTok kS).set oM (mkC oT (f:Int) (nf:Int) pv nilV (gnv [] kD) (gnv [] kA) 0 22)).set o9 (.cells 36 4 [fRow w (vw 1 (nrows (pnames.take p))) nilV]) from rfl,St.set_comm _ (Ne.symm n9M)];unfold mkC;refine YB (row':=mkRow oT (f:Int) (nf:Int) pv (gnv (pnames.take p) kS) (gnv [] kD) (gnv [] kA) 0 22) (hle:=by exact Nat.le_of_ble_eq_true rfl) (he:=by exact rfl) (z:=?_);refine nl ?_;have hkS0:(B tk rows).tok kS=false∧kS≠kD∧kS≠kA:=by
   rw [hY] at hkS;have h9:(if kS=kA then true else if kS=kD then true else (B tk rows).tok kS)=false:=hkS;by_cases e:kS=kA
   ·rw [if_pos e] at h9;cases h9
   ·rw [if_neg e] at h9;by_cases e2:kS=kD
    ·rw [if_pos e2] at h9;cases h9
    ·rw [if_neg e2] at h9;exact ⟨h9,e2,e⟩
  obtain ⟨E,hEl,hET,hEM,hEf,hEn,hEp⟩:∃ E:MEnv,E.l=l∧E.oT=oT∧E.oM=oM∧E.f=f∧E.funcs=nf∧E.ps=ps:=⟨⟨l,oT,oM,f,nf,ps,hl,nMT,hfn,by omega,hpl,hp4⟩,rfl,rfl,rfl,rfl,rfl,rfl⟩;obtain ⟨a,ha⟩:∃ a:MA,a=⟨j,pnames.take p,[],[],kS,kD,kA,0,22⟩:=⟨_,rfl⟩;have hv:MV E ((B tk rows).set o9 (.cells 36 4 [fRow w (vw 1 (nrows (pnames.take p))) nilV])) a:=by
   subst ha;refine ⟨by rw [hEl];exact hj,fun s hs=>?_,fun s hs=>(by cases hs),fun s hs=>(by cases hs),?_,Nat.zero_le _,Nat.zero_le _,Nat.le_of_ble_eq_true rfl,?_⟩
   ·have h9:s ∈ pnames:=List.mem_of_mem_take hs;simp only [pnames,List.mem_cons,List.not_mem_nil,or_false] at h9;rcases h9 with rfl|rfl|rfl|rfl<;>decide
   ·simp only [List.length_take];omega
   ·refine ⟨fun i j' t h1 h2=>?_,fun i t h1=>?_⟩
    ·match i,j',h1,h2 with
     | 0,0,_,_=>rfl
     | 1,1,_,_=>rfl
     | 2,2,_,_=>rfl
     | 0,1,h1,h2=>cases h1;cases h2;exact absurd rfl hkS0.2.1
     | 0,2,h1,h2=>cases h1;cases h2;exact absurd rfl hkS0.2.2
     | 1,0,h1,h2=>cases h1;cases h2;exact absurd rfl hkS0.2.1
     | 1,2,h1,h2=>cases h1;cases h2;exact absurd rfl hkA0.2
     | 2,0,h1,h2=>cases h1;cases h2;exact absurd rfl hkS0.2.2
     | 2,1,h1,h2=>cases h1;cases h2;exact absurd rfl hkA0.2
     | i+3,_,h1,_=>cases h1
     | 0,j'+3,_,h2=>cases h2
     | 1,j'+3,_,h2=>cases h2
     | 2,j'+3,_,h2=>cases h2
    ·match i,h1 with
     | 0,h1=>cases h1;exact hkS0.1
     | 1,h1=>cases h1;exact hkD0
     | 2,h1=>cases h1;exact hkA0.1
  subst hET hEM hEf hEn hEp;have hle0:StLe (((Y.addTok kS).set o9 (.cells 36 4 [fRow w (vw 1 (nrows (pnames.take p))) nilV])).set E.oM (.cells 92 9 [mkRow E.oT (E.f:Int) (E.funcs:Int) pv (gnv (pnames.take p) kS) (gnv [] kD) (gnv [] kA) 0 22])) (E.st ((B tk rows).set o9 (.cells 36 4 [fRow w (vw 1 (nrows (pnames.take p))) nilV])) a):=by
   rw [hY,ha,hpv];have e9:((B tk rows).set E.oT (tapeC l j)).set o9 (.cells 36 4 [fRow w (vw 1 (nrows (pnames.take p))) nilV])=((B tk rows).set o9 (.cells 36 4 [fRow w (vw 1 (nrows (pnames.take p))) nilV])).set E.oT (tapeC E.l j):=by rw [St.set_comm _ (Ne.symm n9T),hEl]
   show StLe ((((((B tk rows).set E.oT (tapeC l j)).set o9 (.cells 36 4 [fRow w (vw 1 (nrows (pnames.take p))) nilV])).addTok kD).addTok kA).addTok kS |>.set E.oM _) _;rw [e9];refine ⟨fun _ _ h=>h,fun t h=>?_,rfl⟩;have h9:(decide (some t ∈ [some kS,some kD,some kA]) || (B tk rows).tok t)=true:=h;show (if t=kS then true else if t=kA then true else if t=kD then true else (B tk rows).tok t)=true;by_cases e1:t=kS
   ·rw [if_pos e1]
   by_cases e2:t=kA
   ·rw [if_neg e1,if_pos e2]
   by_cases e3:t=kD
   ·rw [if_neg e1,if_neg e2,if_pos e3]
   rw [if_neg e1,if_neg e2,if_neg e3];rw [Bool.or_eq_true] at h9;rcases h9 with h9|h9
   ·simp only [decide_eq_true_eq,List.mem_cons,Option.some.injEq,List.not_mem_nil,or_false] at h9;rcases h9 with h9|h9|h9
    ·exact absurd h9 e1
    ·exact absurd h9 e3
    ·exact absurd h9 e2
   ·exact h9
  refine AWP.weaken (T':=[(9,.cptr o9 4 0 0),(8,.cptr E.oM 9 0 0),(7,.int .i64 (E.f:Int)),(6,.view 1 (E.ps.map fun (p:Nat)=>[AV.int .i64 (p:Int)]) .shared),(5,.int .i64 (E.funcs:Int)),(4,.cptr o4 2 0 0),(3,.cptr E.oT 2 0 0),(2,.cptr o2 2 0 0)]) (tl8 rfl rfl rfl rfl rfl rfl rfl rfl) hle0 ?_;clear hle0 hkS hkA hkD hkS0 hkA0 hkD0;obtain ⟨C9,hC9⟩:∃ C9:AV→St,C9=fun b=>(B tk rows).set o9 (.cells 36 4 [fRow w (vw 1 (nrows (pnames.take p))) b]):=⟨_,rfl⟩;rw [show (B tk rows).set o9 (.cells 36 4 [fRow w (vw 1 (nrows (pnames.take p))) nilV])=C9 nilV by rw [hC9]] at hv ⊢;have hC9e:∀ b c,E.st (C9 b) c=(E.st (B tk rows) c).set o9 (.cells 36 4 [fRow w (vw 1 (nrows (pnames.take p))) b]):=fun b c=>by rw [hC9];exact (E.under n9T n9M _).symm
  refine goC ?_;refine rg ?_;refine goE ?_;refine nl ?_;refine cut (α:=Nat) (fun m=>[(10,.int .i64 (m:Int)),(9,.cptr o9 4 0 0),(8,.cptr E.oM 9 0 0),(7,.int .i64 (E.f:Int)),(6,.view 1 (E.ps.map fun (p:Nat)=>[AV.int .i64 (p:Int)]) .shared),(5,.int .i64 (E.funcs:Int)),(4,.cptr o4 2 0 0),(3,.cptr E.oT 2 0 0),(2,.cptr o2 2 0 0)]) (fun _=>E.st (C9 nilV) a) (fun m=>m≤10) ?_ ?_
  ·by_cases hf0:(0:Int)<(E.f:Int)
   ·refine goD ?_;exact ⟨6,by decide,(tl9 rfl rfl rfl rfl rfl rfl rfl rfl rfl),.refl _⟩
   ·refine goD ?_;exact ⟨10,by decide,(tl9 rfl rfl rfl rfl rfl rfl rfl rfl rfl),.refl _⟩
  ·intro m hm;refine goD ?_;refine cl rfl rfl (stmts_ok 3 (by decide) E (C9 nilV) a hv m hm) fun v s' ⟨srows,tks,b,hv',hsg,hsl,hs0,hvb,hleb,hsb,hs⟩=>?_;subst hv' hs;refine goE ?_;rw [show (C9 nilV).addTok tks=((B tk rows).addTok tks).set o9 (.cells 36 4 [fRow w (vw 1 (nrows (pnames.take p))) nilV]) by rw [hC9];rfl,← E.under n9T n9M];refine YB (row':=fRow w (vw 1 (nrows (pnames.take p))) (.view 13 srows (.own tks 41))) (hle:=by exact Nat.le_of_ble_eq_true rfl) (he:=by exact rfl) (z:=?_);rw [E.under n9T n9M];refine nl ?_;obtain ⟨DD,hDD⟩:∃ DD:Nat→List (List AV)→St,DD=fun k r=>((B tk rows).addTok k).set o9 (.cells 36 4 [fRow w (vw 1 (nrows (pnames.take p))) (.view 13 r (.own k 41))]):=⟨_,rfl⟩;rw [show ((B tk rows).addTok tks).set o9 (.cells 36 4 [fRow w (vw 1 (nrows (pnames.take p))) (.view 13 srows (.own tks 41))])=DD tks srows by rw [hDD]];have hs0':(B tk rows).tok tks=false:=by rw [hC9] at hs0;exact hs0
   have hvb':MV E ((B tk rows).addTok tks) b:=by rw [hC9] at hvb;exact MV.unset (o:=o9) hvb
   have hvD:∀ {k r c},MV E ((B tk rows).addTok k) c→MV E (DD k r) c:=fun {k r c} h=>by rw [hDD];exact h.set _ _
   have hDe:∀ k r c,E.st (DD k r) c=(E.st ((B tk rows).addTok k) c).set o9 (.cells 36 4 [fRow w (vw 1 (nrows (pnames.take p))) (.view 13 r (.own k 41))]):=fun k r c=>by rw [hDD];exact (E.under n9T n9M _).symm
   have hD9:∀ k r c,(E.st (DD k r) c).obj o9=some (.cells 36 4 [fRow w (vw 1 (nrows (pnames.take p))) (.view 13 r (.own k 41))]):=fun k r c=>by rw [hDe];exact St.obj_set _ _ _
   have hDs:∀ k r r' c,E.st ((((B tk rows).set o9 (.cells 36 4 [fRow w (vw 1 (nrows (pnames.take p))) (.view 13 r (.own k 41))])).addTok r')) c=(E.st ((B tk rows).addTok r') c).set o9 (.cells 36 4 [fRow w (vw 1 (nrows (pnames.take p))) (.view 13 r (.own k 41))]):=fun k r r' c=>(by
    show E.st (((B tk rows).addTok r').set o9 _) c=_;exact (E.under n9T n9M _).symm)
   clear hvb hs0 hleb hsb hv;refine cut (α:=Nat × List (List AV) × MA) (fun _=>[(9,.cptr o9 4 0 0),(8,.cptr E.oM 9 0 0),(7,.int .i64 (E.f:Int)),(6,.view 1 (E.ps.map fun (p:Nat)=>[AV.int .i64 (p:Int)]) .shared),(5,.int .i64 (E.funcs:Int)),(4,.cptr o4 2 0 0),(3,.cptr E.oT 2 0 0),(2,.cptr o2 2 0 0)]) (fun x=>E.st (DD x.1 x.2.1) x.2.2) (fun x=>x.2.1.length≤21∧(∀ r ∈ x.2.1,GS 4 r)∧(B tk rows).tok x.1=false∧MV E ((B tk rows).addTok x.1) x.2.2) ?_ ?_
   ·have hM1:=E.obj_M (DD tks srows) b;by_cases hS:(0:Int)<((nrows b.S).length:Int)
    ·refine goD ?_;refine cl rfl rfl (next_j E (hvD hvb') (MJ.refl (hvD hvb')) 3 (by decide) (by decide)) fun v s' ⟨⟨n1,hn1,hn13⟩,j1,hj1,hs⟩=>?_;subst hn1 hs;by_cases hn10:(0:Int)<(n1:Int)
     ·refine goD ?_;apply AWP.drawI (hm:=rfl) (k:=19) (I:=MJ E (DD tks srows) b) (hI:=⟨j1,hj1,rfl⟩)
      case hok=>rfl
      have hM:=fun s (h:MJ E (DD tks srows) b s)=>h.M;repeat (apply diQ (hd:=rfl) (hw:=rfl) (h:=fun _ _=>ZC (z:=nz)))
      apply diQ (hd:=rfl) (hw:=rfl) (h:=fun x hx=>by
       obtain ⟨j2,hj2,rfl⟩:=hx;exact lc rfl rfl (hD9 _ _ _) rfl rfl (nl ⟨_,rfl,rfl,rfl⟩))
      repeat (first|apply diQ (hd:=rfl) (hw:=rfl) (h:=fun st1 hI=>lc rfl rfl (hM st1 hI) rfl rfl (nl ⟨_,rfl,rfl,rfl⟩))|apply diQ (hd:=rfl) (hw:=rfl) (h:=fun _ _=>ZA (z:=nz))|apply diQ (hd:=rfl) (hw:=rfl) (h:=fun _ _=>ZC (z:=nz))|apply diQ (hd:=rfl) (hw:=rfl) (h:=fun _ _=>ZJ (z:=nz)))
      apply diE (Q:=fun v=>∃ n:Nat,v=.int .i64 (n:Int)∧n<(nrows b.S).length) (hd:=rfl) (hw:=rfl) (hex:=⟨_,0,rfl,by omega⟩) (h:=fun x hx=>cl rfl rfl (next_j E (hvD hvb') hx ((nrows b.S).length:Int) hS (by rw [nrows_len];have:=hvb'.lS;have:=hvb'.c;omega)) fun v s' ⟨⟨n,hv,hn⟩,hs⟩=>nl ⟨v,rfl,⟨n,hv,by omega⟩,hs⟩);rintro v ⟨m1,rfl,hm1⟩;apply diE (Q:=fun v=>∃ m:Nat,v=.eptr 1 (nrows b.S) m 0∧m<(nrows b.S).length) (hd:=rfl) (hw:=rfl) (hex:=⟨_,m1,rfl,hm1⟩) (h:=fun x hx=>ix (m:=m1) rfl rfl rfl rfl hm1 (nl ⟨_,rfl,⟨m1,rfl,hm1⟩,hx⟩));rintro v ⟨m2,rfl,hm2⟩;obtain ⟨q1,hq1,hq1l⟩:=MA.S_get hvb'.nS hm2;apply diE (Q:=fun v=>∃ w:List UInt8,v=.str w∧w.length≤30) (hd:=rfl) (hw:=rfl) (hex:=⟨_,q1,rfl,hq1l⟩) (h:=fun x hx=>Go.AM.le rfl rfl hq1 rfl (nl ⟨_,rfl,⟨q1,rfl,hq1l⟩,hx⟩));rintro v ⟨w2,rfl,w2l⟩;apply diE (Q:=fun v=>∃ w:List UInt8,v=.agg (exRow 1 0 w [] noE)∧w.length≤30) (hd:=rfl) (hw:=rfl) (hex:=⟨_,w2,rfl,w2l⟩) (h:=fun x hx=>clp rfl rfl inferInstance (nl ⟨_,rfl,⟨w2,rfl,w2l⟩,hx⟩));rintro v ⟨w3,rfl,w3l⟩;apply diE (Q:=fun v=>∃ w:List UInt8,v=.view 6 [exRow 1 0 w [] noE] .shared∧w.length≤30) (hd:=rfl) (hw:=rfl) (hex:=⟨_,w3,rfl,w3l⟩) (h:=fun x hx=>bs1 rfl rfl rfl rfl rfl rfl (nl ⟨_,rfl,⟨w3,rfl,w3l⟩,hx⟩));rintro v ⟨w4,rfl,w4l⟩;apply diE (Q:=fun v=>∃ w:List UInt8,v=.agg (stRow 6 0 [] [] [] nilV (vw 6 [exRow 1 0 w [] noE]) nilV nilV)∧w.length≤30) (hd:=rfl) (hw:=rfl) (hex:=⟨_,w4,rfl,w4l⟩) (h:=fun x hx=>bds (cs:=stRow 6 0 [] [] [] nilV (vw 6 [exRow 1 0 w4 [] noE]) nilV nilV) rfl rfl rfl rfl (nl ⟨_,rfl,⟨w4,rfl,w4l⟩,hx⟩));rintro v ⟨w5,rfl,w5l⟩;apply diE (Q:=fun v=>∃ w:List UInt8,v=.view 13 [stRow 6 0 [] [] [] nilV (vw 6 [exRow 1 0 w [] noE]) nilV nilV] .shared∧w.length≤30) (hd:=rfl) (hw:=rfl) (hex:=⟨_,w5,rfl,w5l⟩) (h:=fun x hx=>bs1 rfl rfl rfl rfl rfl rfl (nl ⟨_,rfl,⟨w5,rfl,w5l⟩,hx⟩));rintro v ⟨w6,rfl,w6l⟩;refine diN fun s4 hs4=>?_;obtain ⟨j4,hj4,rfl⟩:=hs4;refine AOps.weaken (T':=[(92,.view 13 [stRow 6 0 [] [] [] (vw 6 []) (vw 6 [exRow 1 0 w6 [] noE]) (vw 13 []) (vw 13 [])] .shared),(75,.view 13 srows (.own tks 41)),(9,.cptr o9 4 0 0),(8,.cptr E.oM 9 0 0),(7,.int .i64 (E.f:Int)),(6,.view 1 (E.ps.map fun (p:Nat)=>[AV.int .i64 (p:Int)]) .shared),(5,.int .i64 (E.funcs:Int)),(4,.cptr o4 2 0 0),(3,.cptr E.oT 2 0 0),(2,.cptr o2 2 0 0)]) (TLe.cons rfl (st1_le (.nilShared _ _) (.refl _) (.nilShared _ _) (.nilShared _ _) rfl rfl rfl rfl) (tl9 rfl rfl rfl rfl rfl rfl rfl rfl rfl)) (.refl _) ?_;have hvE:MV E (((B tk rows).set o9 (.cells 36 4 [fRow w (vw 1 (nrows (pnames.take p))) (.view 13 srows (.own tks 41))])).addTok tks) { b with j:=j4 }:=by have:=hvD (r:=srows) (hvb'.tape hj4);rw [hDD] at this;exact this
      rw [show E.st (DD tks srows) { b with j:=j4 }=E.st (((B tk rows).set o9 (.cells 36 4 [fRow w (vw 1 (nrows (pnames.take p))) (.view 13 srows (.own tks 41))])).addTok tks) { b with j:=j4 } by rw [hDD];rfl];refine ap_out E (rows2:=[stRow 6 0 [] [] [] (vw 6 []) (vw 6 [exRow 1 0 w6 [] noE]) (vw 13 []) (vw 13 [])]) rfl rfl rfl hs0' hvE (by simp only [List.length_cons,List.length_nil];omega) fun tk' h0' hvb2=>?_;have hvb3:MV E ((B tk rows).addTok tk') { b with j:=j4 }:=MV.unset (o:=o9) (show MV E (((B tk rows).addTok tk').set o9 _) _ from hvb2);rw [hDs];refine goE ?_;refine YB (row':=fRow w (vw 1 (nrows (pnames.take p))) (.view 13 (srows++[stRow 6 0 [] [] [] (vw 6 []) (vw 6 [exRow 1 0 w6 [] noE]) (vw 13 []) (vw 13 [])]) (.own tk' 41))) (hle:=by exact Nat.le_of_ble_eq_true rfl) (he:=by exact rfl) (z:=?_);refine nl ?_;refine ⟨(tk',srows++[stRow 6 0 [] [] [] (vw 6 []) (vw 6 [exRow 1 0 w6 [] noE]) (vw 13 []) (vw 13 [])],{ b with j:=j4 }),⟨by simp only [List.length_append,List.length_cons,List.length_nil];omega,fun r hr=>?_,h0',hvb3⟩,(tl8 rfl rfl rfl rfl rfl rfl rfl rfl),by rw [hDe];exact .refl _⟩;rcases List.mem_append.1 hr with hr|hr
      ·exact hsg r hr
      ·rw [List.mem_singleton.1 hr];exact GS_le (by omega) (GS_one (len:=0) (by decide) (by decide) (by decide) (by decide) (by decide) (by decide) (by decide) (Nat.zero_le _) (by simp) (fun r hr=>(by cases hr)) (fun r hr=>by rw [List.mem_singleton.1 hr];exact GE_var 3 w6l))
     ·refine goD ?_;exact ⟨(tks,srows,{ b with j:=j1 }),⟨by simp only;omega,hsg,hs0',hvb'.tape hj1⟩,(tl8 rfl rfl rfl rfl rfl rfl rfl rfl),.refl _⟩
    ·refine goD ?_;exact ⟨(tks,srows,b),⟨by simp only;omega,hsg,hs0',hvb'⟩,(tl8 rfl rfl rfl rfl rfl rfl rfl rfl),.refl _⟩
   ·clear hsg hsl hs0' hvb';rintro ⟨tks,srows,b⟩ ⟨hsl,hsg,hs0',hvb'⟩;simp only at hsl hsg hs0' hvb';show AWP _ _ _ _ _ _ (E.st (DD tks srows) b);have h9:=hD9 tks srows b;refine goD ?_;refine bds (cs:=stRow 10 0 [] [] [] nilV nilV nilV nilV) rfl rfl rfl rfl ?_;refine AOps.weaken (T':=[(97,.agg (stRow 10 0 [] [] [] (vw 6 []) (vw 6 []) (vw 13 []) (vw 13 []))),(96,.view 13 srows (.own tks 41)),(9,.cptr o9 4 0 0),(8,.cptr E.oM 9 0 0),(7,.int .i64 (E.f:Int)),(6,.view 1 (E.ps.map fun (p:Nat)=>[AV.int .i64 (p:Int)]) .shared),(5,.int .i64 (E.funcs:Int)),(4,.cptr o4 2 0 0),(3,.cptr E.oT 2 0 0),(2,.cptr o2 2 0 0)]) (TLe.cons rfl (st_le (.nilShared _ _) (.nilShared _ _) (.nilShared _ _) (.nilShared _ _) rfl rfl rfl rfl) (tl9 rfl rfl rfl rfl rfl rfl rfl rfl rfl)) (.refl _) ?_;refine goE ?_;have hvE:MV E (((B tk rows).set o9 (.cells 36 4 [fRow w (vw 1 (nrows (pnames.take p))) (.view 13 srows (.own tks 41))])).addTok tks) b:=by have:=hvD (r:=srows) hvb';rw [hDD] at this;exact this
    rw [show E.st (DD tks srows) b=E.st (((B tk rows).set o9 (.cells 36 4 [fRow w (vw 1 (nrows (pnames.take p))) (.view 13 srows (.own tks 41))])).addTok tks) b by rw [hDD];rfl];refine ap_out E (rows2:=[stRow 10 0 [] [] [] (vw 6 []) (vw 6 []) (vw 13 []) (vw 13 [])]) rfl rfl rfl hs0' hvE (by simp only [List.length_cons,List.length_nil];omega) fun tk' h0' hvb2=>?_;rw [hDs];refine goE ?_;refine YB (row':=fRow w (vw 1 (nrows (pnames.take p))) (.view 13 (srows++[stRow 10 0 [] [] [] (vw 6 []) (vw 6 []) (vw 13 []) (vw 13 [])]) (.own tk' 41))) (hle:=by exact Nat.le_of_ble_eq_true rfl) (he:=by exact rfl) (z:=?_);refine nl ?_;have n49:o4≠o9:=fun e=>by rw [← e,hB] at hB9;have h8:(((st.set o2 zP).set o4 (PC (.view 4 rows (.own tk 36)))).addTok tk).obj o4=some (PC (.view 4 rows (.own tk 36))):=St.obj_set _ _ _;rw [h8] at hB9;cases hB9
    have h4o:((E.st ((B tk rows).addTok tk') b).set o9 (.cells 36 4 [fRow w (vw 1 (nrows (pnames.take p))) (.view 13 (srows++[stRow 10 0 [] [] [] (vw 6 []) (vw 6 []) (vw 13 []) (vw 13 [])]) (.own tk' 41))])).obj o4=some (PC (.view 4 rows (.own tk 36))):=by
     rw [St.obj_set_ne n49,E.obj_o n4T (Ne.symm nM4),hB];exact St.obj_set _ _ _
    skip
    refine rg ?_;refine goE ?_;refine AOps.weaken (T':=[(104,.view 4 [fRow w (vw 1 (nrows (pnames.take p))) (vw 13 (srows++[stRow 10 0 [] [] [] (vw 6 []) (vw 6 []) (vw 13 []) (vw 13 [])]))] .shared),(102,.view 4 rows (.own tk 36)),(7,.int .i64 (E.f:Int)),(6,.view 1 (E.ps.map fun (p:Nat)=>[AV.int .i64 (p:Int)]) .shared),(5,.int .i64 (E.funcs:Int)),(4,.cptr o4 2 0 0),(3,.cptr E.oT 2 0 0),(2,.cptr o2 2 0 0)]) (st':=(B tk rows).set E.oT (tapeC l b.j)) (TLe.cons rfl (.trans _ _ _ (fr1_le (.shared _ _ _) rfl rfl) (.refl _)) (tl7 rfl rfl rfl rfl rfl rfl rfl)) ?_ ?_
    ·refine StLe.trans (StLe.new (by rw [E.obj_o n9T n9M];exact hB9) (.refl _)) (StLe.trans (E.tokLe _ _ _) ?_);rw [← hEl];refine StLe.trans (toks_drop _ _) (StLe.new ?_ (.refl _));rw [St.obj_set_ne nMT];exact hBM
    have hbt:∀ x,(B tk rows).tok x=(if x=tk then true else st.tok x):=fun x=>by rw [hB];rfl
    refine ap (rows2:=[fRow w (vw 1 (nrows (pnames.take p))) (vw 13 (srows++[stRow 10 0 [] [] [] (vw 6 []) (vw 6 []) (vw 13 []) (vw 13 [])]))]) rfl rfl rfl (by show (B tk rows).tok tk=true;rw [hbt,if_pos rfl]) rfl (by simp only [List.length_cons,List.length_nil];omega) (by simp only [List.length_cons,List.length_nil,maxLen];omega) fun tk2 htk2=>?_;have htk3:st.tok tk2=false:=by
     have h8:(B tk rows).tok tk2=false:=htk2;rw [hbt] at h8;by_cases e:tk2=tk
     ·rw [if_pos e] at h8;cases h8
     ·rwa [if_neg e] at h8
    rw [show ((((B tk rows).set E.oT (tapeC l b.j)).untok tk).addTok tk2)=((((((st.set o2 zP).set E.oT (tapeC l b.j)).addTok tk).untok tk).addTok tk2).set o4 (PC (.view 4 rows (.own tk 36)))) by
     rw [hB];show (((((st.set o2 zP).set o4 (PC _)).set E.oT _).addTok tk).untok tk).addTok tk2=(((((st.set o2 zP).set E.oT (tapeC l b.j)).set o4 (PC (.view 4 rows (.own tk 36)))).addTok tk).untok tk).addTok tk2;rw [St.set_comm _ n4T]]
    refine goE ?_;unfold PC;refine YB (row':=[recV,.view 4 (rows++[fRow w (vw 1 (nrows (pnames.take p))) (vw 13 (srows++[stRow 10 0 [] [] [] (vw 6 []) (vw 6 []) (vw 13 []) (vw 13 [])]))]) (.own tk2 36)]) (hle:=by exact Nat.le_of_ble_eq_true rfl) (he:=by exact rfl) (z:=?_);refine nl ?_;refine goD ?_;refine ⟨(E.f+1,b.j,rows++[fRow w (vw 1 (nrows (pnames.take p))) (vw 13 (srows++[stRow 10 0 [] [] [] (vw 6 []) (vw 6 []) (vw 13 []) (vw 13 [])]))],tk2),⟨hfn,by rw [← hEl];exact hvb'.j,by simp only [List.length_append,List.length_cons,List.length_nil];omega,fun r hr=>?_,htk3⟩,by simp only;omega,(tl6 rfl rfl rfl rfl rfl rfl),?_⟩
    ·rcases List.mem_append.1 hr with hr|hr
     ·exact hg r hr
     ·rw [List.mem_singleton.1 hr];refine ⟨w,pnames.take p,srows++[stRow 10 0 [] [] [] (vw 6 []) (vw 6 []) (vw 13 []) (vw 13 [])],rfl,wl,by rw [List.length_take];omega,fun s hs=>?_,by simp only [List.length_append,List.length_cons,List.length_nil];omega,fun r hr=>?_⟩
      ·have h9:s ∈ pnames:=List.mem_of_mem_take hs;simp only [pnames,List.mem_cons,List.not_mem_nil,or_false] at h9;rcases h9 with rfl|rfl|rfl|rfl<;>decide
      ·rcases List.mem_append.1 hr with hr|hr
       ·exact hsg r hr
       ·rw [List.mem_singleton.1 hr];exact GS_le (by omega) (GS_one (len:=0) (by decide) (by decide) (by decide) (by decide) (by decide) (by decide) (by decide) (Nat.zero_le _) (Nat.zero_le _) (fun r hr=>(by cases hr)) (fun r hr=>(by cases hr)))
    ·show StLe _ ((B tk2 (rows++[_])).set E.oT (tapeC l b.j));rw [hB];show StLe _ (((((st.set o2 zP).set o4 (PC (.view 4 (rows++[_]) (.own tk2 36)))).set E.oT (tapeC l b.j)).addTok tk2));rw [St.set_comm _ n4T];exact StLe.set _ _ (StLe.reTok (st:=(st.set o2 zP).set E.oT (tapeC l b.j)) h0 tk2)
 ·have h4o:((B tk rows).set oT (tapeC l j)).obj o4=some (PC (.view 4 rows (.own tk 36))):=by rw [St.obj_set_ne n4T,hB];exact St.obj_set _ _ _
  have h2o:((B tk rows).set oT (tapeC l j)).obj o2=some zP:=by
   rw [St.obj_set_ne (Ne.symm n2T),hB];show ((st.set o2 zP).set o4 _).obj o2=_;rw [St.obj_set_ne (Ne.symm n42)];exact St.obj_set _ _ _
  unfold PC at h4o;refine goD ?_;refine AOps.weaken (T':=[(107,.agg [recV,vw 4 rows]),(2,.cptr o2 2 0 0)]) (TLe.cons rfl (pr_le _ _ _) (tl1 rfl)) (.refl _) ?_;refine so rfl rfl rfl h2o rfl rfl rfl rfl rfl ?_;refine goD ?_;refine AWP.ret (rets (resCW rfl (St.obj_set _ _ _) rfl rfl rfl rfl) (.refl _) ⟨fun x c hx=>?_,fun t ht=>?_,by rw [hB];rfl⟩ ⟨rows,rfl,by omega,hg,rfl⟩)
  ·have e2:x≠o2:=fun e=>by rw [e,h2] at hx;cases hx
   have e4:x≠o4:=fun e=>by rw [e,h4'] at hx;cases hx
   have eT:x≠oT:=fun e=>by rw [e,hT'] at hx;cases hx
   rw [St.obj_set_ne e2,St.obj_set_ne eT,hB];show ((st.set o2 zP).set o4 _).obj x=_;rw [St.obj_set_ne e4,St.obj_set_ne e2];exact hx
  ·have h9:(B tk rows).tok t=(if t=tk then true else st.tok t):=by rw [hB];rfl
   show (B tk rows).tok t=true;rw [h9,ht];simp
theorem words_ok (S:List (List UInt8)) (hS:∀ s ∈ S,s.length≤30) (hl:S.length≤1000) (k:Go.AM.Tok) (st:St) :
  ACalls Tryz.prog 33 [.view 1 (nrows S) k] st (fun v st'=>(∃ w:List UInt8,v=.str w∧w.length≤40 * S.length)∧st'=st) (fun _ _=>False):=by
 refine ACalls.ofBody Tryz.func33 rfl Tryz.ntmps33 rfl ?_;have hn:=nrows_len S;refine goD ?_;rw [hn];refine AWP.loop (α:=Nat × List UInt8) (fun x=>[(8,.int .i64 (x.1:Int)),(7,.int .i64 (S.length:Int)),(6,.view 1 (nrows S) k),(3,.str x.2)]) (fun _=>st) (fun x=>x.1≤S.length∧x.2.length≤40 * x.1) (fun x=>S.length-x.1)
  (0,[]) ⟨Nat.zero_le _,Nat.zero_le _⟩ (tl4 rfl rfl rfl rfl) (.refl _) ?_
 rintro ⟨i,s⟩ ⟨hi,hs⟩;simp only at hi hs;refine AWP.weaken (T':=[(8,.int .i64 (i:Int)),(7,.int .i64 (S.length:Int)),(6,.view 1 (nrows S) k),(3,.str s)]) (tl4 rfl rfl rfl rfl) (.refl _) ?_;refine goD ?_;refine AWP.cond_dec rfl (fun h=>AWP.skip ?_) (fun h=>AWP.exit (blk_hit ?_))
 ·have hlt:i<S.length:=by have:(i:Int)<(S.length:Int):=h;omega
  have hlt':i<(nrows S).length:=by rw [hn];exact hlt
  have hg:=nrows_get hlt
  have hgl:=hS _ (List.getElem_mem hlt);generalize S[i]=w at hg hgl;by_cases h0:(0:Int)<(i:Int)
  ·refine goD ?_;refine sad rfl rfl rfl (by simp only [List.length_cons,List.length_nil];omega) ?_;refine goD ?_;refine sad rfl rfl rfl LL ?_;refine goD ?_;exact ⟨(i+1,s++[44,32]++w),⟨hlt,by simp only [List.length_append,List.length_cons,List.length_nil];omega⟩,by simp only;omega,(tl4 rfl rfl rfl rfl),.refl _⟩
  ·refine goD ?_;refine sad rfl rfl rfl (by omega) ?_;refine goD ?_;exact ⟨(i+1,s++w),⟨hlt,by simp only [List.length_append];omega⟩,by simp only;omega,(tl4 rfl rfl rfl rfl),.refl _⟩
 ·refine goD ?_;exact AWP.ret (rets rfl (.refl _) (.refl _) ⟨⟨s,rfl,by omega⟩,rfl⟩)
def eL:Nat→Nat
 | 0=>100
 | d+1=>3 * eL d
theorem eL_ge:∀ d,100≤eL d
 | 0=>Nat.le_refl _
 | d+1=>by have:=eL_ge d;unfold eL;omega
theorem eL4:∀ d,d≤4→eL d≤10000
 | 0,_=>by decide
 | 1,_=>by decide
 | 2,_=>by decide
 | 3,_=>by decide
 | 4,_=>by decide
def signs:List AV:=[.str [43],.str [45],.str [42],.str [47],.str [37],.str [38],.str [124],.str [94],.str [60],.str [60,61],.str [61,61],.str [33,61]]
theorem signs_get:∀ k:Nat,k<12→∃ w:List UInt8,(chunk (0+1) 12 signs)[k]?=some [.str w]∧w.length≤2
 | 0,_=>⟨_,rfl,by decide⟩
 | 1,_=>⟨_,rfl,by decide⟩
 | 2,_=>⟨_,rfl,by decide⟩
 | 3,_=>⟨_,rfl,by decide⟩
 | 4,_=>⟨_,rfl,by decide⟩
 | 5,_=>⟨_,rfl,by decide⟩
 | 6,_=>⟨_,rfl,by decide⟩
 | 7,_=>⟨_,rfl,by decide⟩
 | 8,_=>⟨_,rfl,by decide⟩
 | 9,_=>⟨_,rfl,by decide⟩
 | 10,_=>⟨_,rfl,by decide⟩
 | 11,_=>⟨_,rfl,by decide⟩
def ExprT (d:Nat):Prop:=∀ row,GE d row→∀ (least:Int),-100≤least→least≤100→∀ st,ACalls Tryz.prog 61 [.agg row,.int .i64 least] st (fun v st'=>(∃ w:List UInt8,v=.str w∧w.length≤eL d)∧st'=st) (fun _ _=>False)
set_option maxHeartbeats 4000000 in
theorem exprt_step (d:Nat) (hd:d≤3) (ih:ExprT d):ExprT (d+1):=by
 intro row hg least l0 l1 st;obtain ⟨op,num,name,field,rows,rfl,g1,g2,g3,g4,g5,g6,g7,g8⟩:=hg;have hE:=eL_ge d;have hE4:=eL4 d (by omega);refine ACalls.ofBody Tryz.func61 rfl Tryz.ntmps61 rfl ?_;refine goD ?_;refine AWP.cutK (α:=List UInt8) (fun w=>[(6,.str w),(5,.int .i64 (rk op)),(1,.int .i64 least)]) (fun _=>st) (fun w=>w.length+2≤eL (d+1)) ?_ ?_
 ·have e1:eL (d+1)=3 * eL d:=rfl;rw [e1];have hr:rk op=1∨rk op=2∨rk op=3∨rk op=4∨rk op=5∨rk op=6:=by
   unfold rk;split
   ·exact .inl rfl
   split
   ·exact .inr (.inl rfl)
   split
   ·exact .inr (.inr (.inl rfl))
   split
   ·exact .inr (.inr (.inr (.inl rfl)))
   split
   ·exact .inr (.inr (.inr (.inr (.inl rfl))))
   ·exact .inr (.inr (.inr (.inr (.inr rfl))))
  have h5:rk op=5→op=4∨op=5:=by
   unfold rk;intro h;split at h
   ·cases h
   split at h
   ·cases h
   split at h
   ·cases h
   split at h
   ·cases h
   split at h
   ·assumption
   ·cases h
  have h4:rk op<5→6≤op∧op≤17:=by
   unfold rk;intro h;split at h
   ·omega
   split at h
   ·omega
   split at h
   ·omega
   split at h
   ·omega
   split at h<;>omega
  have hg0:∀ i,i<rows.length→∃ r,rows[i]?=some r∧GE d r:=fun i hi=>⟨_,List.getElem?_eq_getElem hi,g8 _ (List.getElem_mem hi)⟩;by_cases o0:op=0
  ·have hr0:rk op=6:=by rw [o0];rfl
   refine goD ?_;obtain ⟨m,rfl⟩:∃ m:Nat,num=(m:Int):=⟨num.toNat,by omega⟩;refine cle rfl rfl (digits_ok 18 m (by omega) (by decide) (by decide) st) ?_;refine goD ?_;exact ⟨digs 18 m,by have:=digs_len 18 m;omega,(tl3 rfl rfl rfl),.refl _⟩
  by_cases o2:op=2
  ·refine goD ?_;refine sad rfl rfl rfl (by simp only [List.length_cons,List.length_nil];omega) ?_;refine goD ?_;refine sad rfl rfl rfl LL ?_;refine goD ?_;exact ⟨name++[46]++field,by (try simp only [List.length_append,List.length_cons,List.length_nil]);omega,(tl3 rfl rfl rfl),.refl _⟩
  by_cases o3:op=3∧0<rows.length
  ·obtain ⟨o3,hl0⟩:=o3;obtain ⟨r0,hr0,hgr⟩:=hg0 0 hl0;obtain ⟨p1,p2,p3,p4,p5,rfl⟩:=GE_row hgr;refine goD ?_;apply AWP.drawI (hm:=rfl) (k:=8) (I:=fun x=>x=st) (hI:=rfl)
   case hok=>rfl
   repeat (first|apply diQ (hd:=rfl) (hw:=rfl) (h:=fun _ _=>ZF (z:=nz))|apply diQ (hd:=rfl) (hw:=rfl) (h:=fun _ _=>ZC (z:=nz)))
   apply diQ (hd:=rfl) (hw:=rfl) (h:=fun _ _=>sad rfl rfl rfl (by simp only [List.length_cons,List.length_nil];omega) nz);repeat (first|apply diQ (hd:=rfl) (hw:=rfl) (h:=fun _ _=>ZD (z:=nz))|apply diQ (hd:=rfl) (hw:=rfl) (h:=fun _ _=>ZF (z:=nz))|apply diQ (hd:=rfl) (hw:=rfl) (h:=fun _ _=>ZC (z:=nz))|apply diQ (hd:=rfl) (hw:=rfl) (h:=fun _ _=>ZM (z:=nz)))
   apply diE (Q:=fun v=>∃ w:List UInt8,v=.str w∧w.length≤eL d) (hd:=rfl) (hw:=rfl) (hex:=⟨_,[],rfl,Nat.zero_le _⟩) (h:=fun x hx=>by subst hx;exact cl rfl rfl (ih _ hgr 1 (by decide) (by decide) x) fun v s' hv=>nl ⟨v,rfl,hv⟩);rintro v ⟨w,rfl,wl⟩;refine diN fun s2 hs2=>?_;subst hs2;refine sad rfl rfl rfl LL ?_
   skip
   refine sad rfl rfl rfl LL ?_;refine goE ?_;refine nl ⟨name++[91]++w++[93],by (try simp only [List.length_append,List.length_cons,List.length_nil]);omega,(tl3 rfl rfl rfl),.refl _⟩
  by_cases o5:rk op=5∧0<rows.length
  ·obtain ⟨o5,hl0⟩:=o5;obtain ⟨r0,hr0,hgr⟩:=hg0 0 hl0;obtain ⟨p1,p2,p3,p4,p5,rfl⟩:=GE_row hgr;have ho:=h5 o5;obtain ⟨m,hm,hm2⟩:∃ m:Nat,op-4=(m:Int)∧m<2:=⟨(op-4).toNat,by omega,by omega⟩;have f2:∀ m,m<2→∃ b:List UInt8,(chunk (0+1) 2 [AV.str [45],AV.str [33]])[m]?=some [.str b]∧b.length≤1:=fun m hm=>match m,hm with
    | 0,_=>⟨_,rfl,by decide⟩
    | 1,_=>⟨_,rfl,by decide⟩
   obtain ⟨b,hb,bl⟩:=f2 m hm2;refine goD ?_;apply AWP.drawI (hm:=rfl) (k:=11) (I:=fun x=>x=st) (hI:=rfl)
   case hok=>rfl
   apply diQ (hd:=rfl) (hw:=rfl) (h:=fun x hx=>bsh (cs:=[.str [45],.str [33]]) rfl rfl rfl rfl rfl nz);repeat (first|apply diQ (hd:=rfl) (hw:=rfl) (h:=fun _ _=>ZF (z:=nz))|apply diQ (hd:=rfl) (hw:=rfl) (h:=fun _ _=>ZC (z:=nz))|apply diQ (hd:=rfl) (hw:=rfl) (h:=fun _ _=>YK (z:=nz)))
   rw [hm];apply diQ (hd:=rfl) (hw:=rfl) (h:=fun _ _=>ix (m:=m) rfl rfl rfl rfl (by exact hm2) nz);apply diQ (hd:=rfl) (hw:=rfl) (h:=fun _ _=>Go.AM.le rfl rfl hb rfl nz);repeat (first|apply diQ (hd:=rfl) (hw:=rfl) (h:=fun _ _=>ZD (z:=nz))|apply diQ (hd:=rfl) (hw:=rfl) (h:=fun _ _=>ZF (z:=nz))|apply diQ (hd:=rfl) (hw:=rfl) (h:=fun _ _=>ZC (z:=nz))|apply diQ (hd:=rfl) (hw:=rfl) (h:=fun _ _=>ZM (z:=nz)))
   apply diE (Q:=fun v=>∃ w:List UInt8,v=.str w∧w.length≤eL d) (hd:=rfl) (hw:=rfl) (hex:=⟨_,[],rfl,Nat.zero_le _⟩) (h:=fun x hx=>by subst hx;exact cl rfl rfl (ih _ hgr 5 (by decide) (by decide) x) fun v s' hv=>nl ⟨v,rfl,hv⟩);rintro v ⟨w,rfl,wl⟩;refine diN fun s2 hs2=>?_;subst hs2;refine sad rfl rfl rfl LL ?_;refine goE ?_;refine nl ⟨b++w,by (try simp only [List.length_append,List.length_cons,List.length_nil]);omega,(tl3 rfl rfl rfl),.refl _⟩
  by_cases o6:rk op<5∧1<rows.length
  ·obtain ⟨o6,hl1⟩:=o6;have hl0:0<rows.length:=by omega
   obtain ⟨r0,hr0,hgr⟩:=hg0 0 hl0;obtain ⟨p1,p2,p3,p4,p5,rfl⟩:=GE_row hgr;obtain ⟨r1,hr1,hgr1⟩:=hg0 1 hl1;obtain ⟨q1,q2,q3,q4,q5,rfl⟩:=GE_row hgr1;have ho:=h4 o6;obtain ⟨m,hm,hm2⟩:∃ m:Nat,op-6=(m:Int)∧m<12:=⟨(op-6).toNat,by omega,by omega⟩;obtain ⟨b,hb,bl⟩:=signs_get m hm2;refine goD ?_;refine bsh (cs:=signs) rfl rfl rfl rfl rfl ?_;refine goE ?_;refine nl ?_;refine goC ?_;refine rg ?_;refine goE ?_;refine nl ?_;refine cut (α:=Int) (fun x=>[(8,.int .i64 x),(7,.view 1 (chunk (0+1) 12 signs) .shared),(5,.int .i64 (rk op)),(2,.eptr 6 [exRow op num name field (.view 6 rows .shared)] 0 0),(1,.int .i64 least)]) (fun _=>st) (fun x=>0≤x∧x≤6) ?_ ?_
   ·by_cases r1:rk op=1
    ·refine goD ?_;exact ⟨2,⟨by decide,by decide⟩,(tl5 rfl rfl rfl rfl rfl),.refl _⟩
    ·refine goD ?_;exact ⟨rk op,⟨by omega,by omega⟩,(tl5 rfl rfl rfl rfl rfl),.refl _⟩
   intro x hx;apply AWP.drawI (hm:=rfl) (k:=22) (I:=fun x=>x=st) (hI:=rfl)
   case hok=>rfl
   repeat (first|apply diQ (hd:=rfl) (hw:=rfl) (h:=fun _ _=>ZA (z:=nz))|apply diQ (hd:=rfl) (hw:=rfl) (h:=fun _ _=>ZD (z:=nz))|apply diQ (hd:=rfl) (hw:=rfl) (h:=fun _ _=>ZF (z:=nz))|apply diQ (hd:=rfl) (hw:=rfl) (h:=fun _ _=>ZC (z:=nz))|apply diQ (hd:=rfl) (hw:=rfl) (h:=fun _ _=>ZM (z:=nz)))
   apply diE (Q:=fun v=>∃ w:List UInt8,v=.str w∧w.length≤eL d) (hd:=rfl) (hw:=rfl) (hex:=⟨_,[],rfl,Nat.zero_le _⟩) (h:=fun x hx'=>by subst hx';exact cl rfl rfl (ih _ hgr _ (by omega) (by omega) x) fun v s' hv=>nl ⟨v,rfl,hv⟩);rintro v ⟨w,rfl,wl⟩;apply diE (Q:=fun v=>∃ w:List UInt8,v=.str w∧w.length≤eL d+1) (hd:=rfl) (hw:=rfl) (hex:=⟨_,[],rfl,Nat.zero_le _⟩) (h:=fun x hx=>sad rfl rfl rfl LL (nl ⟨_,rfl,⟨_,rfl,by (try simp only [List.length_append,List.length_cons,List.length_nil]);omega⟩,hx⟩));rintro v ⟨w2,rfl,wl2⟩;repeat (first|apply diQ (hd:=rfl) (hw:=rfl) (h:=fun _ _=>ZA (z:=nz))|apply diQ (hd:=rfl) (hw:=rfl) (h:=fun _ _=>ZF (z:=nz))|apply diQ (hd:=rfl) (hw:=rfl) (h:=fun _ _=>ZC (z:=nz))|apply diQ (hd:=rfl) (hw:=rfl) (h:=fun _ _=>YK (z:=nz)))
   rw [hm];apply diQ (hd:=rfl) (hw:=rfl) (h:=fun _ _=>ix (m:=m) rfl rfl rfl rfl (by exact hm2) nz);repeat (apply diQ (hd:=rfl) (hw:=rfl) (h:=fun _ _=>ZF (z:=nz)))
   apply diE (Q:=fun v=>∃ w:List UInt8,v=.str w∧w.length≤eL d+3) (hd:=rfl) (hw:=rfl) (hex:=⟨_,[],rfl,Nat.zero_le _⟩) (h:=fun x hx=>sad rfl rfl rfl LL (nl ⟨_,rfl,⟨_,rfl,by (try simp only [List.length_append,List.length_cons,List.length_nil]);omega⟩,hx⟩));rintro v ⟨w3,rfl,wl3⟩;apply diE (Q:=fun v=>∃ w:List UInt8,v=.str w∧w.length≤eL d+4) (hd:=rfl) (hw:=rfl) (hex:=⟨_,[],rfl,Nat.zero_le _⟩) (h:=fun x hx=>sad rfl rfl rfl LL (nl ⟨_,rfl,⟨_,rfl,by (try simp only [List.length_append,List.length_cons,List.length_nil]);omega⟩,hx⟩));rintro v ⟨w4,rfl,wl4⟩;repeat (first|apply diQ (hd:=rfl) (hw:=rfl) (h:=fun _ _=>ZA (z:=nz))|apply diQ (hd:=rfl) (hw:=rfl) (h:=fun _ _=>ZD (z:=nz))|apply diQ (hd:=rfl) (hw:=rfl) (h:=fun _ _=>ZF (z:=nz))|apply diQ (hd:=rfl) (hw:=rfl) (h:=fun _ _=>ZC (z:=nz))|apply diQ (hd:=rfl) (hw:=rfl) (h:=fun _ _=>ZM (z:=nz))|apply diQ (hd:=rfl) (hw:=rfl) (h:=fun _ _=>YJ (z:=nz)))
   apply diE (Q:=fun v=>∃ w:List UInt8,v=.str w∧w.length≤eL d) (hd:=rfl) (hw:=rfl) (hex:=⟨_,[],rfl,Nat.zero_le _⟩) (h:=fun x hx'=>by subst hx';exact cl rfl rfl (ih _ hgr1 _ (by omega) (by omega) x) fun v s' hv=>nl ⟨v,rfl,hv⟩);rintro v ⟨w5,rfl,wl5⟩;refine diN fun s2 hs2=>?_;subst hs2;refine sad rfl rfl rfl LL ?_;refine goE ?_;refine nl ⟨w4++w5,by (try simp only [List.length_append,List.length_cons,List.length_nil]);omega,(tl3 rfl rfl rfl),.refl _⟩
  by_cases e3:op=3
  ·have hn:¬ 0<rows.length:=fun h=>o3 ⟨e3,h⟩
   have hr6:rk op=6:=by rw [e3];rfl
   refine goD ?_;exact ⟨name,by omega,(tl3 rfl rfl rfl),.refl _⟩
  by_cases e5:rk op=5
  ·have hn:¬ 0<rows.length:=fun h=>o5 ⟨e5,h⟩;refine goD ?_;exact ⟨name,by omega,(tl3 rfl rfl rfl),.refl _⟩
  by_cases e6:rk op<5
  ·have hn:¬ 1<rows.length:=fun h=>o6 ⟨e6,h⟩;refine goD ?_;exact ⟨name,by omega,(tl3 rfl rfl rfl),.refl _⟩
  refine goD ?_;exact ⟨name,by omega,(tl3 rfl rfl rfl),.refl _⟩
 ·intro w hw;have:=eL4 (d+1) (by omega);by_cases hlt:rk op<least
  ·refine goD ?_;refine sad rfl rfl rfl LL ?_
   skip
   refine sad rfl rfl rfl LL ?_;refine goD ?_;exact AWP.ret (rets rfl (.refl _) (.refl _) ⟨⟨_,rfl,by (try simp only [List.length_append,List.length_cons,List.length_nil]);omega⟩,rfl⟩)
  ·refine goD ?_;exact AWP.ret (rets rfl (.refl _) (.refl _) ⟨⟨w,rfl,by omega⟩,rfl⟩)
end Go.Proofs
namespace Go.AM
section
variable {P:Program} {n:Nat} {K:Post} {E:EPost} {T:Tmps} {st:St} {ops:Array Oper} {rest:List Oper}
variable {ty:TypeId} {pos:String} {es:Array Edge} {gd:Option (Nat × Bool)} {d:Tmp} {x y:Operand} {dd:Option Tmp}
theorem sadL {t u:TypeId} {a b:List UInt8} (hg:goes ops n T ⟨dd,.binOp .add t x y u,ty,pos,es,gd⟩=some d)
  (hx:ev st T x=some (.str a)) (hy:ev st T y=some (.str b)) (hl:a.length+b.length≤9223372036854775807)
  (h:∀ w:List UInt8,w.length=a.length+b.length→AOps P n ops rest K E ((d,.str w)::T) st):AOps P n ops (⟨dd,.binOp .add t x y u,ty,pos,es,gd⟩::rest) K E T st :=
 sad hg hx hy hl (h (a++b) (List.length_append ..))
end
end Go.AM
namespace Go.Proofs
open Go.AM
attribute [local irreducible] AWP AOps ACalls AAny
set_option linter.unusedSimpArgs false

theorem exprt_ok:∀ d,d≤4→ExprT d
 | 0,_=>fun _ hg=>hg.elim
 | d+1,h=>exprt_step d (by omega) (exprt_ok d (by omega))
theorem list_ok (rows:List (List AV)) (hg:∀ r ∈ rows,GE 4 r) (hl:rows.length≤4) (k:Go.AM.Tok) (st:St) :
  ACalls Tryz.prog 94 [.view 6 rows k] st (fun v st'=>(∃ w:List UInt8,v=.str w∧w.length≤44000)∧st'=st) (fun _ _=>False):=by
 refine ACalls.ofBody Tryz.func94 rfl Tryz.ntmps94 rfl ?_;have hE:=eL4 4 (by omega);refine goD ?_;refine AWP.loop (α:=Nat × List UInt8) (fun x=>[(8,.int .i64 (x.1:Int)),(7,.int .i64 (rows.length:Int)),(6,.view 6 rows k),(3,.str x.2)]) (fun _=>st) (fun x=>x.1≤rows.length∧x.2.length≤11000 * x.1) (fun x=>rows.length-x.1)
  (0,[]) ⟨Nat.zero_le _,Nat.zero_le _⟩ (tl4 rfl rfl rfl rfl) (.refl _) ?_
 rintro ⟨i,s⟩ ⟨hi,hs⟩;simp only at hi hs;refine AWP.weaken (T':=[(8,.int .i64 (i:Int)),(7,.int .i64 (rows.length:Int)),(6,.view 6 rows k),(3,.str s)]) (tl4 rfl rfl rfl rfl) (.refl _) ?_;refine goD ?_;refine AWP.cond_dec rfl (fun h=>AWP.skip ?_) (fun h=>AWP.exit (blk_hit ?_))
 ·have hlt:i<rows.length:=by have:(i:Int)<(rows.length:Int):=h;omega
  obtain ⟨r,hr,hgr⟩:∃ r,rows[i]?=some r∧GE 4 r:=⟨_,List.getElem?_eq_getElem hlt,hg _ (List.getElem_mem hlt)⟩;obtain ⟨p1,p2,p3,p4,p5,rfl⟩:=GE_row hgr;refine goD ?_;refine al rfl rfl fun o ho=>?_;refine sm rfl ?_;refine soV rfl rfl rfl rfl rfl rfl ?_;by_cases h0:(0:Int)<(i:Int)
  ·repeat (first|(refine Go.AM.sadL rfl rfl rfl LL (fun w hw=>?_);try simp only [List.length_append,List.length_cons,List.length_nil] at hw)|refine nl ?_|refine AWP.seq ?_|refine rg ?_|refine YH (z:=?_)|refine ZA (z:=?_)|refine ZE (z:=?_))
   refine cl rfl rfl (exprt_ok 4 (by decide) _ hgr 1 (by decide) (by decide) _) fun v s' ⟨⟨w2,hv,hw2⟩,hs2⟩=>?_;subst hv hs2;repeat (first|(refine Go.AM.sadL rfl rfl rfl LL (fun w hw=>?_);try simp only [List.length_append,List.length_cons,List.length_nil] at hw)|refine nl ?_|refine rg ?_|refine ZA (z:=?_)|refine ZO (z:=?_))
   exact ⟨(i+1,_),⟨hlt,by simp only;omega⟩,by simp only;omega,(tl4 rfl rfl rfl rfl),StLe.new ho (.refl _)⟩
  ·repeat (first|refine nl ?_|refine AWP.seq ?_|refine rg ?_|refine AWP.skip ?_|refine YI (z:=?_)|refine ZA (z:=?_)|refine ZE (z:=?_))
   refine cl rfl rfl (exprt_ok 4 (by decide) _ hgr 1 (by decide) (by decide) _) fun v s' ⟨⟨w2,hv,hw2⟩,hs2⟩=>?_;subst hv hs2;repeat (first|(refine Go.AM.sadL rfl rfl rfl LL (fun w hw=>?_);try simp only [List.length_append,List.length_cons,List.length_nil] at hw)|refine nl ?_|refine rg ?_|refine ZA (z:=?_)|refine ZO (z:=?_))
   exact ⟨(i+1,_),⟨hlt,by simp only;omega⟩,by simp only;omega,(tl4 rfl rfl rfl rfl),StLe.new ho (.refl _)⟩
 ·refine goD ?_;exact AWP.ret (rets rfl (.refl _) (.refl _) ⟨⟨s,rfl,by omega⟩,rfl⟩)
theorem value_ok (kind len:Int) (name typ fn:List UInt8) (tg body els:AV) (args:List (List AV)) (hf:fn.length≤30) (hg:∀ r ∈ args,GE 4 r) (hl:args.length≤4) (st:St) :
  ACalls Tryz.prog 63 [.agg (stRow kind len name typ fn tg (vw 6 args) body els)] st (fun v st'=>(∃ w:List UInt8,v=.str w∧w.length≤45000)∧st'=st) (fun _ _=>False):=by
 refine ACalls.ofBody Tryz.func63 rfl Tryz.ntmps63 rfl ?_;refine goD ?_;refine AWP.cond_dec rfl (fun h=>?_) (fun h=>AWP.skip ?_)
 ·refine goC ?_;apply AWP.drawI (hm:=rfl) (k:=6) (I:=fun x=>x=st) (hI:=rfl)
  case hok=>rfl
  repeat (first|apply diQ (hd:=rfl) (hw:=rfl) (h:=fun _ _=>ZF (z:=nz))|apply diQ (hd:=rfl) (hw:=rfl) (h:=fun _ _=>ZC (z:=nz)))
  apply diQ (hd:=rfl) (hw:=rfl) (h:=fun _ _=>sad rfl rfl rfl (by simp only [List.length_cons,List.length_nil];omega) nz);repeat (first|apply diQ (hd:=rfl) (hw:=rfl) (h:=fun _ _=>ZF (z:=nz))|apply diQ (hd:=rfl) (hw:=rfl) (h:=fun _ _=>ZC (z:=nz)))
  apply diE (Q:=fun v=>∃ w:List UInt8,v=.str w∧w.length≤44000) (hd:=rfl) (hw:=rfl) (hex:=⟨_,[],rfl,Nat.zero_le _⟩) (h:=fun x hx=>by subst hx;exact cl rfl rfl (list_ok args hg hl _ x) fun v s' hv=>nl ⟨v,rfl,hv⟩);rintro v ⟨w,rfl,wl⟩;refine diN fun s2 hs2=>?_;subst hs2;repeat (first|(refine Go.AM.sadL rfl rfl rfl LL (fun w hw=>?_);try simp only [List.length_append,List.length_cons,List.length_nil] at hw)|refine nl ?_|refine ZA (z:=?_))
  exact AWP.ret (rets rfl (.refl _) (.refl _) ⟨⟨_,rfl,by omega⟩,rfl⟩)
 ·refine goD ?_;refine cl rfl rfl (list_ok args hg hl _ st) fun v s' ⟨⟨w2,hv,hw2⟩,hs2⟩=>?_;subst hv hs2;refine goD ?_;exact AWP.ret (rets rfl (.refl _) (.refl _) ⟨⟨_,rfl,by omega⟩,rfl⟩)
def sB:Nat→Nat
 | 0=>0
 | d+1=>100000+120 * sB d
theorem sB4:∀ d,d≤4→sB d≤200000000000
 | 0,_=>by decide
 | 1,_=>by decide
 | 2,_=>by decide
 | 3,_=>by decide
 | 4,_=>by decide
def BlockT (d:Nat):Prop:=∀ (rows:List (List AV)),(∀ r ∈ rows,GS d r)→rows.length≤60→∀ (tabs:List UInt8),tabs.length+d≤10→∀ (k:Go.AM.Tok) (st:St),
 ACalls Tryz.prog 34 [.view 13 rows k,.str tabs] st (fun v st'=>(∃ w:List UInt8,v=.str w∧w.length≤rows.length * sB d)∧st'=st) (fun _ _=>False)
set_option maxRecDepth 4000 in
set_option maxHeartbeats 40000000 in
theorem block_step (d:Nat) (hd:d≤3) (ih:BlockT d):BlockT (d+1):=by
 intro rows hg hl tabs ht k st;have hB4:=sB4 d (by omega);have e1:sB (d+1)=100000+120 * sB d:=rfl;have hihb:∀ b:List (List AV),(∀ r ∈ b,GS d r)→b.length≤60→∀ w:List UInt8,w.length+d≤10→∀ k st,ACalls Tryz.prog 34 [.view 13 b k,.str w] st (fun v st'=>(∃ w:List UInt8,v=.str w∧w.length≤60 * sB d)∧st'=st) (fun _ _=>False):=fun b hb hbl w hw k st =>
  (ih b hb hbl w hw k st).mono (fun v s' ⟨⟨w2,h1,h2⟩,h3⟩=>⟨⟨w2,h1,Nat.le_trans h2 (Nat.mul_le_mul_right _ hbl)⟩,h3⟩) (fun _ _ h=>h)
 have hB60:60 * sB d≤12000000000000:=by omega
 generalize hbb:60 * sB d=bb at hihb hB60;have e2:sB (d+1)=100000+2 * bb:=by omega
 clear e1 hbb ih;refine ACalls.ofBody Tryz.func34 rfl Tryz.ntmps34 rfl ?_;refine goD ?_;refine AWP.loop (α:=Nat × List UInt8) (fun x=>[(12,.int .i64 (x.1:Int)),(11,.int .i64 (rows.length:Int)),(10,.view 13 rows k),(5,.str x.2),(1,.str tabs)]) (fun _=>st) (fun x=>x.1≤rows.length∧x.2.length≤x.1 * sB (d+1)) (fun x=>rows.length-x.1)
  (0,[]) ⟨Nat.zero_le _,by simp⟩ (tl5 rfl rfl rfl rfl rfl) (.refl _) ?_
 rintro ⟨i,s⟩ ⟨hi,hs⟩;simp only at hi hs;refine AWP.weaken (T':=[(12,.int .i64 (i:Int)),(11,.int .i64 (rows.length:Int)),(10,.view 13 rows k),(5,.str s),(1,.str tabs)]) (tl5 rfl rfl rfl rfl rfl) (.refl _) ?_;have him:i * sB (d+1)≤60 * (100000+2 * bb):=by rw [e2];exact Nat.mul_le_mul_right _ (by omega)
 have his:(i+1) * sB (d+1)=i * sB (d+1)+(100000+2 * bb):=by rw [Nat.add_mul,Nat.one_mul,e2]
 have hsl:s.length≤2000000000000000:=by omega
 have hfin:∀ w:List UInt8,w.length≤s.length+(100000+2 * bb)→w.length≤(i+1) * sB (d+1):=fun w hw=>by rw [his];omega
 clear his him e2;refine goD ?_;refine AWP.cond_dec rfl (fun h=>AWP.skip ?_) (fun h=>AWP.exit (blk_hit ?_))
 ·have hlt:i<rows.length:=by have:(i:Int)<(rows.length:Int):=h;omega
  obtain ⟨r,hr,hgr⟩:∃ r,rows[i]?=some r∧GS (d+1) r:=⟨_,List.getElem?_eq_getElem hlt,hg _ (List.getElem_mem hlt)⟩;obtain ⟨kind,len,name,typ,fn,tg,args,body,els,rfl,q1,q2,q3,q4,q5,q6,q7,q8,q9,q10,q11,q12,q13,q14,q15⟩:=hgr;have hval:=fun st=>value_ok kind len name typ fn (vw 6 tg) (vw 13 body) (vw 13 els) args q7 q13 q9 st;refine goD ?_;refine AWP.cutK (α:=List UInt8) (fun tgt=>[(12,.int .i64 (i:Int)),(11,.int .i64 (rows.length:Int)),(10,.view 13 rows k),(8,.str tgt),(7,.eptr 13 [stRow kind len name typ fn (vw 6 tg) (vw 6 args) (vw 13 body) (vw 13 els)] 0 0),(5,.str s),(1,.str tabs)]) (fun _=>st) (fun w=>w.length≤11000) ?_ ?_
  ·refine AWP.cond_dec rfl (fun h=>?_) (fun h=>AWP.skip ⟨[],by decide,(tl7 rfl rfl rfl rfl rfl rfl rfl),.refl _⟩);have htl:0<tg.length:=by have:(0:Int)<(tg.length:Int):=h;omega
   obtain ⟨r0,hr0,hgr0⟩:∃ r,tg[0]?=some r∧GE 4 r:=⟨_,List.getElem?_eq_getElem htl,q12 _ (List.getElem_mem htl)⟩;obtain ⟨p1,p2,p3,p4,p5,rfl⟩:=GE_row hgr0;have hE:=eL4 4 (by omega);refine goD ?_;refine cl rfl rfl (exprt_ok 4 (by decide) _ hgr0 1 (by decide) (by decide) st) fun v s' ⟨⟨w2,hv,hw2⟩,hs2⟩=>?_;subst hv hs2;repeat (first|(refine Go.AM.sadL rfl rfl rfl LL (fun w hw=>?_);try simp only [List.length_append,List.length_cons,List.length_nil] at hw)|refine nl ?_|refine ZA (z:=?_))
   exact ⟨_,by omega,(tl7 rfl rfl rfl rfl rfl rfl rfl),.refl _⟩
  intro tgt htgt;by_cases k1:kind=1
  ·refine goD ?_;refine AWP.cutK (α:=List UInt8) (fun w9=>[(9,.str w9),(12,.int .i64 (i:Int)),(11,.int .i64 (rows.length:Int)),(10,.view 13 rows k),(8,.str tgt),(7,.eptr 13 [stRow kind len name typ fn (vw 6 tg) (vw 6 args) (vw 13 body) (vw 13 els)] 0 0),(5,.str s),(1,.str tabs)]) (fun _=>st) (fun w=>w.length≤30) ?_ ?_
   ·refine AWP.cond_dec rfl (fun h=>?_) (fun h=>AWP.skip ⟨typ,q6,(tl8 rfl rfl rfl rfl rfl rfl rfl rfl),.refl _⟩);refine goD ?_;exact ⟨_,by decide,(tl8 rfl rfl rfl rfl rfl rfl rfl rfl),.refl _⟩
   intro w9 hw9;refine goD ?_;refine AWP.cutK (α:=List UInt8) (fun w9=>[(9,.str w9),(12,.int .i64 (i:Int)),(11,.int .i64 (rows.length:Int)),(10,.view 13 rows k),(8,.str tgt),(7,.eptr 13 [stRow kind len name typ fn (vw 6 tg) (vw 6 args) (vw 13 body) (vw 13 els)] 0 0),(5,.str s),(1,.str tabs)]) (fun _=>st) (fun w=>w.length≤30) ?_ ?_
   ·refine AWP.cond_dec rfl (fun h=>?_) (fun h=>AWP.skip ⟨w9,hw9,(tl8 rfl rfl rfl rfl rfl rfl rfl rfl),.refl _⟩);refine goD ?_;obtain ⟨m,rfl⟩:∃ m:Nat,len=(m:Int):=⟨len.toNat,by omega⟩;refine cle rfl rfl (digits_ok 18 m (by omega) (by decide) (by decide) st) ?_;have hdl:=digs_len 18 m;repeat (first|(refine Go.AM.sadL rfl rfl rfl LL (fun w hw=>?_);try simp only [List.length_append,List.length_cons,List.length_nil] at hw)|refine nl ?_|refine ZA (z:=?_))
    exact ⟨_,by omega,(tl8 rfl rfl rfl rfl rfl rfl rfl rfl),.refl _⟩
   intro w10 hw10;repeat (first|(refine Go.AM.sadL rfl rfl rfl LL (fun w hw=>?_);try simp only [List.length_append,List.length_cons,List.length_nil] at hw)|refine nl ?_|refine rg ?_|refine ZA (z:=?_)|refine ZC (z:=?_)|refine ZF (z:=?_)|refine ZO (z:=?_))
   exact ⟨(i+1,_),⟨hlt,hfin _ (by (try simp only);omega)⟩,by simp only;omega,(tl5 rfl rfl rfl rfl rfl),.refl _⟩
  by_cases k2:kind=2∨kind=3
  ·rcases k2 with k2|k2
   ·repeat (first|(refine Go.AM.sadL rfl rfl rfl LL (fun w hw=>?_);try simp only [List.length_append,List.length_cons,List.length_nil] at hw)|refine nl ?_|refine AWP.seq ?_|refine rg ?_|refine AWP.skip ?_|refine AWP.block ?_|refine YH (z:=?_)|refine YI (z:=?_)|refine ZA (z:=?_)|refine ZC (z:=?_)|refine ZD (z:=?_)|refine ZF (z:=?_))
    refine cl rfl rfl (hval st) fun v s' ⟨⟨wv,hv,hwv⟩,hs2⟩=>?_;subst hv hs2;repeat (first|(refine Go.AM.sadL rfl rfl rfl LL (fun w hw=>?_);try simp only [List.length_append,List.length_cons,List.length_nil] at hw)|refine nl ?_|refine rg ?_|refine ZA (z:=?_)|refine ZO (z:=?_))
    exact ⟨(i+1,_),⟨hlt,hfin _ (by (try simp only);omega)⟩,by simp only;omega,(tl5 rfl rfl rfl rfl rfl),.refl _⟩
   ·repeat (first|(refine Go.AM.sadL rfl rfl rfl LL (fun w hw=>?_);try simp only [List.length_append,List.length_cons,List.length_nil] at hw)|refine nl ?_|refine AWP.seq ?_|refine rg ?_|refine AWP.block ?_|refine YH (z:=?_)|refine YI (z:=?_)|refine ZA (z:=?_)|refine ZC (z:=?_)|refine ZD (z:=?_)|refine ZF (z:=?_))
    refine cl rfl rfl (hval st) fun v s' ⟨⟨wv,hv,hwv⟩,hs2⟩=>?_;subst hv hs2;repeat (first|(refine Go.AM.sadL rfl rfl rfl LL (fun w hw=>?_);try simp only [List.length_append,List.length_cons,List.length_nil] at hw)|refine nl ?_|refine rg ?_|refine ZA (z:=?_)|refine ZO (z:=?_))
    exact ⟨(i+1,_),⟨hlt,hfin _ (by (try simp only);omega)⟩,by simp only;omega,(tl5 rfl rfl rfl rfl rfl),.refl _⟩
  by_cases k6:kind=6
  ·repeat (first|(refine Go.AM.sadL rfl rfl rfl LL (fun w hw=>?_);try simp only [List.length_append,List.length_cons,List.length_nil] at hw)|refine nl ?_|refine AWP.seq ?_|refine rg ?_|refine AWP.block ?_|refine YH (z:=?_)|refine YI (z:=?_)|refine ZA (z:=?_)|refine ZC (z:=?_)|refine ZD (z:=?_)|refine ZF (z:=?_))
   refine cl rfl rfl (hval st) fun v s' ⟨⟨wv,hv,hwv⟩,hs2⟩=>?_;subst hv hs2;repeat (first|(refine Go.AM.sadL rfl rfl rfl LL (fun w hw=>?_);try simp only [List.length_append,List.length_cons,List.length_nil] at hw)|refine nl ?_|refine rg ?_|refine ZA (z:=?_)|refine ZO (z:=?_))
   exact ⟨(i+1,_),⟨hlt,hfin _ (by (try simp only);omega)⟩,by simp only;omega,(tl5 rfl rfl rfl rfl rfl),.refl _⟩
  by_cases k7:kind=7
  ·repeat (first|(refine Go.AM.sadL rfl rfl rfl LL (fun w hw=>?_);try simp only [List.length_append,List.length_cons,List.length_nil] at hw)|refine nl ?_|refine AWP.seq ?_|refine rg ?_|refine AWP.block ?_|refine YH (z:=?_)|refine YI (z:=?_)|refine ZA (z:=?_)|refine ZC (z:=?_)|refine ZD (z:=?_)|refine ZF (z:=?_))
   refine cl rfl rfl (hval st) fun v s' ⟨⟨wv,hv,hwv⟩,hs2⟩=>?_;subst hv hs2;repeat (first|(refine Go.AM.sadL rfl rfl rfl LL (fun w hw=>?_);try simp only [List.length_append,List.length_cons,List.length_nil] at hw)|refine nl ?_|refine rg ?_|refine ZA (z:=?_)|refine ZO (z:=?_))
   exact ⟨(i+1,_),⟨hlt,hfin _ (by (try simp only);omega)⟩,by simp only;omega,(tl5 rfl rfl rfl rfl rfl),.refl _⟩
  by_cases k9:kind=9
  ·repeat (first|(refine Go.AM.sadL rfl rfl rfl LL (fun w hw=>?_);try simp only [List.length_append,List.length_cons,List.length_nil] at hw)|refine nl ?_|refine AWP.seq ?_|refine rg ?_|refine AWP.block ?_|refine YH (z:=?_)|refine YI (z:=?_)|refine ZA (z:=?_)|refine ZC (z:=?_)|refine ZD (z:=?_)|refine ZF (z:=?_))
   refine cl rfl rfl (hval st) fun v s' ⟨⟨wv,hv,hwv⟩,hs2⟩=>?_;subst hv hs2;repeat (first|(refine Go.AM.sadL rfl rfl rfl LL (fun w hw=>?_);try simp only [List.length_append,List.length_cons,List.length_nil] at hw)|refine nl ?_|refine rg ?_|refine ZA (z:=?_)|refine ZO (z:=?_))
   exact ⟨(i+1,_),⟨hlt,hfin _ (by (try simp only);omega)⟩,by simp only;omega,(tl5 rfl rfl rfl rfl rfl),.refl _⟩
  by_cases k4:kind=4
  ·refine goD ?_;apply AWP.drawI (hm:=rfl) (k:=13) (I:=fun x=>x=st) (hI:=rfl)
   case hok=>rfl
   repeat (apply diQ (hd:=rfl) (hw:=rfl) (h:=fun _ _=>ZA (z:=nz)))
   apply diQ (hd:=rfl) (hw:=rfl) (h:=fun _ _=>sad rfl rfl rfl LL nz)
   skip
   apply diQ (hd:=rfl) (hw:=rfl) (h:=fun _ _=>sad rfl rfl rfl LL nz);repeat (apply diQ (hd:=rfl) (hw:=rfl) (h:=fun _ _=>ZD (z:=nz)))
   apply diE (Q:=fun v=>∃ w:List UInt8,v=.str w∧w.length≤45000) (hd:=rfl) (hw:=rfl) (hex:=⟨_,[],rfl,Nat.zero_le _⟩) (h:=fun x hx=>by subst hx;exact cl rfl rfl (hval x) fun v s' hv=>nl ⟨v,rfl,hv⟩);rintro v ⟨w,rfl,hw⟩;apply diE (Q:=fun v=>∃ w:List UInt8,v=.str w∧w.length≤s.length+tabs.length+45010) (hd:=rfl) (hw:=rfl) (hex:=⟨_,[],rfl,Nat.zero_le _⟩) (h:=fun x hx=>sad rfl rfl rfl LL (nl ⟨_,rfl,⟨_,rfl,LL⟩,hx⟩));rintro v ⟨w,rfl,hw⟩;apply diE (Q:=fun v=>∃ w:List UInt8,v=.str w∧w.length≤s.length+tabs.length+45020) (hd:=rfl) (hw:=rfl) (hex:=⟨_,[],rfl,Nat.zero_le _⟩) (h:=fun x hx=>sad rfl rfl rfl LL (nl ⟨_,rfl,⟨_,rfl,LL⟩,hx⟩));rintro v ⟨w,rfl,hw⟩;repeat (first|apply diQ (hd:=rfl) (hw:=rfl) (h:=fun _ _=>ZA (z:=nz))|apply diQ (hd:=rfl) (hw:=rfl) (h:=fun _ _=>ZF (z:=nz))|apply diQ (hd:=rfl) (hw:=rfl) (h:=fun _ _=>ZC (z:=nz)))
   apply diQ (hd:=rfl) (hw:=rfl) (h:=fun _ _=>sad rfl rfl rfl LL nz)
   skip
   apply diE (Q:=fun v=>∃ w:List UInt8,v=.str w∧w.length≤bb) (hd:=rfl) (hw:=rfl) (hex:=⟨_,[],rfl,Nat.zero_le _⟩) (h:=fun x hx=>by subst hx;exact cl rfl rfl (hihb body q14 q10 _ LL _ x) fun v s' hv=>nl ⟨v,rfl,hv⟩);rintro v ⟨w,rfl,hw⟩;refine diN fun s2 hs2=>?_;subst hs2;repeat (first|(refine Go.AM.sadL rfl rfl rfl LL (fun w hw=>?_);try simp only [List.length_append,List.length_cons,List.length_nil] at hw)|refine nl ?_|refine AWP.seq ?_|refine rg ?_|refine ZA (z:=?_)|refine ZC (z:=?_)|refine ZF (z:=?_)|refine ZJ (z:=?_))
   rename_i w5 hw5;refine AWP.cutK (α:=List UInt8) (fun s=>[(12,.int .i64 (i:Int)),(11,.int .i64 (rows.length:Int)),(10,.view 13 rows k),(8,.str tgt),(7,.eptr 13 [stRow kind len name typ fn (vw 6 tg) (vw 6 args) (vw 13 body) (vw 13 els)] 0 0),(5,.str s),(1,.str tabs)]) (fun _=>s2) (fun w=>w.length≤s.length+2 * tabs.length+50000+2 * bb) ?_ ?_
   ·refine AWP.cond_dec rfl (fun h=>?_) (fun h=>AWP.skip ⟨_,?_,(tl7 rfl rfl rfl rfl rfl rfl rfl),.refl _⟩)
    ·repeat (first|(refine Go.AM.sadL rfl rfl rfl LL (fun w hw=>?_);try simp only [List.length_append,List.length_cons,List.length_nil] at hw)|refine rg ?_|refine ZA (z:=?_)|refine ZC (z:=?_)|refine ZF (z:=?_))
     refine cl rfl rfl (hihb els q15 q11 _ (by omega) _ s2) fun v s' ⟨⟨wv,hv,hwv⟩,hs2⟩=>?_;subst hv hs2;repeat (first|(refine Go.AM.sadL rfl rfl rfl LL (fun w hw=>?_);try simp only [List.length_append,List.length_cons,List.length_nil] at hw)|refine nl ?_|refine ZA (z:=?_))
     exact ⟨_,by omega,(tl7 rfl rfl rfl rfl rfl rfl rfl),.refl _⟩
    ·omega
   intro s9 hs9;repeat (first|(refine Go.AM.sadL rfl rfl rfl LL (fun w hw=>?_);try simp only [List.length_append,List.length_cons,List.length_nil] at hw)|refine nl ?_|refine rg ?_|refine ZA (z:=?_)|refine ZO (z:=?_))
   exact ⟨(i+1,_),⟨hlt,hfin _ (by (try simp only);omega)⟩,by simp only;omega,(tl5 rfl rfl rfl rfl rfl),.refl _⟩
  by_cases k5:kind=5
  ·refine goD ?_;apply AWP.drawI (hm:=rfl) (k:=15) (I:=fun x=>x=st) (hI:=rfl)
   case hok=>rfl
   repeat (apply diQ (hd:=rfl) (hw:=rfl) (h:=fun _ _=>ZA (z:=nz)))
   apply diQ (hd:=rfl) (hw:=rfl) (h:=fun _ _=>sad rfl rfl rfl LL nz)
   skip
   apply diQ (hd:=rfl) (hw:=rfl) (h:=fun _ _=>sad rfl rfl rfl LL nz);repeat (apply diQ (hd:=rfl) (hw:=rfl) (h:=fun _ _=>ZD (z:=nz)))
   apply diE (Q:=fun v=>∃ w:List UInt8,v=.str w∧w.length≤45000) (hd:=rfl) (hw:=rfl) (hex:=⟨_,[],rfl,Nat.zero_le _⟩) (h:=fun x hx=>by subst hx;exact cl rfl rfl (hval x) fun v s' hv=>nl ⟨v,rfl,hv⟩);rintro v ⟨w,rfl,hw⟩;apply diE (Q:=fun v=>∃ w:List UInt8,v=.str w∧w.length≤s.length+tabs.length+45010) (hd:=rfl) (hw:=rfl) (hex:=⟨_,[],rfl,Nat.zero_le _⟩) (h:=fun x hx=>sad rfl rfl rfl LL (nl ⟨_,rfl,⟨_,rfl,LL⟩,hx⟩));rintro v ⟨w,rfl,hw⟩;apply diE (Q:=fun v=>∃ w:List UInt8,v=.str w∧w.length≤s.length+tabs.length+45020) (hd:=rfl) (hw:=rfl) (hex:=⟨_,[],rfl,Nat.zero_le _⟩) (h:=fun x hx=>sad rfl rfl rfl LL (nl ⟨_,rfl,⟨_,rfl,LL⟩,hx⟩));rintro v ⟨w,rfl,hw⟩;repeat (first|apply diQ (hd:=rfl) (hw:=rfl) (h:=fun _ _=>ZA (z:=nz))|apply diQ (hd:=rfl) (hw:=rfl) (h:=fun _ _=>ZF (z:=nz))|apply diQ (hd:=rfl) (hw:=rfl) (h:=fun _ _=>ZC (z:=nz)))
   apply diQ (hd:=rfl) (hw:=rfl) (h:=fun _ _=>sad rfl rfl rfl LL nz)
   skip
   apply diE (Q:=fun v=>∃ w:List UInt8,v=.str w∧w.length≤bb) (hd:=rfl) (hw:=rfl) (hex:=⟨_,[],rfl,Nat.zero_le _⟩) (h:=fun x hx=>by subst hx;exact cl rfl rfl (hihb body q14 q10 _ LL _ x) fun v s' hv=>nl ⟨v,rfl,hv⟩);rintro v ⟨w,rfl,hw⟩;apply diE (Q:=fun v=>∃ w:List UInt8,v=.str w∧w.length≤s.length+tabs.length+45020+bb) (hd:=rfl) (hw:=rfl) (hex:=⟨_,[],rfl,Nat.zero_le _⟩) (h:=fun x hx=>sad rfl rfl rfl LL (nl ⟨_,rfl,⟨_,rfl,LL⟩,hx⟩));rintro v ⟨w,rfl,hw⟩;repeat (apply diQ (hd:=rfl) (hw:=rfl) (h:=fun _ _=>ZA (z:=nz)))
   refine diN fun s2 hs2=>?_;subst hs2;repeat (first|(refine Go.AM.sadL rfl rfl rfl LL (fun w hw=>?_);try simp only [List.length_append,List.length_cons,List.length_nil] at hw)|refine nl ?_|refine rg ?_|refine ZA (z:=?_)|refine ZO (z:=?_))
   exact ⟨(i+1,_),⟨hlt,hfin _ (by (try simp only);omega)⟩,by simp only;omega,(tl5 rfl rfl rfl rfl rfl),.refl _⟩
  by_cases k8:kind=8
  ·refine goD ?_;apply AWP.drawI (hm:=rfl) (k:=24) (I:=fun x=>x=st) (hI:=rfl)
   case hok=>rfl
   repeat (apply diQ (hd:=rfl) (hw:=rfl) (h:=fun _ _=>ZA (z:=nz)))
   apply diQ (hd:=rfl) (hw:=rfl) (h:=fun _ _=>sad rfl rfl rfl LL nz)
   skip
   apply diQ (hd:=rfl) (hw:=rfl) (h:=fun _ _=>sad rfl rfl rfl LL nz);repeat (first|apply diQ (hd:=rfl) (hw:=rfl) (h:=fun _ _=>ZA (z:=nz))|apply diQ (hd:=rfl) (hw:=rfl) (h:=fun _ _=>ZF (z:=nz))|apply diQ (hd:=rfl) (hw:=rfl) (h:=fun _ _=>ZC (z:=nz)))
   apply diQ (hd:=rfl) (hw:=rfl) (h:=fun _ _=>sad rfl rfl rfl LL nz)
   skip
   apply diE (Q:=fun v=>∃ w:List UInt8,v=.str w∧w.length≤bb) (hd:=rfl) (hw:=rfl) (hex:=⟨_,[],rfl,Nat.zero_le _⟩) (h:=fun x hx=>by subst hx;exact cl rfl rfl (hihb body q14 q10 _ LL _ x) fun v s' hv=>nl ⟨v,rfl,hv⟩);rintro v ⟨w,rfl,hw⟩;apply diE (Q:=fun v=>∃ w:List UInt8,v=.str w∧w.length≤s.length+tabs.length+10+bb) (hd:=rfl) (hw:=rfl) (hex:=⟨_,[],rfl,Nat.zero_le _⟩) (h:=fun x hx=>sad rfl rfl rfl LL (nl ⟨_,rfl,⟨_,rfl,LL⟩,hx⟩));rintro v ⟨w,rfl,hw⟩;repeat (apply diQ (hd:=rfl) (hw:=rfl) (h:=fun _ _=>ZA (z:=nz)))
   apply diE (Q:=fun v=>∃ w:List UInt8,v=.str w∧w.length≤s.length+2 * tabs.length+10+bb) (hd:=rfl) (hw:=rfl) (hex:=⟨_,[],rfl,Nat.zero_le _⟩) (h:=fun x hx=>sad rfl rfl rfl LL (nl ⟨_,rfl,⟨_,rfl,LL⟩,hx⟩));rintro v ⟨w,rfl,hw⟩;apply diE (Q:=fun v=>∃ w:List UInt8,v=.str w∧w.length≤s.length+2 * tabs.length+30+bb) (hd:=rfl) (hw:=rfl) (hex:=⟨_,[],rfl,Nat.zero_le _⟩) (h:=fun x hx=>sad rfl rfl rfl LL (nl ⟨_,rfl,⟨_,rfl,LL⟩,hx⟩));rintro v ⟨w,rfl,hw⟩;repeat (first|apply diQ (hd:=rfl) (hw:=rfl) (h:=fun _ _=>ZF (z:=nz))|apply diQ (hd:=rfl) (hw:=rfl) (h:=fun _ _=>ZC (z:=nz)))
   apply diE (Q:=fun v=>∃ w:List UInt8,v=.str w∧w.length≤s.length+2 * tabs.length+70+bb) (hd:=rfl) (hw:=rfl) (hex:=⟨_,[],rfl,Nat.zero_le _⟩) (h:=fun x hx=>sad rfl rfl rfl LL (nl ⟨_,rfl,⟨_,rfl,LL⟩,hx⟩));rintro v ⟨w,rfl,hw⟩;apply diE (Q:=fun v=>∃ w:List UInt8,v=.str w∧w.length≤s.length+2 * tabs.length+90+bb) (hd:=rfl) (hw:=rfl) (hex:=⟨_,[],rfl,Nat.zero_le _⟩) (h:=fun x hx=>sad rfl rfl rfl LL (nl ⟨_,rfl,⟨_,rfl,LL⟩,hx⟩));rintro v ⟨w,rfl,hw⟩;repeat (first|apply diQ (hd:=rfl) (hw:=rfl) (h:=fun _ _=>ZA (z:=nz))|apply diQ (hd:=rfl) (hw:=rfl) (h:=fun _ _=>ZF (z:=nz))|apply diQ (hd:=rfl) (hw:=rfl) (h:=fun _ _=>ZC (z:=nz)))
   apply diQ (hd:=rfl) (hw:=rfl) (h:=fun _ _=>sad rfl rfl rfl LL nz)
   skip
   apply diE (Q:=fun v=>∃ w:List UInt8,v=.str w∧w.length≤bb) (hd:=rfl) (hw:=rfl) (hex:=⟨_,[],rfl,Nat.zero_le _⟩) (h:=fun x hx=>by subst hx;exact cl rfl rfl (hihb els q15 q11 _ LL _ x) fun v s' hv=>nl ⟨v,rfl,hv⟩);rintro v ⟨w,rfl,hw⟩;apply diE (Q:=fun v=>∃ w:List UInt8,v=.str w∧w.length≤s.length+2 * tabs.length+90+2 * bb) (hd:=rfl) (hw:=rfl) (hex:=⟨_,[],rfl,Nat.zero_le _⟩) (h:=fun x hx=>sad rfl rfl rfl LL (nl ⟨_,rfl,⟨_,rfl,LL⟩,hx⟩));rintro v ⟨w,rfl,hw⟩;repeat (apply diQ (hd:=rfl) (hw:=rfl) (h:=fun _ _=>ZA (z:=nz)))
   refine diN fun s2 hs2=>?_;subst hs2;repeat (first|(refine Go.AM.sadL rfl rfl rfl LL (fun w hw=>?_);try simp only [List.length_append,List.length_cons,List.length_nil] at hw)|refine nl ?_|refine rg ?_|refine ZA (z:=?_)|refine ZO (z:=?_))
   exact ⟨(i+1,_),⟨hlt,hfin _ (by (try simp only);omega)⟩,by simp only;omega,(tl5 rfl rfl rfl rfl rfl),.refl _⟩
  refine goD ?_;exact ⟨(i+1,s),⟨hlt,hfin _ (by (try simp only);omega)⟩,by simp only;omega,(tl5 rfl rfl rfl rfl rfl),.refl _⟩
 ·refine goD ?_;exact AWP.ret (rets rfl (.refl _) (.refl _) ⟨⟨s,rfl,Nat.le_trans hs (Nat.mul_le_mul_right _ hi)⟩,rfl⟩)
theorem block_ok:∀ d,d≤4→BlockT d
 | 0,_=>fun rows hg hl tabs ht k st=>by
  have:rows=[]:=by
   cases rows with
   | nil=>rfl
   | cons r rs=>exact (hg r (List.mem_cons_self ..)).elim
  subst this;refine ACalls.ofBody Tryz.func34 rfl Tryz.ntmps34 rfl ?_;refine goD ?_;refine AWP.loop (α:=Unit) (fun _=>[(12,.int .i64 0),(11,.int .i64 0),(5,.str [])]) (fun _=>st) (fun _=>True) (fun _=>0) () trivial (tl3 rfl rfl rfl) (.refl _) ?_;intro _ _;refine goD ?_;refine AWP.exit (blk_hit ?_);refine goD ?_;exact AWP.ret (rets rfl (.refl _) (.refl _) ⟨⟨[],rfl,Nat.zero_le _⟩,rfl⟩)
 | d+1,h=>block_step d (by omega) (block_ok d (by omega))
set_option maxHeartbeats 4000000 in
theorem print_ok (rows:List (List AV)) (hl:rows.length≤4) (hg:∀ r ∈ rows,GF r) (st:St) :
  ACalls Tryz.prog 17 [.agg [recV,vw 4 rows]] st (fun v st'=>(∃ w:List UInt8,v=.str w∧w.length≤100000000000000)∧st'=st) (fun _ _=>False):=by
 refine ACalls.ofBody Tryz.func17 rfl Tryz.ntmps17 rfl ?_;refine goD ?_
 ·refine AWP.loop (α:=Nat × List UInt8) (fun x=>[(11,.int .i64 (x.1:Int)),(10,.int .i64 1),(9,recV),(3,.str x.2),(1,.eptr 2 [[recV,vw 4 rows]] 0 0)]) (fun _=>st) (fun x=>x.1≤1∧x.2.length≤x.1 * 1000) (fun x=>1-x.1) (0,[]) ⟨Nat.zero_le _,Nat.zero_le _⟩ (tl5 rfl rfl rfl rfl rfl) (.refl _) ?_;rintro ⟨i,s⟩ ⟨hi,hs⟩;simp only at hi hs;refine AWP.weaken (T':=[(11,.int .i64 (i:Int)),(10,.int .i64 1),(9,recV),(3,.str s),(1,.eptr 2 [[recV,vw 4 rows]] 0 0)]) (tl5 rfl rfl rfl rfl rfl) (.refl _) ?_;refine goD ?_;refine AWP.cond_dec rfl (fun h=>AWP.skip ?_) (fun h=>AWP.exit (blk_hit ?_))
  ·have hlt:i<1:=by have:(i:Int)<1:=h;omega
   obtain rfl:i=0:=by omega
   obtain rfl:s=[]:=List.eq_nil_of_length_eq_zero (by omega);refine goC ?_;refine rg ?_;refine ix (m:=0) rfl rfl rfl rfl (Nat.le_refl _) ?_;refine goD ?_;apply AWP.drawI (hm:=rfl) (k:=9) (I:=fun x=>x=st) (hI:=rfl)
   case hok=>rfl
   repeat (apply diQ (hd:=rfl) (hw:=rfl) (h:=fun _ _=>ZA (z:=nz)))
   apply diQ (hd:=rfl) (hw:=rfl) (h:=fun _ _=>sad rfl rfl rfl LL nz);repeat (first|apply diQ (hd:=rfl) (hw:=rfl) (h:=fun _ _=>ZF (z:=nz))|apply diQ (hd:=rfl) (hw:=rfl) (h:=fun _ _=>ZC (z:=nz)))
   apply diQ (hd:=rfl) (hw:=rfl) (h:=fun _ _=>sad rfl rfl rfl LL nz);apply diQ (hd:=rfl) (hw:=rfl) (h:=fun _ _=>sad rfl rfl rfl LL nz);repeat (first|apply diQ (hd:=rfl) (hw:=rfl) (h:=fun _ _=>ZF (z:=nz))|apply diQ (hd:=rfl) (hw:=rfl) (h:=fun _ _=>ZC (z:=nz)))
   apply diE (Q:=fun v=>∃ w:List UInt8,v=.str w∧w.length≤80) (hd:=rfl) (hw:=rfl) (hex:=⟨_,[],rfl,Nat.zero_le _⟩) (h:=fun x hx=>by subst hx;exact cl rfl rfl (words_ok [[120],[121]] (by intro s hs;simp only [List.mem_cons,List.not_mem_nil,or_false] at hs;rcases hs with rfl|rfl<;>decide) (by decide) _ x) fun v s' hv=>nl ⟨v,rfl,hv⟩)
   rintro v ⟨w,rfl,hw⟩;refine diN fun s2 hs2=>?_;subst hs2;repeat (first|(refine Go.AM.sadL rfl rfl rfl LL (fun w hw=>?_);try simp only [List.length_append,List.length_cons,List.length_nil] at hw)|refine nl ?_|refine rg ?_|refine ZA (z:=?_)|refine ZO (z:=?_))
   exact ⟨(1,_),⟨Nat.le_refl _,by (try simp only);omega⟩,by simp only;omega,(tl5 rfl rfl rfl rfl rfl),.refl _⟩
  ·refine AWP.weaken (T':=[(3,.str s),(1,.eptr 2 [[recV,vw 4 rows]] 0 0)]) (tl2 rfl rfl) (.refl _) ?_;obtain ⟨s0,hs00,hs0⟩:∃ s0:List UInt8,s0=s∧s0.length≤1000:=⟨s,rfl,by omega⟩;rw [← hs00];clear hs00 hs hi h;refine goD ?_;refine AWP.loop (α:=Nat × List UInt8) (fun x=>[(30,.int .i64 (x.1:Int)),(29,.int .i64 (rows.length:Int)),(28,vw 4 rows),(3,.str x.2)]) (fun _=>st) (fun x=>x.1≤rows.length∧x.2.length≤1000+x.1 * 13000000000000) (fun x=>rows.length-x.1) (0,s0) ⟨Nat.zero_le _,by simp only;omega⟩ (tl4 rfl rfl rfl rfl) (.refl _) ?_;rintro ⟨i,s⟩ ⟨hi,hs⟩;simp only at hi hs;refine AWP.weaken (T':=[(30,.int .i64 (i:Int)),(29,.int .i64 (rows.length:Int)),(28,vw 4 rows),(3,.str s)]) (tl4 rfl rfl rfl rfl) (.refl _) ?_;refine goD ?_;refine AWP.cond_dec rfl (fun h=>AWP.skip ?_) (fun h=>AWP.exit (blk_hit ?_))
   ·have hlt:i<rows.length:=by have:(i:Int)<(rows.length:Int):=h;omega
    obtain ⟨r,hr,hgr⟩:∃ r,rows[i]?=some r∧GF r:=⟨_,List.getElem?_eq_getElem hlt,hg _ (List.getElem_mem hlt)⟩;obtain ⟨name,params,body,rfl,h1,h2,h3,h4,h5⟩:=hgr;refine goC ?_;refine rg ?_;refine ix (m:=i) rfl rfl rfl rfl hlt ?_;refine goD ?_;apply AWP.drawI (hm:=rfl) (k:=14) (I:=fun x=>x=st) (hI:=rfl)
    case hok=>rfl
    repeat (apply diQ (hd:=rfl) (hw:=rfl) (h:=fun _ _=>ZA (z:=nz)))
    apply diQ (hd:=rfl) (hw:=rfl) (h:=fun _ _=>sad rfl rfl rfl LL nz);repeat (first|apply diQ (hd:=rfl) (hw:=rfl) (h:=fun _ _=>ZF (z:=nz))|apply diQ (hd:=rfl) (hw:=rfl) (h:=fun _ _=>ZC (z:=nz)))
    apply diQ (hd:=rfl) (hw:=rfl) (h:=fun _ _=>sad rfl rfl rfl LL nz);apply diQ (hd:=rfl) (hw:=rfl) (h:=fun _ _=>sad rfl rfl rfl LL nz);repeat (first|apply diQ (hd:=rfl) (hw:=rfl) (h:=fun _ _=>ZF (z:=nz))|apply diQ (hd:=rfl) (hw:=rfl) (h:=fun _ _=>ZC (z:=nz)))
    apply diE (Q:=fun v=>∃ w:List UInt8,v=.str w∧w.length≤160) (hd:=rfl) (hw:=rfl) (hex:=⟨_,[],rfl,Nat.zero_le _⟩) (h:=fun x hx=>by subst hx;exact cl rfl rfl ((words_ok params h3 (by omega) _ x).mono (fun v s' ⟨⟨w,q1,q2⟩,q3⟩=>⟨⟨w,q1,by omega⟩,q3⟩) (fun _ _ h=>h)) fun v s' hv=>nl ⟨v,rfl,hv⟩);rintro v ⟨w,rfl,hw⟩;apply diE (Q:=fun v=>∃ w:List UInt8,v=.str w∧w.length≤s.length+300) (hd:=rfl) (hw:=rfl) (hex:=⟨_,[],rfl,Nat.zero_le _⟩) (h:=fun x hx=>sad rfl rfl rfl LL (nl ⟨_,rfl,⟨_,rfl,LL⟩,hx⟩));rintro v ⟨w,rfl,hw⟩;apply diE (Q:=fun v=>∃ w:List UInt8,v=.str w∧w.length≤s.length+320) (hd:=rfl) (hw:=rfl) (hex:=⟨_,[],rfl,Nat.zero_le _⟩) (h:=fun x hx=>sad rfl rfl rfl LL (nl ⟨_,rfl,⟨_,rfl,LL⟩,hx⟩));rintro v ⟨w,rfl,hw⟩;repeat (first|apply diQ (hd:=rfl) (hw:=rfl) (h:=fun _ _=>ZF (z:=nz))|apply diQ (hd:=rfl) (hw:=rfl) (h:=fun _ _=>ZC (z:=nz)))
    apply diE (Q:=fun v=>∃ w:List UInt8,v=.str w∧w.length≤12000000000000) (hd:=rfl) (hw:=rfl) (hex:=⟨_,[],rfl,Nat.zero_le _⟩) (h:=fun x hx=>by subst hx;exact cl rfl rfl ((block_ok 4 (by decide) body h5 h4 [9] (by decide) _ x).mono (fun v s' ⟨⟨w,q1,q2⟩,q3⟩=>⟨⟨w,q1,Nat.le_trans q2 (Nat.le_trans (Nat.mul_le_mul h4 (sB4 4 (by decide))) (by decide))⟩,q3⟩) (fun _ _ h=>h)) fun v s' hv=>nl ⟨v,rfl,hv⟩);rintro v ⟨w,rfl,hw⟩;refine diN fun s2 hs2=>?_;subst hs2;repeat (first|(refine Go.AM.sadL rfl rfl rfl LL (fun w hw=>?_);try simp only [List.length_append,List.length_cons,List.length_nil] at hw)|refine nl ?_|refine rg ?_|refine ZA (z:=?_)|refine ZO (z:=?_))
    exact ⟨(i+1,_),⟨hlt,by (try simp only);omega⟩,by simp only;omega,(tl4 rfl rfl rfl rfl),.refl _⟩
   ·refine goD ?_;exact AWP.ret (rets rfl (.refl _) (.refl _) ⟨⟨s,rfl,by omega⟩,rfl⟩)
theorem text_ok (l:List Int) (hl:l.length≤17592186043904) (st:St) :
  ACalls Tryz.prog 8 [.view 1 (l.map fun x=>[.int .i64 x]) .shared] st (fun v st'=>(∃ w:List UInt8,v=.str w∧w.length≤100000000000000)∧st'=st) (fun _ _=>False):=by
 refine ACalls.ofBody Tryz.func8 rfl Tryz.ntmps8 rfl ?_;refine goD ?_;refine cl rfl rfl (program_ok l hl st) fun v s' ⟨rows,hv,hr,hg,hs⟩=>?_;subst hv hs
 skip
 refine cl rfl rfl (print_ok rows hr hg _) fun v s' ⟨⟨w,hv,hw⟩,hs⟩=>?_;subst hv hs;refine goD ?_;exact AWP.ret (rets rfl (.refl _) (.refl _) ⟨⟨w,rfl,hw⟩,rfl⟩)
end Go.Proofs
namespace Go.Proofs
open Go.AM
theorem short_ok (l:List Int) (hl:l.length≤17592186043904) (st:St):ACalls Tryz.prog 9 [.view 1 (l.map fun x=>[.int .i64 x]) .shared] st (fun v st'=>v=.view 1 ((l.take 200).map fun x=>[.int .i64 x]) .shared∧st'=st) (fun _ _=>False):=by
 refine ACalls.ofBody Tryz.func9 rfl Tryz.ntmps9 rfl ?_;have hlen:(l.map fun x=>[AV.int .i64 x]).length=l.length:=by simp
 refine goA ?_;refine AWP.cond_dec rfl (fun h=>?_) (fun h=>AWP.skip ?_)
 ·have h':200≤l.length:=by have:(200:Int)<((l.map fun x=>[AV.int .i64 x]).length:Int):=h;omega
  refine goA ?_;refine svh (b:=200) rfl rfl rfl (by omega) ?_;rw [← List.map_take];refine goA ?_;exact AWP.ret (rets rfl (.refl _) (.refl _) ⟨rfl,rfl⟩)
 ·have h':l.length≤200:=by have:¬ (200:Int)<((l.map fun x=>[AV.int .i64 x]).length:Int):=h;omega
  refine goA ?_;refine AWP.ret (rets rfl (.refl _) (.refl _) ⟨?_,rfl⟩);rw [List.take_of_length_le h'];rfl
end Go.Proofs
namespace Go.Proofs
open Go.AM
attribute [local irreducible] AWP AOps AAny ACalls
theorem LTp.low {st st1:St} (h:LTp st) (hle:StLe st1 st.notok):LTp st1:=by
 have hg:st1.glob=st.glob:=hle.glob.symm;exact ⟨by rw [← h.signs];unfold St.row;rw [hg],by rw [← h.words];unfold St.row;rw [hg],⟨by rw [hg];exact h.gs.tab,by rw [← h.gs.ops];unfold St.row;rw [hg]⟩⟩
set_option maxHeartbeats 4000000 in
theorem ParserPrints_ok (l:List Int) (hl:l.length≤17592186043904) (_:∀ x ∈ l,(Lit.int .i64 x).wf=true) (st:St) (hT:LTp st) :
  ACalls Tryz.prog 6 [.view 1 (l.map fun x=>[.int .i64 x]) .shared] st (fun v _=>v=.bool true) (fun _ _=>False):=by
 refine ACalls.ofBody Tryz.func6 rfl Tryz.ntmps6 rfl ?_;refine goC ?_;refine rg ?_;refine goE ?_;refine nl ?_;refine goD ?_;refine cle rfl rfl (short_ok l hl st) ?_;refine cl rfl rfl (text_ok (l.take 200) (by rw [List.length_take];omega) st) fun v s' ⟨⟨t,hv,ht⟩,hs⟩=>?_;subst hv hs;have hp:=rparse_ok t (by omega) s';have hk:∀ st1,StLe st1 s'.notok→ACalls Tryz.prog 11 [] st1 (fun v st'=>v=.bool true∧st'=st1) (fun _ _=>False):=fun st1 hle=>known_ok _ (hT.low hle);cases hpt:pparse t with
 | error e =>
  obtain ⟨ln,e⟩:=e;have he:¬ (e:Int)=0:=by have:=pparse_ne hpt;omega
  rw [hpt] at hp;unfold parV at hp;simp only at hp;refine cle rfl rfl hp ?_;refine goD ?_;refine AWP.draw rfl 12 12 (fun _ _=>False) rfl ?_;refine goG ?_;refine dq rfl rfl rfl (fun st1 hle=>cle rfl rfl (hk st1 hle) (nl ⟨_,rfl,rfl,rfl⟩)) ?_;refine goG ?_;refine dn ⟨fun _=>?_,fun h=>absurd h (by decide)⟩;refine goD ?_;exact AWP.ret (rets rfl (.refl _) (.refl _) rfl)
 | ok p =>
  have hl1:=(pprt_ok hpt s' hT.gs).1
  have hpr:=fun st1 (hle:StLe st1 s'.notok)=>(pprt_ok hpt st1 (hT.low hle).gs).2
  have hyr:=yprint_ok (pparse_wf hpt).1 (by omega);rw [hpt] at hp;unfold parV pgRow at hp;unfold pgRow at hpr hyr;simp only at hp;generalize prT p=tx at *;refine cle rfl rfl hp ?_;refine goD ?_;refine AWP.draw rfl 12 12 (fun _ _=>False) rfl ?_;refine goG ?_;refine dq rfl rfl rfl (fun st1 hle=>cle rfl rfl (hpr st1 hle) (nl ⟨_,rfl,rfl,rfl⟩)) ?_;refine goG ?_;refine dq rfl rfl rfl (fun st1 hle=>cle rfl rfl (hyr st1) (nl ⟨_,rfl,rfl,rfl⟩)) ?_;refine goG ?_;refine dq rfl rfl rfl (fun st1 hle=>cle rfl rfl (hk st1 hle) (nl ⟨_,rfl,rfl,rfl⟩)) ?_;refine goG ?_;refine dn ⟨fun _=>?_,fun h=>absurd h (by decide)⟩;refine goD ?_;exact AWP.ret (rets rfl (.refl _) (.refl _) rfl)
end Go.Proofs
