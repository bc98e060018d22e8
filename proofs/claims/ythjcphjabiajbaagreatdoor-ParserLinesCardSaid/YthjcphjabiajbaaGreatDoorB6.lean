/- The generator: whole programs. No conditions: definitions and lemmas only. -/
import Derived.Test.YthjcphjabiajbaaGreatDoorB5
namespace Go.Proofs
open Go.AM
attribute [local irreducible] AWP AOps ACalls AAny
set_option linter.unusedSimpArgs false
theorem stmts_ok:∀ d:Nat,d≤3→StmtsC d
 | 0,h=>stmts_step 0 h (fun d' e=>by omega)
 | d + 1,h=>stmts_step (d + 1) h (fun d' e=>by cases e; exact stmts_ok d (by omega))
def fRow (name:List UInt8) (params body:AV):List AV:=[.str name,.int .i64 0,params,body]
def recV:AV:=.view 2 [[.str [80],vw 1 [[.str [120]],[.str [121]]]]] .shared
def zP:AObj:=.cells 28 2 [[nilV,nilV]]
def PC (funcs:AV):AObj:=.cells 28 2 [[recV,funcs]]
def GF (row:List AV):Prop:=∃ (name:List UInt8) (params:List (List UInt8)) (body:List (List AV)),row=fRow name (vw 1 (nrows params)) (vw 13 body)∧LP 30 name∧params.length≤4∧(∀ s ∈ params,LP 30 s)∧body.length≤60∧∀ r ∈ body,GS 4 r
theorem st1_le {kind len:Int} {name typ fn:List UInt8} {tg args body els tg' args' body' els':AV} (h1:Le tg tg') (h2:Le args args') (h3:Le body body') (h4:Le els els') (g1:tg'.one=true) (g2:args'.one=true) (g3:body'.one=true) (g4:els'.one=true) :
  Le (.view 13 [stRow kind len name typ fn tg args body els] .shared) (.view 13 [stRow kind len name typ fn tg' args' body' els'] .shared):=by
 refine .view _ _ _ _ rfl (fun row hr c hc=>?_) (fun i a b h1 h2=>?_) fun i j a b c d h5 h6 h7 h8=>?_
 ·rw [List.mem_singleton.1 hr] at hc;simp only [stRow,List.mem_cons,List.not_mem_nil,or_false] at hc;rcases hc with rfl|rfl|rfl|rfl|rfl|rfl|rfl|rfl|rfl|rfl|rfl|rfl|rfl <;> first|rfl|assumption
 ·match i,h1,h2 with
  | 0,h1,h2=>cases h1; cases h2; rfl
 ·match i,h5,h6 with
  | 0,h5,h6 =>
   cases h5; cases h6
   match j,h7,h8 with
   | 0,h7,h8=>cases h7; cases h8; exact .refl _
   | 1,h7,h8=>cases h7; cases h8; exact .refl _
   | 2,h7,h8=>cases h7; cases h8; exact .refl _
   | 3,h7,h8=>cases h7; cases h8; exact .refl _
   | 4,h7,h8=>cases h7; cases h8; exact .refl _
   | 5,h7,h8=>cases h7; cases h8; exact .refl _
   | 6,h7,h8=>cases h7; cases h8; exact .refl _
   | 7,h7,h8=>cases h7; cases h8; assumption
   | 8,h7,h8=>cases h7; cases h8; exact .refl _
   | 9,h7,h8=>cases h7; cases h8; exact .refl _
   | 10,h7,h8=>cases h7; cases h8; assumption
   | 11,h7,h8=>cases h7; cases h8; assumption
   | 12,h7,h8=>cases h7; cases h8; assumption
   | j + 13,h7,h8=>cases h7
theorem fr_le {name:List UInt8} {params body body':AV} (h:Le body body') (g1:params.one=true) (g2:body'.one=true):Le (.agg (fRow name params body)) (.agg (fRow name params body')):=by
 refine .agg _ _ rfl (fun c hc=>by simp only [fRow,List.mem_cons,List.not_mem_nil,or_false] at hc; rcases hc with rfl|rfl|rfl|rfl <;> first|rfl|assumption) fun i a b h1 h2=>?_
 match i,h1,h2 with
 | 0,h1,h2=>cases h1; cases h2; exact .refl _
 | 1,h1,h2=>cases h1; cases h2; exact .refl _
 | 2,h1,h2=>cases h1; cases h2; exact .refl _
 | 3,h1,h2=>cases h1; cases h2; assumption
 | i + 4,h1,h2=>cases h1
theorem fr1_le {name:List UInt8} {params body body':AV} (h:Le body body') (g1:params.one=true) (g2:body'.one=true):Le (.view 4 [fRow name params body] .shared) (.view 4 [fRow name params body'] .shared):=by
 refine .view _ _ _ _ rfl (fun row hr c hc=>?_) (fun i a b h1 h2=>?_) fun i j a b c d h5 h6 h7 h8=>?_
 ·rw [List.mem_singleton.1 hr] at hc;simp only [fRow,List.mem_cons,List.not_mem_nil,or_false] at hc;rcases hc with rfl|rfl|rfl|rfl <;> first|rfl|assumption
 ·match i,h1,h2 with
  | 0,h1,h2=>cases h1; cases h2; rfl
 ·match i,h5,h6 with
  | 0,h5,h6 =>
   cases h5; cases h6
   match j,h7,h8 with
   | 0,h7,h8=>cases h7; cases h8; exact .refl _
   | 1,h7,h8=>cases h7; cases h8; exact .refl _
   | 2,h7,h8=>cases h7; cases h8; exact .refl _
   | 3,h7,h8=>cases h7; cases h8; assumption
   | j + 4,h7,h8=>cases h7
theorem pr_le (rows:List (List AV)) (k:Nat) (e:TypeId):Le (.agg [recV,.view 4 rows (.own k e)]) (.agg [recV,vw 4 rows]):=by
 refine .agg _ _ rfl (fun c hc=>by simp only [List.mem_cons,List.not_mem_nil,or_false] at hc; rcases hc with rfl|rfl <;> rfl) fun i a b h1 h2=>?_
 match i,h1,h2 with
 | 0,h1,h2=>cases h1; cases h2; exact .refl _
 | 1,h1,h2=>cases h1; cases h2; exact .shared _ _ _
theorem toks_drop (st:St) (L:List (Option Nat)):StLe (st.toks L) st:=⟨fun _ _ h=>h,fun t h=>by
 show (decide (some t ∈ L) || st.tok t)=true;rw [h,Bool.or_true],rfl⟩
def pnames:List (List UInt8):=[[97],[98],[99],[100]]
theorem next_t (l:List Int) (hl:l.length≤17592186043904) (k:Int) (hk:0 < k) (hk2:k≤4611686018427387904) (o:Nat) (base s:St) (h:TI l o base s) :
  ACalls Tryz.prog 37 [.cptr o 2 0 0,.int .i64 k] s (fun v s'=>(∃ n:Nat,v=.int .i64 (n:Int)∧(n:Int) < k)∧TI l o base s') (fun _ _=>False):=by
 refine (next_ti l hl k hk hk2 o base s h).mono (fun v s' ⟨⟨n,h1,h2,h3⟩,h4⟩=>?_) (fun _ _ h=>h);exact ⟨⟨n.toNat,by rw [h1,Int.toNat_of_nonneg h2],by omega⟩,h4⟩
set_option maxRecDepth 4000 in
set_option maxHeartbeats 40000000 in
theorem program_ok (l:List Int) (hl:l.length≤17592186043904) (st:St) :
  ACalls Tryz.prog 19 [.view 1 (l.map fun x=>[.int .i64 x]) .shared] st (fun v st'=>∃ rows,v=.agg [recV,vw 4 rows]∧rows.length≤4∧(∀ r ∈ rows,GF r)∧st'=st) (fun _ _=>False):=by
 refine ACalls.ofBody Tryz.func19 rfl Tryz.ntmps19 rfl ?_;refine goC ?_;refine rg ?_;refine al rfl rfl fun o2 h2=>?_;refine goD ?_;refine bds (cs:=tapeRow l 0) rfl rfl rfl rfl ?_;refine bx rfl rfl rfl rfl fun oT hT=>?_;refine goD ?_;refine bsh (cs:=[.str [120],.str [121]]) rfl rfl rfl rfl rfl ?_;refine bds (cs:=[.str [80],vw 1 [[.str [120]],[.str [121]]]]) rfl rfl rfl rfl ?_;refine goE ?_;refine bds (cs:=[recV,nilV]) rfl rfl rfl rfl ?_;refine al rfl rfl fun o4 h4=>?_;refine soV rfl rfl rfl rfl rfl rfl ?_;have n2T:oT≠o2:=fun e=>by rw [e,St.obj_set] at hT; cases hT
 have hT':st.obj oT=none:=by rw [St.obj_set_ne n2T] at hT; exact hT
 have n4T:o4≠oT:=fun e=>by rw [e,St.obj_set] at h4; cases h4
 have n42:o4≠o2:=fun e=>by rw [e,St.obj_under n2T] at h4; cases h4
 have h4':st.obj o4=none:=by rw [St.obj_set_ne n4T,St.obj_set_ne n42] at h4; exact h4
 refine nl ?_;refine goC ?_;refine AWP.nilIn (o:=o4) (i:=0) (j:=1) 36 4 (St.obj_set _ _ _) rfl rfl fun tkF htkF=>?_;have htF:st.tok tkF=false:=htkF;obtain ⟨B,hB⟩:∃ B:Nat→List (List AV)→St,B=fun tk rows=>((st.set o2 zP).set o4 (PC (.view 4 rows (.own tk 36)))).addTok tk:=⟨_,rfl⟩;have hst:StLe (((((st.set o2 (.cells 28 2 [zrow (Value.agg #[.slice none 0 0,.slice none 0 0])])).set oT (.cells 88 2 [AV.cells (.agg (tapeRow l 0))])).set o4 (.cells 28 2 [AV.cells (.agg [recV,nilV])])).addTok tkF).set o4 (.cells 28 2 ([AV.cells (.agg [recV,nilV])].set 0 ((AV.cells (.agg [recV,nilV])).set 1 (.view 4 [] (.own tkF 36)))))) ((B tkF []).set oT (tapeC l 0)):=by
  rw [hB];show StLe ((((((st.set o2 zP).set oT (tapeC l 0)).set o4 _).set o4 (PC (.view 4 [] (.own tkF 36)))).addTok tkF)) ((((st.set o2 zP).set o4 (PC (.view 4 [] (.own tkF 36)))).set oT (tapeC l 0)).addTok tkF);rw [St.set_set,St.set_comm _ (Ne.symm n4T)];exact .refl _
 refine AWP.weaken (T':=[(4,.cptr o4 2 0 0),(3,.cptr oT 2 0 0),(2,.cptr o2 2 0 0)]) (tl3 rfl rfl rfl) hst ?_;clear hst htkF;refine goD ?_;refine cl rfl rfl (next_t l hl 4 (by decide) (by decide) oT (B tkF []) _ (TI.set (Nat.zero_le _))) fun v s1 ⟨⟨n0,hn0,hn04⟩,hs1⟩=>?_;subst hn0
 skip
 refine adn (a:=1) rfl rfl rfl (by omega) ?_;obtain ⟨nf,hnf⟩:∃ nf,nf=1 + n0:=⟨_,rfl⟩;rw [← hnf];refine goD ?_;refine cl rfl rfl (next_t l hl 3 (by decide) (by decide) oT (B tkF []) _ hs1) fun v s2 ⟨⟨p1,hp1,hp14⟩,hs2⟩=>?_;subst hp1;refine goE ?_;refine cl rfl rfl (next_t l hl 4 (by decide) (by decide) oT (B tkF []) _ hs2) fun v s3 ⟨⟨p2,hp2,hp24⟩,hs3⟩=>?_;subst hp2;refine goE ?_;refine cl rfl rfl (next_t l hl 5 (by decide) (by decide) oT (B tkF []) _ hs3) fun v s4 ⟨⟨p3,hp3,hp34⟩,hs4⟩=>?_;subst hp3;obtain ⟨j,hj,rfl⟩:=hs4
 skip
 refine bsh (cs:=[.int .i64 2,.int .i64 (p1:Int),.int .i64 (p2:Int),.int .i64 (p3:Int)]) rfl rfl rfl rfl rfl ?_;obtain ⟨ps,hps⟩:∃ ps:List Nat,ps=[2,p1,p2,p3]:=⟨_,rfl⟩;have hpv:(AV.view (0 + 1) (chunk (0 + 1) 4 [.int .i64 2,.int .i64 (p1:Int),.int .i64 (p2:Int),.int .i64 (p3:Int)]) .shared)=.view 1 (ps.map fun (p:Nat)=>[AV.int .i64 (p:Int)]) .shared:=by rw [hps]; rfl
 rw [hpv];have hpl:ps.length=4:=by rw [hps]; rfl
 have hp4:∀ p ∈ ps,p≤4:=by
  rw [hps];intro p hp;simp only [List.mem_cons,List.not_mem_nil,or_false] at hp;rcases hp with rfl|rfl|rfl|rfl <;> omega
 clear hpv hs1 hs2 hs3;refine goE ?_;refine nl ?_;refine goC ?_;refine rg ?_;refine goE ?_;refine nl ?_;refine goC ?_;refine AWP.loop (α:=Nat × Nat × List (List AV) × Nat) (fun x=>[(7,.int .i64 (x.1:Int)),(6,.view 1 (ps.map fun (p:Nat)=>[AV.int .i64 (p:Int)]) .shared),(5,.int .i64 (nf:Int)),(4,.cptr o4 2 0 0),(3,.cptr oT 2 0 0),(2,.cptr o2 2 0 0)])
  (fun x=>(B x.2.2.2 x.2.2.1).set oT (tapeC l x.2.1)) (fun x=>x.1≤nf∧x.2.1≤l.length∧x.2.2.1.length=x.1∧(∀ r ∈ x.2.2.1,GF r)∧st.tok x.2.2.2=false) (fun x=>nf - x.1)
  (0,j,[],tkF) ⟨Nat.zero_le _,hj,rfl,fun r hr=>(by cases hr),htF⟩ (tl6 rfl rfl rfl rfl rfl rfl) (.refl _) ?_
 clear hj htF;rintro ⟨f,j,rows,tk⟩ ⟨hf,hj,hr,hg,h0⟩;simp only at hf hj hr hg h0;show AWP _ _ _ _ _ _ ((B tk rows).set oT (tapeC l j));refine AWP.weaken (T':=[(7,.int .i64 (f:Int)),(6,.view 1 (ps.map fun (p:Nat)=>[AV.int .i64 (p:Int)]) .shared),(5,.int .i64 (nf:Int)),(4,.cptr o4 2 0 0),(3,.cptr oT 2 0 0),(2,.cptr o2 2 0 0)]) (tl6 rfl rfl rfl rfl rfl rfl) (.refl _) ?_;refine goD ?_;refine AWP.cond_dec rfl (fun h=>AWP.skip ?_) (fun h=>AWP.exit (blk_hit ?_))
 ·have hfn:f < nf:=by have:(f:Int) < (nf:Int):=h; omega
  refine goD ?_;refine bds (cs:=mkRow oT (f:Int) (nf:Int) (.view 1 (ps.map fun (p:Nat)=>[AV.int .i64 (p:Int)]) .shared) nilV nilV nilV 0 22) rfl rfl rfl rfl ?_;refine bx rfl rfl rfl rfl fun oM hoM=>?_;refine goE ?_;refine nl ?_;have nMT:oM≠oT:=fun e=>by rw [e,St.obj_set] at hoM; cases hoM
  have hBM:(B tk rows).obj oM=none:=by rw [St.obj_set_ne nMT] at hoM; exact hoM
  have nM4:oM≠o4:=fun e=>by rw [e,hB] at hBM; have h9:(((st.set o2 zP).set o4 (PC (.view 4 rows (.own tk 36)))).addTok tk).obj o4=some (PC (.view 4 rows (.own tk 36))):=St.obj_set _ _ _; rw [h9] at hBM; cases hBM
  refine AWP.weaken (T':=[(8,.cptr oM 9 0 0),(7,.int .i64 (f:Int)),(6,.view 1 (ps.map fun (p:Nat)=>[AV.int .i64 (p:Int)]) .shared),(5,.int .i64 (nf:Int)),(4,.cptr o4 2 0 0),(3,.cptr oT 2 0 0),(2,.cptr o2 2 0 0)]) (tl7 rfl rfl rfl rfl rfl rfl rfl) (.refl _) ?_;refine AWP.nilIn (o:=oM) (i:=0) (j:=5) 9 1 (St.obj_set _ _ _) rfl rfl fun kD hkD=>?_;refine AWP.nilIn (o:=oM) (i:=0) (j:=6) 9 1 (St.obj_set _ _ _) rfl rfl fun kA hkA=>?_;have hkD0:(B tk rows).tok kD=false:=hkD
  have hkA0:(B tk rows).tok kA=false∧kA≠kD:=by
   have h9:(if kA=kD then true else (B tk rows).tok kA)=false:=hkA;by_cases e:kA=kD
   ·rw [if_pos e] at h9; cases h9
   ·rw [if_neg e] at h9; exact ⟨h9,e⟩
  obtain ⟨Y,hY⟩:∃ Y,Y=(((B tk rows).set oT (tapeC l j)).addTok kD).addTok kA:=⟨_,rfl⟩;obtain ⟨pv,hpv⟩:∃ pv,pv=AV.view 1 (ps.map fun (p:Nat)=>[AV.int .i64 (p:Int)]) .shared:=⟨_,rfl⟩;refine AWP.weaken (T':=[(8,.cptr oM 9 0 0),(7,.int .i64 (f:Int)),(6,.view 1 (ps.map fun (p:Nat)=>[AV.int .i64 (p:Int)]) .shared),(5,.int .i64 (nf:Int)),(4,.cptr o4 2 0 0),(3,.cptr oT 2 0 0),(2,.cptr o2 2 0 0)]) (st':=Y.set oM (mkC oT (f:Int) (nf:Int) pv nilV (gnv [] kD) (gnv [] kA) 0 22)) (tl7 rfl rfl rfl rfl rfl rfl rfl) (by
   rw [hY,hpv];show StLe (((((((B tk rows).set oT (tapeC l j)).addTok kD).addTok kA).set oM _).set oM _).set oM (mkC oT (f:Int) (nf:Int) _ nilV (gnv [] kD) (gnv [] kA) 0 22)) _;rw [St.set_set,St.set_set];exact .refl _) ?_
  obtain ⟨w,hw,wl⟩:=fnames_get f (by omega);obtain ⟨p,hp,hp4'⟩:∃ p:Nat,(ps.map fun (p:Nat)=>[AV.int .i64 (p:Int)])[f]?=some [.int .i64 (p:Int)]∧p≤4:=by
   have hlt:f < ps.length:=by omega
   exact ⟨ps[f],by rw [List.getElem?_map,List.getElem?_eq_getElem hlt]; rfl,hp4 _ (List.getElem_mem hlt)⟩
  have hfl:f < (ps.map fun (p:Nat)=>[AV.int .i64 (p:Int)]).length:=by rw [List.length_map]; omega
  refine goC ?_;refine AWP.draw rfl 12 11 (fun v s=>∃ o,v=.cptr o 4 0 0∧(Y.set oM (mkC oT (f:Int) (nf:Int) pv nilV (gnv [] kD) (gnv [] kA) 0 22)).obj o=none∧s=(Y.set oM (mkC oT (f:Int) (nf:Int) pv nilV (gnv [] kD) (gnv [] kA) 0 22)).set o (.cells 36 4 [fRow [] nilV nilV])) rfl ?_;refine dp (h:=fun _ _=>bsh (cs:=gfnames) rfl rfl rfl rfl rfl nz) (z:=?_);refine goF ?_;refine dq rfl rfl rfl (fun st1 hle=>ix (m:=f) rfl rfl rfl rfl (by show f < 4; omega) (nl ⟨_,rfl,rfl,rfl⟩)) ?_;refine goF ?_;refine dp (h:=fun _ _=>bsh (cs:=[.str [97],.str [98],.str [99],.str [100]]) rfl rfl rfl rfl rfl nz) (z:=?_);refine goF ?_;refine dq rfl rfl rfl (fun st1 hle=>svh (b:=p) rfl rfl rfl (by show p≤4; omega) (nl ⟨_,rfl,rfl,rfl⟩)) ?_;rw [show (chunk (0 + 1) 4 [AV.str [97],AV.str [98],AV.str [99],AV.str [100]]).take p=nrows (pnames.take p) from nrows_take pnames p];refine dp (h:=fun _ _=>bds (cs:=fRow w (vw 1 (nrows (pnames.take p))) nilV) rfl rfl rfl rfl nz) (z:=?_);refine de rfl rfl rfl ?_ ?_
  ·exact al rfl rfl fun o ho=>nl ⟨_,rfl,⟨o,rfl,ho,rfl⟩,⟨fun x c hx=>St.obj_new ho hx,fun _ h=>(by cases h),rfl⟩⟩
  refine dn ⟨fun h=>absurd h (by decide),fun _=>?_⟩;rintro v s1 d9 hd9 ⟨o9,rfl,ho9,rfl⟩;cases hd9;refine soV rfl rfl rfl rfl rfl rfl ?_;refine nl ?_;have n9M:o9≠oM:=fun e=>by rw [e,St.obj_set] at ho9; cases ho9
  have hY9:Y.obj o9=none:=by rw [St.obj_set_ne n9M] at ho9; exact ho9
  have n9T:o9≠oT:=fun e=>by
   rw [e,hY] at hY9;have h9:((((B tk rows).set oT (tapeC l j)).addTok kD).addTok kA).obj oT=some (tapeC l j):=St.obj_set _ _ _;rw [h9] at hY9; cases hY9
  have hB9:(B tk rows).obj o9=none:=by
   rw [hY] at hY9;have h9:((B tk rows).set oT (tapeC l j)).obj o9=none:=hY9
   rwa [St.obj_set_ne n9T] at h9
  refine AWP.weaken (T':=[(9,.cptr o9 4 0 0),(8,.cptr oM 9 0 0),(7,.int .i64 (f:Int)),(6,.view 1 (ps.map fun (p:Nat)=>[AV.int .i64 (p:Int)]) .shared),(5,.int .i64 (nf:Int)),(4,.cptr o4 2 0 0),(3,.cptr oT 2 0 0),(2,.cptr o2 2 0 0)]) (tl8 rfl rfl rfl rfl rfl rfl rfl rfl) (.refl _) ?_;refine goC ?_;refine rg ?_;refine sm rfl ?_;refine bs0 (z:=?_);refine goE ?_;refine apf rfl rfl rfl rfl (by rw [nrows_len,List.length_take]; omega) (by rw [nrows_len,List.length_take]; simp only [maxLen]; omega) fun kS hkS=>?_;refine goE ?_;rw [show ((Y.set oM (mkC oT (f:Int) (nf:Int) pv nilV (gnv [] kD) (gnv [] kA) 0 22)).set o9 (.cells 36 4 [AV.cells (.agg (fRow w (vw 1 (nrows (pnames.take p))) nilV))])).addTok kS=((Y.addTok kS).set oM (mkC oT (f:Int) (nf:Int) pv nilV (gnv [] kD) (gnv [] kA) 0 22)).set o9 (.cells 36 4 [fRow w (vw 1 (nrows (pnames.take p))) nilV]) from rfl,St.set_comm _ (Ne.symm n9M)];unfold mkC;refine YB (row':=mkRow oT (f:Int) (nf:Int) pv (gnv (pnames.take p) kS) (gnv [] kD) (gnv [] kA) 0 22) (hle:=by exact Nat.le_of_ble_eq_true rfl) (he:=by exact rfl) (z:=?_);refine nl ?_;have hkS0:(B tk rows).tok kS=false∧kS≠kD∧kS≠kA:=by
   rw [hY] at hkS;have h9:(if kS=kA then true else if kS=kD then true else (B tk rows).tok kS)=false:=hkS;by_cases e:kS=kA
   ·rw [if_pos e] at h9; cases h9
   ·rw [if_neg e] at h9;by_cases e2:kS=kD
    ·rw [if_pos e2] at h9; cases h9
    ·rw [if_neg e2] at h9; exact ⟨h9,e2,e⟩
  obtain ⟨E,hEl,hET,hEM,hEf,hEn,hEp⟩:∃ E:MEnv,E.l=l∧E.oT=oT∧E.oM=oM∧E.f=f∧E.funcs=nf∧E.ps=ps:=⟨⟨l,oT,oM,f,nf,ps,hl,nMT,hfn,by omega,hpl,hp4⟩,rfl,rfl,rfl,rfl,rfl,rfl⟩;obtain ⟨a,ha⟩:∃ a:MA,a=⟨j,pnames.take p,[],[],kS,kD,kA,0,22⟩:=⟨_,rfl⟩;have hv:MV E ((B tk rows).set o9 (.cells 36 4 [fRow w (vw 1 (nrows (pnames.take p))) nilV])) a:=by
   subst ha;refine ⟨by rw [hEl]; exact hj,fun s hs=>?_,fun s hs=>(by cases hs),fun s hs=>(by cases hs),?_,Nat.zero_le _,Nat.zero_le _,Nat.le_of_ble_eq_true rfl,?_⟩
   ·have h9:s ∈ pnames:=List.mem_of_mem_take hs;simp only [pnames,List.mem_cons,List.not_mem_nil,or_false] at h9;rcases h9 with rfl|rfl|rfl|rfl <;> decide
   ·simp only [List.length_take]; omega
   ·refine ⟨fun i j' t h1 h2=>?_,fun i t h1=>?_⟩
    ·match i,j',h1,h2 with
     | 0,0,_,_=>rfl
     | 1,1,_,_=>rfl
     | 2,2,_,_=>rfl
     | 0,1,h1,h2=>cases h1; cases h2; exact absurd rfl hkS0.2.1
     | 0,2,h1,h2=>cases h1; cases h2; exact absurd rfl hkS0.2.2
     | 1,0,h1,h2=>cases h1; cases h2; exact absurd rfl hkS0.2.1
     | 1,2,h1,h2=>cases h1; cases h2; exact absurd rfl hkA0.2
     | 2,0,h1,h2=>cases h1; cases h2; exact absurd rfl hkS0.2.2
     | 2,1,h1,h2=>cases h1; cases h2; exact absurd rfl hkA0.2
     | i + 3,_,h1,_=>cases h1
     | 0,j' + 3,_,h2=>cases h2
     | 1,j' + 3,_,h2=>cases h2
     | 2,j' + 3,_,h2=>cases h2
    ·match i,h1 with
     | 0,h1=>cases h1; exact hkS0.1
     | 1,h1=>cases h1; exact hkD0
     | 2,h1=>cases h1; exact hkA0.1
  subst hET hEM hEf hEn hEp;have hle0:StLe (((Y.addTok kS).set o9 (.cells 36 4 [fRow w (vw 1 (nrows (pnames.take p))) nilV])).set E.oM (.cells 92 9 [mkRow E.oT (E.f:Int) (E.funcs:Int) pv (gnv (pnames.take p) kS) (gnv [] kD) (gnv [] kA) 0 22])) (E.st ((B tk rows).set o9 (.cells 36 4 [fRow w (vw 1 (nrows (pnames.take p))) nilV])) a):=by
   rw [hY,ha,hpv];have e9:((B tk rows).set E.oT (tapeC l j)).set o9 (.cells 36 4 [fRow w (vw 1 (nrows (pnames.take p))) nilV])=((B tk rows).set o9 (.cells 36 4 [fRow w (vw 1 (nrows (pnames.take p))) nilV])).set E.oT (tapeC E.l j):=by rw [St.set_comm _ (Ne.symm n9T),hEl]
   show StLe ((((((B tk rows).set E.oT (tapeC l j)).set o9 (.cells 36 4 [fRow w (vw 1 (nrows (pnames.take p))) nilV])).addTok kD).addTok kA).addTok kS |>.set E.oM _) _;rw [e9];refine ⟨fun _ _ h=>h,fun t h=>?_,rfl⟩;have h9:(decide (some t ∈ [some kS,some kD,some kA]) || (B tk rows).tok t)=true:=h
   show (if t=kS then true else if t=kA then true else if t=kD then true else (B tk rows).tok t)=true;by_cases e1:t=kS
   ·rw [if_pos e1]
   by_cases e2:t=kA
   ·rw [if_neg e1,if_pos e2]
   by_cases e3:t=kD
   ·rw [if_neg e1,if_neg e2,if_pos e3]
   rw [if_neg e1,if_neg e2,if_neg e3];rw [Bool.or_eq_true] at h9;rcases h9 with h9|h9
   ·simp only [decide_eq_true_eq,List.mem_cons,Option.some.injEq,List.not_mem_nil,or_false] at h9;rcases h9 with h9|h9|h9
    ·exact absurd h9 e1
    ·exact absurd h9 e3
    ·exact absurd h9 e2
   ·exact h9
  refine AWP.weaken (T':=[(9,.cptr o9 4 0 0),(8,.cptr E.oM 9 0 0),(7,.int .i64 (E.f:Int)),(6,.view 1 (E.ps.map fun (p:Nat)=>[AV.int .i64 (p:Int)]) .shared),(5,.int .i64 (E.funcs:Int)),(4,.cptr o4 2 0 0),(3,.cptr E.oT 2 0 0),(2,.cptr o2 2 0 0)]) (tl8 rfl rfl rfl rfl rfl rfl rfl rfl) hle0 ?_;clear hle0 hkS hkA hkD hkS0 hkA0 hkD0;obtain ⟨C9,hC9⟩:∃ C9:AV→St,C9=fun b=>(B tk rows).set o9 (.cells 36 4 [fRow w (vw 1 (nrows (pnames.take p))) b]):=⟨_,rfl⟩;rw [show (B tk rows).set o9 (.cells 36 4 [fRow w (vw 1 (nrows (pnames.take p))) nilV])=C9 nilV by rw [hC9]] at hv ⊢;have hC9e:∀ b c,E.st (C9 b) c=(E.st (B tk rows) c).set o9 (.cells 36 4 [fRow w (vw 1 (nrows (pnames.take p))) b]):=fun b c=>by rw [hC9]; exact (E.under n9T n9M _).symm
  refine goC ?_;refine rg ?_;refine goE ?_;refine nl ?_;refine cut (α:=Nat) (fun m=>[(10,.int .i64 (m:Int)),(9,.cptr o9 4 0 0),(8,.cptr E.oM 9 0 0),(7,.int .i64 (E.f:Int)),(6,.view 1 (E.ps.map fun (p:Nat)=>[AV.int .i64 (p:Int)]) .shared),(5,.int .i64 (E.funcs:Int)),(4,.cptr o4 2 0 0),(3,.cptr E.oT 2 0 0),(2,.cptr o2 2 0 0)]) (fun _=>E.st (C9 nilV) a) (fun m=>m≤10) ?_ ?_
  ·by_cases hf0:(0:Int) < (E.f:Int)
   ·refine goD ?_;exact ⟨6,by decide,(tl9 rfl rfl rfl rfl rfl rfl rfl rfl rfl),.refl _⟩
   ·refine goD ?_;exact ⟨10,by decide,(tl9 rfl rfl rfl rfl rfl rfl rfl rfl rfl),.refl _⟩
  ·intro m hm;refine goD ?_;refine cl rfl rfl (stmts_ok 3 (by decide) E (C9 nilV) a hv m hm) fun v s' ⟨srows,tks,b,hv',hsg,hsl,hs0,hvb,hleb,hsb,hs⟩=>?_;subst hv' hs;refine goE ?_;rw [show (C9 nilV).addTok tks=((B tk rows).addTok tks).set o9 (.cells 36 4 [fRow w (vw 1 (nrows (pnames.take p))) nilV]) by rw [hC9]; rfl,← E.under n9T n9M];refine YB (row':=fRow w (vw 1 (nrows (pnames.take p))) (.view 13 srows (.own tks 41))) (hle:=by exact Nat.le_of_ble_eq_true rfl) (he:=by exact rfl) (z:=?_);rw [E.under n9T n9M];refine nl ?_;obtain ⟨DD,hDD⟩:∃ DD:Nat→List (List AV)→St,DD=fun k r=>((B tk rows).addTok k).set o9 (.cells 36 4 [fRow w (vw 1 (nrows (pnames.take p))) (.view 13 r (.own k 41))]):=⟨_,rfl⟩;rw [show ((B tk rows).addTok tks).set o9 (.cells 36 4 [fRow w (vw 1 (nrows (pnames.take p))) (.view 13 srows (.own tks 41))])=DD tks srows by rw [hDD]];have hs0':(B tk rows).tok tks=false:=by rw [hC9] at hs0; exact hs0
   have hvb':MV E ((B tk rows).addTok tks) b:=by rw [hC9] at hvb; exact MV.unset (o:=o9) hvb
   have hvD:∀ {k r c},MV E ((B tk rows).addTok k) c→MV E (DD k r) c:=fun {k r c} h=>by rw [hDD]; exact h.set _ _
   have hDe:∀ k r c,E.st (DD k r) c=(E.st ((B tk rows).addTok k) c).set o9 (.cells 36 4 [fRow w (vw 1 (nrows (pnames.take p))) (.view 13 r (.own k 41))]):=fun k r c=>by rw [hDD]; exact (E.under n9T n9M _).symm
   have hD9:∀ k r c,(E.st (DD k r) c).obj o9=some (.cells 36 4 [fRow w (vw 1 (nrows (pnames.take p))) (.view 13 r (.own k 41))]):=fun k r c=>by rw [hDe]; exact St.obj_set _ _ _
   have hDs:∀ k r r' c,E.st ((((B tk rows).set o9 (.cells 36 4 [fRow w (vw 1 (nrows (pnames.take p))) (.view 13 r (.own k 41))])).addTok r')) c=(E.st ((B tk rows).addTok r') c).set o9 (.cells 36 4 [fRow w (vw 1 (nrows (pnames.take p))) (.view 13 r (.own k 41))]):=fun k r r' c=>(by
    show E.st (((B tk rows).addTok r').set o9 _) c=_;exact (E.under n9T n9M _).symm)
   clear hvb hs0 hleb hsb hv;refine cut (α:=Nat × List (List AV) × MA) (fun _=>[(9,.cptr o9 4 0 0),(8,.cptr E.oM 9 0 0),(7,.int .i64 (E.f:Int)),(6,.view 1 (E.ps.map fun (p:Nat)=>[AV.int .i64 (p:Int)]) .shared),(5,.int .i64 (E.funcs:Int)),(4,.cptr o4 2 0 0),(3,.cptr E.oT 2 0 0),(2,.cptr o2 2 0 0)]) (fun x=>E.st (DD x.1 x.2.1) x.2.2) (fun x=>x.2.1.length≤21∧(∀ r ∈ x.2.1,GS 4 r)∧(B tk rows).tok x.1=false∧MV E ((B tk rows).addTok x.1) x.2.2) ?_ ?_
   ·have hM1:=E.obj_M (DD tks srows) b;by_cases hS:(0:Int) < ((nrows b.S).length:Int)
    ·refine goD ?_;refine cl rfl rfl (next_j E (hvD hvb') (MJ.refl (hvD hvb')) 3 (by decide) (by decide)) fun v s' ⟨⟨n1,hn1,hn13⟩,j1,hj1,hs⟩=>?_;subst hn1 hs;by_cases hn10:(0:Int) < (n1:Int)
     ·refine goD ?_;apply AWP.drawI (hm:=rfl) (k:=19) (I:=MJ E (DD tks srows) b) (hI:=⟨j1,hj1,rfl⟩)
      case hok=>rfl
      have hM:=fun s (h:MJ E (DD tks srows) b s)=>h.M;repeat (apply diQ (hd:=rfl) (hw:=rfl) (h:=fun _ _=>ZC (z:=nz)))
      apply diQ (hd:=rfl) (hw:=rfl) (h:=fun x hx=>by
       obtain ⟨j2,hj2,rfl⟩:=hx;exact lc rfl rfl (hD9 _ _ _) rfl rfl (nl ⟨_,rfl,rfl,rfl⟩))
      repeat (first|apply diQ (hd:=rfl) (hw:=rfl) (h:=fun st1 hI=>lc rfl rfl (hM st1 hI) rfl rfl (nl ⟨_,rfl,rfl,rfl⟩))|apply diQ (hd:=rfl) (hw:=rfl) (h:=fun _ _=>ZA (z:=nz))|apply diQ (hd:=rfl) (hw:=rfl) (h:=fun _ _=>ZC (z:=nz))|apply diQ (hd:=rfl) (hw:=rfl) (h:=fun _ _=>ZJ (z:=nz)))
      apply diE (Q:=fun v=>∃ n:Nat,v=.int .i64 (n:Int)∧n < (nrows b.S).length) (hd:=rfl) (hw:=rfl) (hex:=⟨_,0,rfl,by omega⟩) (h:=fun x hx=>cl rfl rfl (next_j E (hvD hvb') hx ((nrows b.S).length:Int) hS (by rw [nrows_len]; have:=hvb'.lS; have:=hvb'.c; omega)) fun v s' ⟨⟨n,hv,hn⟩,hs⟩=>nl ⟨v,rfl,⟨n,hv,by omega⟩,hs⟩);rintro v ⟨m1,rfl,hm1⟩;apply diE (Q:=fun v=>∃ m:Nat,v=.eptr 1 (nrows b.S) m 0∧m < (nrows b.S).length) (hd:=rfl) (hw:=rfl) (hex:=⟨_,m1,rfl,hm1⟩) (h:=fun x hx=>ix (m:=m1) rfl rfl rfl rfl hm1 (nl ⟨_,rfl,⟨m1,rfl,hm1⟩,hx⟩));rintro v ⟨m2,rfl,hm2⟩;obtain ⟨q1,hq1,hq1l⟩:=MA.S_get hvb'.nS hm2;apply diE (Q:=fun v=>∃ w:List UInt8,v=.str w∧LP 30 w) (hd:=rfl) (hw:=rfl) (hex:=⟨_,q1,rfl,hq1l⟩) (h:=fun x hx=>Go.AM.le rfl rfl hq1 rfl (nl ⟨_,rfl,⟨q1,rfl,hq1l⟩,hx⟩));rintro v ⟨w2,rfl,w2l⟩;apply diE (Q:=fun v=>∃ w:List UInt8,v=.agg (exRow 1 0 w [] noE)∧LP 30 w) (hd:=rfl) (hw:=rfl) (hex:=⟨_,w2,rfl,w2l⟩) (h:=fun x hx=>clp rfl rfl inferInstance (nl ⟨_,rfl,⟨w2,rfl,w2l⟩,hx⟩));rintro v ⟨w3,rfl,w3l⟩;apply diE (Q:=fun v=>∃ w:List UInt8,v=.view 6 [exRow 1 0 w [] noE] .shared∧LP 30 w) (hd:=rfl) (hw:=rfl) (hex:=⟨_,w3,rfl,w3l⟩) (h:=fun x hx=>bs1 rfl rfl rfl rfl rfl rfl (nl ⟨_,rfl,⟨w3,rfl,w3l⟩,hx⟩));rintro v ⟨w4,rfl,w4l⟩;apply diE (Q:=fun v=>∃ w:List UInt8,v=.agg (stRow 6 0 [] [] [] nilV (vw 6 [exRow 1 0 w [] noE]) nilV nilV)∧LP 30 w) (hd:=rfl) (hw:=rfl) (hex:=⟨_,w4,rfl,w4l⟩) (h:=fun x hx=>bds (cs:=stRow 6 0 [] [] [] nilV (vw 6 [exRow 1 0 w4 [] noE]) nilV nilV) rfl rfl rfl rfl (nl ⟨_,rfl,⟨w4,rfl,w4l⟩,hx⟩));rintro v ⟨w5,rfl,w5l⟩;apply diE (Q:=fun v=>∃ w:List UInt8,v=.view 13 [stRow 6 0 [] [] [] nilV (vw 6 [exRow 1 0 w [] noE]) nilV nilV] .shared∧LP 30 w) (hd:=rfl) (hw:=rfl) (hex:=⟨_,w5,rfl,w5l⟩) (h:=fun x hx=>bs1 rfl rfl rfl rfl rfl rfl (nl ⟨_,rfl,⟨w5,rfl,w5l⟩,hx⟩));rintro v ⟨w6,rfl,w6l⟩;refine diN fun s4 hs4=>?_;obtain ⟨j4,hj4,rfl⟩:=hs4;refine AOps.weaken (T':=[(92,.view 13 [stRow 6 0 [] [] [] (vw 6 []) (vw 6 [exRow 1 0 w6 [] noE]) (vw 13 []) (vw 13 [])] .shared),(75,.view 13 srows (.own tks 41)),(9,.cptr o9 4 0 0),(8,.cptr E.oM 9 0 0),(7,.int .i64 (E.f:Int)),(6,.view 1 (E.ps.map fun (p:Nat)=>[AV.int .i64 (p:Int)]) .shared),(5,.int .i64 (E.funcs:Int)),(4,.cptr o4 2 0 0),(3,.cptr E.oT 2 0 0),(2,.cptr o2 2 0 0)]) (TLe.cons rfl (st1_le (.nilShared _ _) (.refl _) (.nilShared _ _) (.nilShared _ _) rfl rfl rfl rfl) (tl9 rfl rfl rfl rfl rfl rfl rfl rfl rfl)) (.refl _) ?_;have hvE:MV E (((B tk rows).set o9 (.cells 36 4 [fRow w (vw 1 (nrows (pnames.take p))) (.view 13 srows (.own tks 41))])).addTok tks) { b with j:=j4 }:=by have:=hvD (r:=srows) (hvb'.tape hj4); rw [hDD] at this; exact this
      rw [show E.st (DD tks srows) { b with j:=j4 }=E.st (((B tk rows).set o9 (.cells 36 4 [fRow w (vw 1 (nrows (pnames.take p))) (.view 13 srows (.own tks 41))])).addTok tks) { b with j:=j4 } by rw [hDD]; rfl];refine ap_out E (rows2:=[stRow 6 0 [] [] [] (vw 6 []) (vw 6 [exRow 1 0 w6 [] noE]) (vw 13 []) (vw 13 [])]) rfl rfl rfl hs0' hvE (by simp only [List.length_cons,List.length_nil]; omega) fun tk' h0' hvb2=>?_;have hvb3:MV E ((B tk rows).addTok tk') { b with j:=j4 }:=MV.unset (o:=o9) (show MV E (((B tk rows).addTok tk').set o9 _) _ from hvb2);rw [hDs];refine goE ?_;refine YB (row':=fRow w (vw 1 (nrows (pnames.take p))) (.view 13 (srows++[stRow 6 0 [] [] [] (vw 6 []) (vw 6 [exRow 1 0 w6 [] noE]) (vw 13 []) (vw 13 [])]) (.own tk' 41))) (hle:=by exact Nat.le_of_ble_eq_true rfl) (he:=by exact rfl) (z:=?_);refine nl ?_;refine ⟨(tk',srows++[stRow 6 0 [] [] [] (vw 6 []) (vw 6 [exRow 1 0 w6 [] noE]) (vw 13 []) (vw 13 [])],{ b with j:=j4 }),⟨by simp only [List.length_append,List.length_cons,List.length_nil]; omega,fun r hr=>?_,h0',hvb3⟩,(tl8 rfl rfl rfl rfl rfl rfl rfl rfl),by rw [hDe]; exact .refl _⟩;rcases List.mem_append.1 hr with hr|hr
      ·exact hsg r hr
      ·rw [List.mem_singleton.1 hr];exact GS_le (by omega) (GS_one (len:=0) (by decide) (by decide) (by decide) (by decide) (by decide) (by decide) (by decide) (Nat.zero_le _) (by simp) (fun r hr=>(by cases hr)) (fun r hr=>by rw [List.mem_singleton.1 hr]; exact GE_var 3 w6l))
     ·refine goD ?_;exact ⟨(tks,srows,{ b with j:=j1 }),⟨by simp only; omega,hsg,hs0',hvb'.tape hj1⟩,(tl8 rfl rfl rfl rfl rfl rfl rfl rfl),.refl _⟩
    ·refine goD ?_;exact ⟨(tks,srows,b),⟨by simp only; omega,hsg,hs0',hvb'⟩,(tl8 rfl rfl rfl rfl rfl rfl rfl rfl),.refl _⟩
   ·clear hsg hsl hs0' hvb';rintro ⟨tks,srows,b⟩ ⟨hsl,hsg,hs0',hvb'⟩;simp only at hsl hsg hs0' hvb';show AWP _ _ _ _ _ _ (E.st (DD tks srows) b)
    have h9:=hD9 tks srows b;refine goD ?_;refine bds (cs:=stRow 10 0 [] [] [] nilV nilV nilV nilV) rfl rfl rfl rfl ?_;refine AOps.weaken (T':=[(97,.agg (stRow 10 0 [] [] [] (vw 6 []) (vw 6 []) (vw 13 []) (vw 13 []))),(96,.view 13 srows (.own tks 41)),(9,.cptr o9 4 0 0),(8,.cptr E.oM 9 0 0),(7,.int .i64 (E.f:Int)),(6,.view 1 (E.ps.map fun (p:Nat)=>[AV.int .i64 (p:Int)]) .shared),(5,.int .i64 (E.funcs:Int)),(4,.cptr o4 2 0 0),(3,.cptr E.oT 2 0 0),(2,.cptr o2 2 0 0)]) (TLe.cons rfl (st_le (.nilShared _ _) (.nilShared _ _) (.nilShared _ _) (.nilShared _ _) rfl rfl rfl rfl) (tl9 rfl rfl rfl rfl rfl rfl rfl rfl rfl)) (.refl _) ?_;refine goE ?_;have hvE:MV E (((B tk rows).set o9 (.cells 36 4 [fRow w (vw 1 (nrows (pnames.take p))) (.view 13 srows (.own tks 41))])).addTok tks) b:=by have:=hvD (r:=srows) hvb'; rw [hDD] at this; exact this
    rw [show E.st (DD tks srows) b=E.st (((B tk rows).set o9 (.cells 36 4 [fRow w (vw 1 (nrows (pnames.take p))) (.view 13 srows (.own tks 41))])).addTok tks) b by rw [hDD]; rfl];refine ap_out E (rows2:=[stRow 10 0 [] [] [] (vw 6 []) (vw 6 []) (vw 13 []) (vw 13 [])]) rfl rfl rfl hs0' hvE (by simp only [List.length_cons,List.length_nil]; omega) fun tk' h0' hvb2=>?_;rw [hDs];refine goE ?_;refine YB (row':=fRow w (vw 1 (nrows (pnames.take p))) (.view 13 (srows++[stRow 10 0 [] [] [] (vw 6 []) (vw 6 []) (vw 13 []) (vw 13 [])]) (.own tk' 41))) (hle:=by exact Nat.le_of_ble_eq_true rfl) (he:=by exact rfl) (z:=?_);refine nl ?_;have n49:o4≠o9:=fun e=>by rw [← e,hB] at hB9; have h8:(((st.set o2 zP).set o4 (PC (.view 4 rows (.own tk 36)))).addTok tk).obj o4=some (PC (.view 4 rows (.own tk 36))):=St.obj_set _ _ _; rw [h8] at hB9; cases hB9
    have h4o:((E.st ((B tk rows).addTok tk') b).set o9 (.cells 36 4 [fRow w (vw 1 (nrows (pnames.take p))) (.view 13 (srows++[stRow 10 0 [] [] [] (vw 6 []) (vw 6 []) (vw 13 []) (vw 13 [])]) (.own tk' 41))])).obj o4=some (PC (.view 4 rows (.own tk 36))):=by
     rw [St.obj_set_ne n49,E.obj_o n4T (Ne.symm nM4),hB];exact St.obj_set _ _ _
    skip
    refine rg ?_;refine goE ?_;refine AOps.weaken (T':=[(104,.view 4 [fRow w (vw 1 (nrows (pnames.take p))) (vw 13 (srows++[stRow 10 0 [] [] [] (vw 6 []) (vw 6 []) (vw 13 []) (vw 13 [])]))] .shared),(102,.view 4 rows (.own tk 36)),(7,.int .i64 (E.f:Int)),(6,.view 1 (E.ps.map fun (p:Nat)=>[AV.int .i64 (p:Int)]) .shared),(5,.int .i64 (E.funcs:Int)),(4,.cptr o4 2 0 0),(3,.cptr E.oT 2 0 0),(2,.cptr o2 2 0 0)]) (st':=(B tk rows).set E.oT (tapeC l b.j)) (TLe.cons rfl (.trans _ _ _ (fr1_le (.shared _ _ _) rfl rfl) (.refl _)) (tl7 rfl rfl rfl rfl rfl rfl rfl)) ?_ ?_
    ·refine StLe.trans (StLe.new (by rw [E.obj_o n9T n9M]; exact hB9) (.refl _)) (StLe.trans (E.tokLe _ _ _) ?_);rw [← hEl];refine StLe.trans (toks_drop _ _) (StLe.new ?_ (.refl _));rw [St.obj_set_ne nMT];exact hBM
    have hbt:∀ x,(B tk rows).tok x=(if x=tk then true else st.tok x):=fun x=>by rw [hB]; rfl
    refine ap (rows2:=[fRow w (vw 1 (nrows (pnames.take p))) (vw 13 (srows++[stRow 10 0 [] [] [] (vw 6 []) (vw 6 []) (vw 13 []) (vw 13 [])]))]) rfl rfl rfl (by show (B tk rows).tok tk=true; rw [hbt,if_pos rfl]) rfl (by simp only [List.length_cons,List.length_nil]; omega) (by simp only [List.length_cons,List.length_nil,maxLen]; omega) fun tk2 htk2=>?_;have htk3:st.tok tk2=false:=by
     have h8:(B tk rows).tok tk2=false:=htk2;rw [hbt] at h8;by_cases e:tk2=tk
     ·rw [if_pos e] at h8; cases h8
     ·rwa [if_neg e] at h8
    rw [show ((((B tk rows).set E.oT (tapeC l b.j)).untok tk).addTok tk2)=((((((st.set o2 zP).set E.oT (tapeC l b.j)).addTok tk).untok tk).addTok tk2).set o4 (PC (.view 4 rows (.own tk 36)))) by
     rw [hB];show (((((st.set o2 zP).set o4 (PC _)).set E.oT _).addTok tk).untok tk).addTok tk2=(((((st.set o2 zP).set E.oT (tapeC l b.j)).set o4 (PC (.view 4 rows (.own tk 36)))).addTok tk).untok tk).addTok tk2;rw [St.set_comm _ n4T]]
    refine goE ?_;unfold PC;refine YB (row':=[recV,.view 4 (rows++[fRow w (vw 1 (nrows (pnames.take p))) (vw 13 (srows++[stRow 10 0 [] [] [] (vw 6 []) (vw 6 []) (vw 13 []) (vw 13 [])]))]) (.own tk2 36)]) (hle:=by exact Nat.le_of_ble_eq_true rfl) (he:=by exact rfl) (z:=?_);refine nl ?_;refine goD ?_;refine ⟨(E.f + 1,b.j,rows++[fRow w (vw 1 (nrows (pnames.take p))) (vw 13 (srows++[stRow 10 0 [] [] [] (vw 6 []) (vw 6 []) (vw 13 []) (vw 13 [])]))],tk2),⟨hfn,by rw [← hEl]; exact hvb'.j,by simp only [List.length_append,List.length_cons,List.length_nil]; omega,fun r hr=>?_,htk3⟩,by simp only; omega,(tl6 rfl rfl rfl rfl rfl rfl),?_⟩
    ·rcases List.mem_append.1 hr with hr|hr
     ·exact hg r hr
     ·rw [List.mem_singleton.1 hr];refine ⟨w,pnames.take p,srows++[stRow 10 0 [] [] [] (vw 6 []) (vw 6 []) (vw 13 []) (vw 13 [])],rfl,wl,by rw [List.length_take]; omega,fun s hs=>?_,by simp only [List.length_append,List.length_cons,List.length_nil]; omega,fun r hr=>?_⟩
      ·have h9:s ∈ pnames:=List.mem_of_mem_take hs;simp only [pnames,List.mem_cons,List.not_mem_nil,or_false] at h9;rcases h9 with rfl|rfl|rfl|rfl <;> decide
      ·rcases List.mem_append.1 hr with hr|hr
       ·exact hsg r hr
       ·rw [List.mem_singleton.1 hr];exact GS_le (by omega) (GS_one (len:=0) (by decide) (by decide) (by decide) (by decide) (by decide) (by decide) (by decide) (Nat.zero_le _) (Nat.zero_le _) (fun r hr=>(by cases hr)) (fun r hr=>(by cases hr)))
    ·show StLe _ ((B tk2 (rows++[_])).set E.oT (tapeC l b.j));rw [hB];show StLe _ (((((st.set o2 zP).set o4 (PC (.view 4 (rows++[_]) (.own tk2 36)))).set E.oT (tapeC l b.j)).addTok tk2));rw [St.set_comm _ n4T];exact StLe.set _ _ (StLe.reTok (st:=(st.set o2 zP).set E.oT (tapeC l b.j)) h0 tk2)
 ·have h4o:((B tk rows).set oT (tapeC l j)).obj o4=some (PC (.view 4 rows (.own tk 36))):=by rw [St.obj_set_ne n4T,hB]; exact St.obj_set _ _ _
  have h2o:((B tk rows).set oT (tapeC l j)).obj o2=some zP:=by
   rw [St.obj_set_ne (Ne.symm n2T),hB];show ((st.set o2 zP).set o4 _).obj o2=_;rw [St.obj_set_ne (Ne.symm n42)];exact St.obj_set _ _ _
  unfold PC at h4o;refine goD ?_;refine AOps.weaken (T':=[(107,.agg [recV,vw 4 rows]),(2,.cptr o2 2 0 0)]) (TLe.cons rfl (pr_le _ _ _) (tl1 rfl)) (.refl _) ?_;refine so rfl rfl rfl h2o rfl rfl rfl rfl rfl ?_;refine goD ?_;refine AWP.ret (rets (resCW rfl (St.obj_set _ _ _) rfl rfl rfl rfl) (.refl _) ⟨fun x c hx=>?_,fun t ht=>?_,by rw [hB]; rfl⟩ ⟨rows,rfl,by omega,hg,rfl⟩)
  ·have e2:x≠o2:=fun e=>by rw [e,h2] at hx; cases hx
   have e4:x≠o4:=fun e=>by rw [e,h4'] at hx; cases hx
   have eT:x≠oT:=fun e=>by rw [e,hT'] at hx; cases hx
   rw [St.obj_set_ne e2,St.obj_set_ne eT,hB];show ((st.set o2 zP).set o4 _).obj x=_;rw [St.obj_set_ne e4,St.obj_set_ne e2];exact hx
  ·have h9:(B tk rows).tok t=(if t=tk then true else st.tok t):=by rw [hB]; rfl
   show (B tk rows).tok t=true;rw [h9,ht];simp
def rk (op:Int):Int:=if 14≤op∧op≤17 then 1 else if 11≤op∧op≤13 then 2 else if op=6∨op=7 then 3 else if 8≤op∧op≤10 then 4 else if op=4∨op=5 then 5 else 6
set_option maxHeartbeats 4000000 in
theorem rank_ok (op:Int) (st:St):ACalls Tryz.prog 93 [.int .i64 op] st (fun v st'=>v=.int .i64 (rk op)∧st'=st) (fun _ _=>False):=by
 refine ACalls.ofBody Tryz.func93 rfl Tryz.ntmps93 rfl ?_;by_cases h:op < 4∨17 < op
 ·have e:rk op=6:=by
   unfold rk;rw [if_neg (by omega),if_neg (by omega),if_neg (by omega),if_neg (by omega),if_neg (by omega)]
  rw [e];refine goD ?_;exact AWP.ret (rets rfl (.refl _) (.refl _) ⟨rfl,rfl⟩)
 ·have h':op=4∨op=5∨op=6∨op=7∨op=8∨op=9∨op=10∨op=11∨op=12∨op=13∨op=14∨op=15∨op=16∨op=17:=by omega
  clear h;rcases h' with rfl|rfl|rfl|rfl|rfl|rfl|rfl|rfl|rfl|rfl|rfl|rfl|rfl|rfl <;>
  ·refine goD ?_;exact AWP.ret (rets rfl (.refl _) (.refl _) ⟨rfl,rfl⟩)
instance (op:Int):PureFn Tryz.prog 93 [.int .i64 op] (.int .i64 (rk op)) where
 out st:=rank_ok op st
theorem words_ok (S:List (List UInt8)) (hS:∀ s ∈ S,LP 30 s) (hl:S.length≤1000) (k:Go.AM.Tok) (st:St) :
  ACalls Tryz.prog 33 [.view 1 (nrows S) k] st (fun v st'=>(∃ w:List UInt8,v=.str w∧LP (40 * S.length) w)∧st'=st) (fun _ _=>False):=by
 refine ACalls.ofBody Tryz.func33 rfl Tryz.ntmps33 rfl ?_;have hn:=nrows_len S;refine goD ?_;rw [hn];refine AWP.loop (α:=Nat × List UInt8) (fun x=>[(8,.int .i64 (x.1:Int)),(7,.int .i64 (S.length:Int)),(6,.view 1 (nrows S) k),(3,.str x.2)]) (fun _=>st) (fun x=>x.1≤S.length∧x.2.length≤40 * x.1∧Pg x.2=true) (fun x=>S.length - x.1)
  (0,[]) ⟨Nat.zero_le _,Nat.zero_le _,rfl⟩ (tl4 rfl rfl rfl rfl) (.refl _) ?_
 rintro ⟨i,s⟩ ⟨hi,hs,ps⟩;simp only at hi hs ps;refine AWP.weaken (T':=[(8,.int .i64 (i:Int)),(7,.int .i64 (S.length:Int)),(6,.view 1 (nrows S) k),(3,.str s)]) (tl4 rfl rfl rfl rfl) (.refl _) ?_;refine goD ?_;refine AWP.cond_dec rfl (fun h=>AWP.skip ?_) (fun h=>AWP.exit (blk_hit ?_))
 ·have hlt:i < S.length:=by have:(i:Int) < (S.length:Int):=h; omega
  have hlt':i < (nrows S).length:=by rw [hn]; exact hlt
  have hg:=nrows_get hlt
  have hgl:=hS _ (List.getElem_mem hlt);generalize S[i]=w at hg hgl;obtain ⟨hgl,pw⟩:=hgl;by_cases h0:(0:Int) < (i:Int)
  ·refine goD ?_;refine sad rfl rfl rfl (by simp only [List.length_cons,List.length_nil]; omega) ?_;refine goD ?_;refine sad rfl rfl rfl LL ?_;refine goD ?_;exact ⟨(i + 1,s++[44,32]++w),⟨hlt,by simp only [List.length_append,List.length_cons,List.length_nil]; omega,(by repeat (first|assumption|exact rfl|refine Pg.app ?_ ?_))⟩,by simp only; omega,(tl4 rfl rfl rfl rfl),.refl _⟩
  ·refine goD ?_;refine sad rfl rfl rfl (by omega) ?_;refine goD ?_;exact ⟨(i + 1,s++w),⟨hlt,by simp only [List.length_append]; omega,(by repeat (first|assumption|refine Pg.app ?_ ?_))⟩,by simp only; omega,(tl4 rfl rfl rfl rfl),.refl _⟩
 ·refine goD ?_;exact AWP.ret (rets rfl (.refl _) (.refl _) ⟨⟨s,rfl,by omega,ps⟩,rfl⟩)
def eL:Nat→Nat
 | 0=>100
 | d + 1=>3 * eL d
theorem eL_ge:∀ d,100≤eL d
 | 0=>Nat.le_refl _
 | d + 1=>by have:=eL_ge d; unfold eL; omega
theorem eL4:∀ d,d≤4→eL d≤10000
 | 0,_=>by decide
 | 1,_=>by decide
 | 2,_=>by decide
 | 3,_=>by decide
 | 4,_=>by decide
def signs:List AV:=[.str [43],.str [45],.str [42],.str [47],.str [37],.str [38],.str [124],.str [94],.str [60],.str [60,61],.str [61,61],.str [33,61]]
theorem signs_get:∀ k:Nat,k < 12→∃ w:List UInt8,(chunk (0 + 1) 12 signs)[k]?=some [.str w]∧LP 2 w
 | 0,_=>⟨_,rfl,by decide⟩
 | 1,_=>⟨_,rfl,by decide⟩
 | 2,_=>⟨_,rfl,by decide⟩
 | 3,_=>⟨_,rfl,by decide⟩
 | 4,_=>⟨_,rfl,by decide⟩
 | 5,_=>⟨_,rfl,by decide⟩
 | 6,_=>⟨_,rfl,by decide⟩
 | 7,_=>⟨_,rfl,by decide⟩
 | 8,_=>⟨_,rfl,by decide⟩
 | 9,_=>⟨_,rfl,by decide⟩
 | 10,_=>⟨_,rfl,by decide⟩
 | 11,_=>⟨_,rfl,by decide⟩
def ExprT (d:Nat):Prop:=∀ row,GE d row→∀ (least:Int),-100≤least→least≤100→∀ st,ACalls Tryz.prog 61 [.agg row,.int .i64 least] st (fun v st'=>(∃ w:List UInt8,v=.str w∧LP (eL d) w)∧st'=st) (fun _ _=>False)
set_option maxHeartbeats 4000000 in
theorem exprt_step (d:Nat) (hd:d≤3) (ih:ExprT d):ExprT (d + 1):=by
 intro row hg least l0 l1 st;obtain ⟨op,num,name,field,rows,rfl,g1,g2,g3,g4,⟨g5,pn⟩,⟨g6,pf⟩,g7,g8⟩:=hg;have hE:=eL_ge d
 have hE4:=eL4 d (by omega);refine ACalls.ofBody Tryz.func61 rfl Tryz.ntmps61 rfl ?_;refine goD ?_;refine AWP.cutK (α:=List UInt8) (fun w=>[(6,.str w),(5,.int .i64 (rk op)),(1,.int .i64 least)]) (fun _=>st) (fun w=>w.length + 2≤eL (d + 1)∧Pg w=true) ?_ ?_
 ·have e1:eL (d + 1)=3 * eL d:=rfl;rw [e1];have hr:rk op=1∨rk op=2∨rk op=3∨rk op=4∨rk op=5∨rk op=6:=by
   unfold rk;split
   ·exact .inl rfl
   split
   ·exact .inr (.inl rfl)
   split
   ·exact .inr (.inr (.inl rfl))
   split
   ·exact .inr (.inr (.inr (.inl rfl)))
   split
   ·exact .inr (.inr (.inr (.inr (.inl rfl))))
   ·exact .inr (.inr (.inr (.inr (.inr rfl))))
  have h5:rk op=5→op=4∨op=5:=by
   unfold rk;intro h;split at h
   ·cases h
   split at h
   ·cases h
   split at h
   ·cases h
   split at h
   ·cases h
   split at h
   ·assumption
   ·cases h
  have h4:rk op < 5→6≤op∧op≤17:=by
   unfold rk;intro h;split at h
   ·omega
   split at h
   ·omega
   split at h
   ·omega
   split at h
   ·omega
   split at h <;> omega
  have hg0:∀ i,i < rows.length→∃ r,rows[i]?=some r∧GE d r:=fun i hi=>⟨_,List.getElem?_eq_getElem hi,g8 _ (List.getElem_mem hi)⟩;by_cases o0:op=0
  ·have hr0:rk op=6:=by rw [o0]; rfl
   refine goD ?_;obtain ⟨m,rfl⟩:∃ m:Nat,num=(m:Int):=⟨num.toNat,by omega⟩;refine cle rfl rfl (digits_ok 18 m (by omega) (by decide) (by decide) st) ?_;refine goD ?_;exact ⟨digs 18 m,⟨by have:=digs_len 18 m; omega,digs_pg _ _⟩,(tl3 rfl rfl rfl),.refl _⟩
  by_cases o2:op=2
  ·refine goD ?_;refine sad rfl rfl rfl (by simp only [List.length_cons,List.length_nil]; omega) ?_;refine goD ?_;refine sad rfl rfl rfl LL ?_;refine goD ?_;exact ⟨name++[46]++field,⟨by (try simp only [List.length_append,List.length_cons,List.length_nil]); omega,(by repeat (first|assumption|exact rfl|refine Pg.app ?_ ?_))⟩,(tl3 rfl rfl rfl),.refl _⟩
  by_cases o3:op=3∧0 < rows.length
  ·obtain ⟨o3,hl0⟩:=o3;obtain ⟨r0,hr0,hgr⟩:=hg0 0 hl0;obtain ⟨p1,p2,p3,p4,p5,rfl⟩:=GE_row hgr;refine goD ?_;apply AWP.drawI (hm:=rfl) (k:=8) (I:=fun x=>x=st) (hI:=rfl)
   case hok=>rfl
   repeat (first|apply diQ (hd:=rfl) (hw:=rfl) (h:=fun _ _=>ZF (z:=nz))|apply diQ (hd:=rfl) (hw:=rfl) (h:=fun _ _=>ZC (z:=nz)))
   apply diQ (hd:=rfl) (hw:=rfl) (h:=fun _ _=>sad rfl rfl rfl (by simp only [List.length_cons,List.length_nil]; omega) nz);repeat (first|apply diQ (hd:=rfl) (hw:=rfl) (h:=fun _ _=>ZD (z:=nz))|apply diQ (hd:=rfl) (hw:=rfl) (h:=fun _ _=>ZF (z:=nz))|apply diQ (hd:=rfl) (hw:=rfl) (h:=fun _ _=>ZC (z:=nz))|apply diQ (hd:=rfl) (hw:=rfl) (h:=fun _ _=>ZM (z:=nz)))
   apply diE (Q:=fun v=>∃ w:List UInt8,v=.str w∧LP (eL d) w) (hd:=rfl) (hw:=rfl) (hex:=⟨_,[],rfl,Nat.zero_le _,rfl⟩) (h:=fun x hx=>by subst hx; exact cl rfl rfl (ih _ hgr 1 (by decide) (by decide) x) fun v s' hv=>nl ⟨v,rfl,hv⟩);rintro v ⟨w,rfl,wl,pw⟩;refine diN fun s2 hs2=>?_;subst hs2;refine sad rfl rfl rfl LL ?_
   skip
   refine sad rfl rfl rfl LL ?_;refine goE ?_;refine nl ⟨name++[91]++w++[93],⟨by (try simp only [List.length_append,List.length_cons,List.length_nil]); omega,(by repeat (first|assumption|exact rfl|refine Pg.app ?_ ?_))⟩,(tl3 rfl rfl rfl),.refl _⟩
  by_cases o5:rk op=5∧0 < rows.length
  ·obtain ⟨o5,hl0⟩:=o5;obtain ⟨r0,hr0,hgr⟩:=hg0 0 hl0;obtain ⟨p1,p2,p3,p4,p5,rfl⟩:=GE_row hgr;have ho:=h5 o5;obtain ⟨m,hm,hm2⟩:∃ m:Nat,op - 4=(m:Int)∧m < 2:=⟨(op - 4).toNat,by omega,by omega⟩;have f2:∀ m,m < 2→∃ b:List UInt8,(chunk (0 + 1) 2 [AV.str [45],AV.str [33]])[m]?=some [.str b]∧LP 1 b:=fun m hm=>match m,hm with
    | 0,_=>⟨_,rfl,by decide⟩
    | 1,_=>⟨_,rfl,by decide⟩
   obtain ⟨b,hb,bl,pb⟩:=f2 m hm2;refine goD ?_;apply AWP.drawI (hm:=rfl) (k:=11) (I:=fun x=>x=st) (hI:=rfl)
   case hok=>rfl
   apply diQ (hd:=rfl) (hw:=rfl) (h:=fun x hx=>bsh (cs:=[.str [45],.str [33]]) rfl rfl rfl rfl rfl nz);repeat (first|apply diQ (hd:=rfl) (hw:=rfl) (h:=fun _ _=>ZF (z:=nz))|apply diQ (hd:=rfl) (hw:=rfl) (h:=fun _ _=>ZC (z:=nz))|apply diQ (hd:=rfl) (hw:=rfl) (h:=fun _ _=>YK (z:=nz)))
   rw [hm];apply diQ (hd:=rfl) (hw:=rfl) (h:=fun _ _=>ix (m:=m) rfl rfl rfl rfl (by exact hm2) nz);apply diQ (hd:=rfl) (hw:=rfl) (h:=fun _ _=>Go.AM.le rfl rfl hb rfl nz);repeat (first|apply diQ (hd:=rfl) (hw:=rfl) (h:=fun _ _=>ZD (z:=nz))|apply diQ (hd:=rfl) (hw:=rfl) (h:=fun _ _=>ZF (z:=nz))|apply diQ (hd:=rfl) (hw:=rfl) (h:=fun _ _=>ZC (z:=nz))|apply diQ (hd:=rfl) (hw:=rfl) (h:=fun _ _=>ZM (z:=nz)))
   apply diE (Q:=fun v=>∃ w:List UInt8,v=.str w∧LP (eL d) w) (hd:=rfl) (hw:=rfl) (hex:=⟨_,[],rfl,Nat.zero_le _,rfl⟩) (h:=fun x hx=>by subst hx; exact cl rfl rfl (ih _ hgr 5 (by decide) (by decide) x) fun v s' hv=>nl ⟨v,rfl,hv⟩);rintro v ⟨w,rfl,wl,pw⟩;refine diN fun s2 hs2=>?_;subst hs2;refine sad rfl rfl rfl LL ?_;refine goE ?_;refine nl ⟨b++w,⟨by (try simp only [List.length_append,List.length_cons,List.length_nil]); omega,(by repeat (first|assumption|refine Pg.app ?_ ?_))⟩,(tl3 rfl rfl rfl),.refl _⟩
  by_cases o6:rk op < 5∧1 < rows.length
  ·obtain ⟨o6,hl1⟩:=o6;have hl0:0 < rows.length:=by omega
   obtain ⟨r0,hr0,hgr⟩:=hg0 0 hl0;obtain ⟨p1,p2,p3,p4,p5,rfl⟩:=GE_row hgr;obtain ⟨r1,hr1,hgr1⟩:=hg0 1 hl1;obtain ⟨q1,q2,q3,q4,q5,rfl⟩:=GE_row hgr1;have ho:=h4 o6;obtain ⟨m,hm,hm2⟩:∃ m:Nat,op - 6=(m:Int)∧m < 12:=⟨(op - 6).toNat,by omega,by omega⟩;obtain ⟨b,hb,bl,pb⟩:=signs_get m hm2;refine goD ?_;refine bsh (cs:=signs) rfl rfl rfl rfl rfl ?_;refine goE ?_;refine nl ?_;refine goC ?_;refine rg ?_;refine goE ?_;refine nl ?_;refine cut (α:=Int) (fun x=>[(8,.int .i64 x),(7,.view 1 (chunk (0 + 1) 12 signs) .shared),(5,.int .i64 (rk op)),(2,.eptr 6 [exRow op num name field (.view 6 rows .shared)] 0 0),(1,.int .i64 least)]) (fun _=>st) (fun x=>0≤x∧x≤6) ?_ ?_
   ·by_cases r1:rk op=1
    ·refine goD ?_;exact ⟨2,⟨by decide,by decide⟩,(tl5 rfl rfl rfl rfl rfl),.refl _⟩
    ·refine goD ?_;exact ⟨rk op,⟨by omega,by omega⟩,(tl5 rfl rfl rfl rfl rfl),.refl _⟩
   intro x hx;apply AWP.drawI (hm:=rfl) (k:=22) (I:=fun x=>x=st) (hI:=rfl)
   case hok=>rfl
   repeat (first|apply diQ (hd:=rfl) (hw:=rfl) (h:=fun _ _=>ZA (z:=nz))|apply diQ (hd:=rfl) (hw:=rfl) (h:=fun _ _=>ZD (z:=nz))|apply diQ (hd:=rfl) (hw:=rfl) (h:=fun _ _=>ZF (z:=nz))|apply diQ (hd:=rfl) (hw:=rfl) (h:=fun _ _=>ZC (z:=nz))|apply diQ (hd:=rfl) (hw:=rfl) (h:=fun _ _=>ZM (z:=nz)))
   apply diE (Q:=fun v=>∃ w:List UInt8,v=.str w∧LP (eL d) w) (hd:=rfl) (hw:=rfl) (hex:=⟨_,[],rfl,Nat.zero_le _,rfl⟩) (h:=fun x hx'=>by subst hx'; exact cl rfl rfl (ih _ hgr _ (by omega) (by omega) x) fun v s' hv=>nl ⟨v,rfl,hv⟩);rintro v ⟨w,rfl,wl,pw⟩;apply diE (Q:=fun v=>∃ w:List UInt8,v=.str w∧LP (eL d + 1) w) (hd:=rfl) (hw:=rfl) (hex:=⟨_,[],rfl,Nat.zero_le _,rfl⟩) (h:=fun x hx=>sad rfl rfl rfl LL (nl ⟨_,rfl,⟨_,rfl,by (try simp only [List.length_append,List.length_cons,List.length_nil]); omega,(by repeat (first|assumption|exact rfl|refine Pg.app ?_ ?_))⟩,hx⟩));rintro v ⟨w2,rfl,wl2,pw2⟩;repeat (first|apply diQ (hd:=rfl) (hw:=rfl) (h:=fun _ _=>ZA (z:=nz))|apply diQ (hd:=rfl) (hw:=rfl) (h:=fun _ _=>ZF (z:=nz))|apply diQ (hd:=rfl) (hw:=rfl) (h:=fun _ _=>ZC (z:=nz))|apply diQ (hd:=rfl) (hw:=rfl) (h:=fun _ _=>YK (z:=nz)))
   rw [hm];apply diQ (hd:=rfl) (hw:=rfl) (h:=fun _ _=>ix (m:=m) rfl rfl rfl rfl (by exact hm2) nz);repeat (apply diQ (hd:=rfl) (hw:=rfl) (h:=fun _ _=>ZF (z:=nz)))
   apply diE (Q:=fun v=>∃ w:List UInt8,v=.str w∧LP (eL d + 3) w) (hd:=rfl) (hw:=rfl) (hex:=⟨_,[],rfl,Nat.zero_le _,rfl⟩) (h:=fun x hx=>sad rfl rfl rfl LL (nl ⟨_,rfl,⟨_,rfl,by (try simp only [List.length_append,List.length_cons,List.length_nil]); omega,(by repeat (first|assumption|refine Pg.app ?_ ?_))⟩,hx⟩));rintro v ⟨w3,rfl,wl3,pw3⟩;apply diE (Q:=fun v=>∃ w:List UInt8,v=.str w∧LP (eL d + 4) w) (hd:=rfl) (hw:=rfl) (hex:=⟨_,[],rfl,Nat.zero_le _,rfl⟩) (h:=fun x hx=>sad rfl rfl rfl LL (nl ⟨_,rfl,⟨_,rfl,by (try simp only [List.length_append,List.length_cons,List.length_nil]); omega,(by repeat (first|assumption|exact rfl|refine Pg.app ?_ ?_))⟩,hx⟩));rintro v ⟨w4,rfl,wl4,pw4⟩;repeat (first|apply diQ (hd:=rfl) (hw:=rfl) (h:=fun _ _=>ZA (z:=nz))|apply diQ (hd:=rfl) (hw:=rfl) (h:=fun _ _=>ZD (z:=nz))|apply diQ (hd:=rfl) (hw:=rfl) (h:=fun _ _=>ZF (z:=nz))|apply diQ (hd:=rfl) (hw:=rfl) (h:=fun _ _=>ZC (z:=nz))|apply diQ (hd:=rfl) (hw:=rfl) (h:=fun _ _=>ZM (z:=nz))|apply diQ (hd:=rfl) (hw:=rfl) (h:=fun _ _=>YJ (z:=nz)))
   apply diE (Q:=fun v=>∃ w:List UInt8,v=.str w∧LP (eL d) w) (hd:=rfl) (hw:=rfl) (hex:=⟨_,[],rfl,Nat.zero_le _,rfl⟩) (h:=fun x hx'=>by subst hx'; exact cl rfl rfl (ih _ hgr1 _ (by omega) (by omega) x) fun v s' hv=>nl ⟨v,rfl,hv⟩);rintro v ⟨w5,rfl,wl5,pw5⟩;refine diN fun s2 hs2=>?_;subst hs2;refine sad rfl rfl rfl LL ?_;refine goE ?_;refine nl ⟨w4++w5,⟨by (try simp only [List.length_append,List.length_cons,List.length_nil]); omega,(by repeat (first|assumption|refine Pg.app ?_ ?_))⟩,(tl3 rfl rfl rfl),.refl _⟩
  by_cases e3:op=3
  ·have hn:¬ 0 < rows.length:=fun h=>o3 ⟨e3,h⟩
   have hr6:rk op=6:=by rw [e3]; rfl
   refine goD ?_;exact ⟨name,⟨by omega,pn⟩,(tl3 rfl rfl rfl),.refl _⟩
  by_cases e5:rk op=5
  ·have hn:¬ 0 < rows.length:=fun h=>o5 ⟨e5,h⟩;refine goD ?_;exact ⟨name,⟨by omega,pn⟩,(tl3 rfl rfl rfl),.refl _⟩
  by_cases e6:rk op < 5
  ·have hn:¬ 1 < rows.length:=fun h=>o6 ⟨e6,h⟩;refine goD ?_;exact ⟨name,⟨by omega,pn⟩,(tl3 rfl rfl rfl),.refl _⟩
  refine goD ?_;exact ⟨name,⟨by omega,pn⟩,(tl3 rfl rfl rfl),.refl _⟩
 ·rintro w ⟨hw,pw⟩;have:=eL4 (d + 1) (by omega);by_cases hlt:rk op < least
  ·refine goD ?_;refine sad rfl rfl rfl LL ?_
   skip
   refine sad rfl rfl rfl LL ?_;refine goD ?_;exact AWP.ret (rets rfl (.refl _) (.refl _) ⟨⟨_,rfl,by (try simp only [List.length_append,List.length_cons,List.length_nil]); omega,(by repeat (first|assumption|exact rfl|refine Pg.app ?_ ?_))⟩,rfl⟩)
  ·refine goD ?_;exact AWP.ret (rets rfl (.refl _) (.refl _) ⟨⟨w,rfl,by omega,pw⟩,rfl⟩)
end Go.Proofs
namespace Go.AM
section
variable {P:Program} {n:Nat} {K:Post} {E:EPost} {T:Tmps} {st:St} {ops:Array Oper} {rest:List Oper}
variable {ty:TypeId} {pos:String} {es:Array Edge} {gd:Option (Nat × Bool)} {d:Tmp} {x y:Operand} {dd:Option Tmp}
theorem sadP {t u:TypeId} {a b:List UInt8} (hg:goes ops n T ⟨dd,.binOp .add t x y u,ty,pos,es,gd⟩=some d)
  (hx:ev st T x=some (.str a)) (hy:ev st T y=some (.str b)) (hl:a.length + b.length≤9223372036854775807) (ha:Go.Proofs.Pg a=true) (hb:Go.Proofs.Pg b=true)
  (h:∀ w:List UInt8,w.length=a.length + b.length→Go.Proofs.Pg w=true→AOps P n ops rest K E ((d,.str w)::T) st):AOps P n ops (⟨dd,.binOp .add t x y u,ty,pos,es,gd⟩::rest) K E T st :=
 sad hg hx hy hl (h (a++b) (List.length_append ..) (Go.Proofs.Pg.app ha hb))
end
end Go.AM
namespace Go.Proofs
open Go.AM
attribute [local irreducible] AWP AOps ACalls AAny
set_option linter.unusedSimpArgs false

theorem exprt_ok:∀ d,d≤4→ExprT d
 | 0,_=>fun _ hg=>hg.elim
 | d + 1,h=>exprt_step d (by omega) (exprt_ok d (by omega))
theorem list_ok (rows:List (List AV)) (hg:∀ r ∈ rows,GE 4 r) (hl:rows.length≤4) (k:Go.AM.Tok) (st:St) :
  ACalls Tryz.prog 94 [.view 6 rows k] st (fun v st'=>(∃ w:List UInt8,v=.str w∧LP (44000) w)∧st'=st) (fun _ _=>False):=by
 refine ACalls.ofBody Tryz.func94 rfl Tryz.ntmps94 rfl ?_;have hE:=eL4 4 (by omega);refine goD ?_;refine AWP.loop (α:=Nat × List UInt8) (fun x=>[(8,.int .i64 (x.1:Int)),(7,.int .i64 (rows.length:Int)),(6,.view 6 rows k),(3,.str x.2)]) (fun _=>st) (fun x=>x.1≤rows.length∧x.2.length≤11000 * x.1∧Pg x.2=true) (fun x=>rows.length - x.1)
  (0,[]) ⟨Nat.zero_le _,Nat.zero_le _,rfl⟩ (tl4 rfl rfl rfl rfl) (.refl _) ?_
 rintro ⟨i,s⟩ ⟨hi,hs,ps⟩;simp only at hi hs ps;refine AWP.weaken (T':=[(8,.int .i64 (i:Int)),(7,.int .i64 (rows.length:Int)),(6,.view 6 rows k),(3,.str s)]) (tl4 rfl rfl rfl rfl) (.refl _) ?_;refine goD ?_;refine AWP.cond_dec rfl (fun h=>AWP.skip ?_) (fun h=>AWP.exit (blk_hit ?_))
 ·have hlt:i < rows.length:=by have:(i:Int) < (rows.length:Int):=h; omega
  obtain ⟨r,hr,hgr⟩:∃ r,rows[i]?=some r∧GE 4 r:=⟨_,List.getElem?_eq_getElem hlt,hg _ (List.getElem_mem hlt)⟩;obtain ⟨p1,p2,p3,p4,p5,rfl⟩:=GE_row hgr;refine goD ?_;refine al rfl rfl fun o ho=>?_;refine sm rfl ?_;refine soV rfl rfl rfl rfl rfl rfl ?_;by_cases h0:(0:Int) < (i:Int)
  ·repeat (first|(refine Go.AM.sadP rfl rfl rfl LL (by repeat (first|assumption|exact rfl|refine Go.Proofs.Pg.app ?_ ?_)) (by repeat (first|assumption|exact rfl|refine Go.Proofs.Pg.app ?_ ?_)) (fun w hw pw=>?_); try simp only [List.length_append,List.length_cons,List.length_nil] at hw)|refine nl ?_|refine AWP.seq ?_|refine rg ?_|refine YH (z:=?_)|refine ZA (z:=?_)|refine ZE (z:=?_))
   refine cl rfl rfl (exprt_ok 4 (by decide) _ hgr 1 (by decide) (by decide) _) fun v s' ⟨⟨w2,hv,hw2,pw2⟩,hs2⟩=>?_;subst hv hs2;repeat (first|(refine Go.AM.sadP rfl rfl rfl LL (by repeat (first|assumption|exact rfl|refine Go.Proofs.Pg.app ?_ ?_)) (by repeat (first|assumption|exact rfl|refine Go.Proofs.Pg.app ?_ ?_)) (fun w hw pw=>?_); try simp only [List.length_append,List.length_cons,List.length_nil] at hw)|refine nl ?_|refine rg ?_|refine ZA (z:=?_)|refine ZO (z:=?_))
   exact ⟨(i + 1,_),⟨hlt,by simp only; omega,(by repeat (assumption))⟩,by simp only; omega,(tl4 rfl rfl rfl rfl),StLe.new ho (.refl _)⟩
  ·repeat (first|refine nl ?_|refine AWP.seq ?_|refine rg ?_|refine AWP.skip ?_|refine YI (z:=?_)|refine ZA (z:=?_)|refine ZE (z:=?_))
   refine cl rfl rfl (exprt_ok 4 (by decide) _ hgr 1 (by decide) (by decide) _) fun v s' ⟨⟨w2,hv,hw2,pw2⟩,hs2⟩=>?_;subst hv hs2;repeat (first|(refine Go.AM.sadP rfl rfl rfl LL (by repeat (first|assumption|exact rfl|refine Go.Proofs.Pg.app ?_ ?_)) (by repeat (first|assumption|exact rfl|refine Go.Proofs.Pg.app ?_ ?_)) (fun w hw pw=>?_); try simp only [List.length_append,List.length_cons,List.length_nil] at hw)|refine nl ?_|refine rg ?_|refine ZA (z:=?_)|refine ZO (z:=?_))
   exact ⟨(i + 1,_),⟨hlt,by simp only; omega,(by repeat (assumption))⟩,by simp only; omega,(tl4 rfl rfl rfl rfl),StLe.new ho (.refl _)⟩
 ·refine goD ?_;exact AWP.ret (rets rfl (.refl _) (.refl _) ⟨⟨s,rfl,by omega,ps⟩,rfl⟩)
theorem value_ok (kind len:Int) (name typ fn:List UInt8) (tg body els:AV) (args:List (List AV)) (hf:LP 30 fn) (hg:∀ r ∈ args,GE 4 r) (hl:args.length≤4) (st:St) :
  ACalls Tryz.prog 63 [.agg (stRow kind len name typ fn tg (vw 6 args) body els)] st (fun v st'=>(∃ w:List UInt8,v=.str w∧LP (45000) w)∧st'=st) (fun _ _=>False):=by
 obtain ⟨hf,pfn⟩:=hf;refine ACalls.ofBody Tryz.func63 rfl Tryz.ntmps63 rfl ?_;refine goD ?_;refine AWP.cond_dec rfl (fun h=>?_) (fun h=>AWP.skip ?_)
 ·refine goC ?_;apply AWP.drawI (hm:=rfl) (k:=6) (I:=fun x=>x=st) (hI:=rfl)
  case hok=>rfl
  repeat (first|apply diQ (hd:=rfl) (hw:=rfl) (h:=fun _ _=>ZF (z:=nz))|apply diQ (hd:=rfl) (hw:=rfl) (h:=fun _ _=>ZC (z:=nz)))
  apply diQ (hd:=rfl) (hw:=rfl) (h:=fun _ _=>sad rfl rfl rfl (by simp only [List.length_cons,List.length_nil]; omega) nz);repeat (first|apply diQ (hd:=rfl) (hw:=rfl) (h:=fun _ _=>ZF (z:=nz))|apply diQ (hd:=rfl) (hw:=rfl) (h:=fun _ _=>ZC (z:=nz)))
  apply diE (Q:=fun v=>∃ w:List UInt8,v=.str w∧LP (44000) w) (hd:=rfl) (hw:=rfl) (hex:=⟨_,[],rfl,Nat.zero_le _,rfl⟩) (h:=fun x hx=>by subst hx; exact cl rfl rfl (list_ok args hg hl _ x) fun v s' hv=>nl ⟨v,rfl,hv⟩);rintro v ⟨w,rfl,wl,pw⟩;refine diN fun s2 hs2=>?_;subst hs2;repeat (first|(refine Go.AM.sadP rfl rfl rfl LL (by repeat (first|assumption|exact rfl|refine Go.Proofs.Pg.app ?_ ?_)) (by repeat (first|assumption|exact rfl|refine Go.Proofs.Pg.app ?_ ?_)) (fun w hw pw=>?_); try simp only [List.length_append,List.length_cons,List.length_nil] at hw)|refine nl ?_|refine ZA (z:=?_))
  exact AWP.ret (rets rfl (.refl _) (.refl _) ⟨⟨_,rfl,by omega,(by repeat (assumption))⟩,rfl⟩)
 ·refine goD ?_;refine cl rfl rfl (list_ok args hg hl _ st) fun v s' ⟨⟨w2,hv,hw2,pw2⟩,hs2⟩=>?_;subst hv hs2;refine goD ?_;exact AWP.ret (rets rfl (.refl _) (.refl _) ⟨⟨w2,rfl,by omega,pw2⟩,rfl⟩)
end Go.Proofs
namespace Go.Proofs
open Go.AM
attribute [local irreducible] AWP AOps ACalls AAny
set_option linter.unusedSimpArgs false
def sB:Nat→Nat
 | 0=>0
 | d + 1=>100000 + 120 * sB d
theorem sB4:∀ d,d≤4→sB d≤200000000000
 | 0,_=>by decide
 | 1,_=>by decide
 | 2,_=>by decide
 | 3,_=>by decide
 | 4,_=>by decide
def BlockT (d:Nat):Prop:=∀ (rows:List (List AV)),(∀ r ∈ rows,GS d r)→rows.length≤60→∀ (tabs:List UInt8),tabs.length + d≤10→Pg tabs=true→∀ (k:Go.AM.Tok) (st:St),
 ACalls Tryz.prog 34 [.view 13 rows k,.str tabs] st (fun v st'=>(∃ w:List UInt8,v=.str w∧LP (rows.length * sB d) w)∧st'=st) (fun _ _=>False)
set_option maxRecDepth 4000 in
set_option maxHeartbeats 40000000 in
theorem block_step (d:Nat) (hd:d≤3) (ih:BlockT d):BlockT (d + 1):=by
 intro rows hg hl tabs ht pt k st;have hB4:=sB4 d (by omega)
 have e1:sB (d + 1)=100000 + 120 * sB d:=rfl
 have hihb:∀ b:List (List AV),(∀ r ∈ b,GS d r)→b.length≤60→∀ w:List UInt8,w.length + d≤10→Pg w=true→∀ k st,ACalls Tryz.prog 34 [.view 13 b k,.str w] st (fun v st'=>(∃ w:List UInt8,v=.str w∧LP (60 * sB d) w)∧st'=st) (fun _ _=>False):=fun b hb hbl w hw pw k st =>
  (ih b hb hbl w hw pw k st).mono (fun v s' ⟨⟨w2,h1,h2,p2⟩,h3⟩=>⟨⟨w2,h1,Nat.le_trans h2 (Nat.mul_le_mul_right _ hbl),p2⟩,h3⟩) (fun _ _ h=>h)
 have hB60:60 * sB d≤12000000000000:=by omega
 generalize hbb:60 * sB d=bb at hihb hB60;have e2:sB (d + 1)=100000 + 2 * bb:=by omega
 clear e1 hbb ih;refine ACalls.ofBody Tryz.func34 rfl Tryz.ntmps34 rfl ?_;refine goD ?_;refine AWP.loop (α:=Nat × List UInt8) (fun x=>[(12,.int .i64 (x.1:Int)),(11,.int .i64 (rows.length:Int)),(10,.view 13 rows k),(5,.str x.2),(1,.str tabs)]) (fun _=>st) (fun x=>x.1≤rows.length∧x.2.length≤x.1 * sB (d + 1)∧Pg x.2=true) (fun x=>rows.length - x.1)
  (0,[]) ⟨Nat.zero_le _,by simp,rfl⟩ (tl5 rfl rfl rfl rfl rfl) (.refl _) ?_
 rintro ⟨i,s⟩ ⟨hi,hs,ps⟩;simp only at hi hs ps;refine AWP.weaken (T':=[(12,.int .i64 (i:Int)),(11,.int .i64 (rows.length:Int)),(10,.view 13 rows k),(5,.str s),(1,.str tabs)]) (tl5 rfl rfl rfl rfl rfl) (.refl _) ?_;have him:i * sB (d + 1)≤60 * (100000 + 2 * bb):=by rw [e2]; exact Nat.mul_le_mul_right _ (by omega)
 have his:(i + 1) * sB (d + 1)=i * sB (d + 1) + (100000 + 2 * bb):=by rw [Nat.add_mul,Nat.one_mul,e2]
 have hsl:s.length≤2000000000000000:=by omega
 have hfin:∀ w:List UInt8,w.length≤s.length + (100000 + 2 * bb)→w.length≤(i + 1) * sB (d + 1):=fun w hw=>by rw [his]; omega
 clear his him e2;refine goD ?_;refine AWP.cond_dec rfl (fun h=>AWP.skip ?_) (fun h=>AWP.exit (blk_hit ?_))
 ·have hlt:i < rows.length:=by have:(i:Int) < (rows.length:Int):=h; omega
  obtain ⟨r,hr,hgr⟩:∃ r,rows[i]?=some r∧GS (d + 1) r:=⟨_,List.getElem?_eq_getElem hlt,hg _ (List.getElem_mem hlt)⟩;obtain ⟨kind,len,name,typ,fn,tg,args,body,els,rfl,q1,q2,q3,q4,q5,q6,q7,q8,q9,q10,q11,q12,q13,q14,q15⟩:=hgr;have hval:=fun st=>value_ok kind len name typ fn (vw 6 tg) (vw 13 body) (vw 13 els) args q7 q13 q9 st;refine goD ?_;refine AWP.cutK (α:=List UInt8) (fun tgt=>[(12,.int .i64 (i:Int)),(11,.int .i64 (rows.length:Int)),(10,.view 13 rows k),(8,.str tgt),(7,.eptr 13 [stRow kind len name typ fn (vw 6 tg) (vw 6 args) (vw 13 body) (vw 13 els)] 0 0),(5,.str s),(1,.str tabs)]) (fun _=>st) (fun w=>LP (11000) w) ?_ ?_
  ·refine AWP.cond_dec rfl (fun h=>?_) (fun h=>AWP.skip ⟨[],by decide,(tl7 rfl rfl rfl rfl rfl rfl rfl),.refl _⟩);have htl:0 < tg.length:=by have:(0:Int) < (tg.length:Int):=h; omega
   obtain ⟨r0,hr0,hgr0⟩:∃ r,tg[0]?=some r∧GE 4 r:=⟨_,List.getElem?_eq_getElem htl,q12 _ (List.getElem_mem htl)⟩;obtain ⟨p1,p2,p3,p4,p5,rfl⟩:=GE_row hgr0;have hE:=eL4 4 (by omega);refine goD ?_;refine cl rfl rfl (exprt_ok 4 (by decide) _ hgr0 1 (by decide) (by decide) st) fun v s' ⟨⟨w2,hv,hw2,pw2⟩,hs2⟩=>?_;subst hv hs2;repeat (first|(refine Go.AM.sadP rfl rfl rfl LL (by repeat (first|assumption|exact rfl|refine Go.Proofs.Pg.app ?_ ?_)) (by repeat (first|assumption|exact rfl|refine Go.Proofs.Pg.app ?_ ?_)) (fun w hw pw=>?_); try simp only [List.length_append,List.length_cons,List.length_nil] at hw)|refine nl ?_|refine ZA (z:=?_))
   exact ⟨_,⟨by omega,by assumption⟩,(tl7 rfl rfl rfl rfl rfl rfl rfl),.refl _⟩
  intro tgt htgt;obtain ⟨q5,p5⟩:=q5;obtain ⟨htgt,ptgt⟩:=htgt;by_cases k1:kind=1
  ·refine goD ?_;refine AWP.cutK (α:=List UInt8) (fun w9=>[(9,.str w9),(12,.int .i64 (i:Int)),(11,.int .i64 (rows.length:Int)),(10,.view 13 rows k),(8,.str tgt),(7,.eptr 13 [stRow kind len name typ fn (vw 6 tg) (vw 6 args) (vw 13 body) (vw 13 els)] 0 0),(5,.str s),(1,.str tabs)]) (fun _=>st) (fun w=>LP (30) w) ?_ ?_
   ·refine AWP.cond_dec rfl (fun h=>?_) (fun h=>AWP.skip ⟨typ,q6,(tl8 rfl rfl rfl rfl rfl rfl rfl rfl),.refl _⟩);refine goD ?_;exact ⟨_,by decide,(tl8 rfl rfl rfl rfl rfl rfl rfl rfl),.refl _⟩
   rintro w9 ⟨hw9,pw9⟩;refine goD ?_;refine AWP.cutK (α:=List UInt8) (fun w9=>[(9,.str w9),(12,.int .i64 (i:Int)),(11,.int .i64 (rows.length:Int)),(10,.view 13 rows k),(8,.str tgt),(7,.eptr 13 [stRow kind len name typ fn (vw 6 tg) (vw 6 args) (vw 13 body) (vw 13 els)] 0 0),(5,.str s),(1,.str tabs)]) (fun _=>st) (fun w=>LP (30) w) ?_ ?_
   ·refine AWP.cond_dec rfl (fun h=>?_) (fun h=>AWP.skip ⟨w9,⟨hw9,pw9⟩,(tl8 rfl rfl rfl rfl rfl rfl rfl rfl),.refl _⟩);refine goD ?_;obtain ⟨m,rfl⟩:∃ m:Nat,len=(m:Int):=⟨len.toNat,by omega⟩;refine cle rfl rfl (digits_ok 18 m (by omega) (by decide) (by decide) st) ?_;have hdl:=digs_len 18 m
    have hdp:=digs_pg 18 m;repeat (first|(refine Go.AM.sadP rfl rfl rfl LL (by repeat (first|assumption|exact rfl|refine Go.Proofs.Pg.app ?_ ?_)) (by repeat (first|assumption|exact rfl|refine Go.Proofs.Pg.app ?_ ?_)) (fun w hw pw=>?_); try simp only [List.length_append,List.length_cons,List.length_nil] at hw)|refine nl ?_|refine ZA (z:=?_))
    exact ⟨_,⟨by omega,by assumption⟩,(tl8 rfl rfl rfl rfl rfl rfl rfl rfl),.refl _⟩
   rintro w10 ⟨hw10,pw10⟩;repeat (first|(refine Go.AM.sadP rfl rfl rfl LL (by repeat (first|assumption|exact rfl|refine Go.Proofs.Pg.app ?_ ?_)) (by repeat (first|assumption|exact rfl|refine Go.Proofs.Pg.app ?_ ?_)) (fun w hw pw=>?_); try simp only [List.length_append,List.length_cons,List.length_nil] at hw)|refine nl ?_|refine rg ?_|refine ZA (z:=?_)|refine ZC (z:=?_)|refine ZF (z:=?_)|refine ZO (z:=?_))
   exact ⟨(i + 1,_),⟨hlt,hfin _ (by (try simp only); omega),(by repeat (assumption))⟩,by simp only; omega,(tl5 rfl rfl rfl rfl rfl),.refl _⟩
  by_cases k2:kind=2∨kind=3
  ·rcases k2 with k2|k2
   ·repeat (first|(refine Go.AM.sadP rfl rfl rfl LL (by repeat (first|assumption|exact rfl|refine Go.Proofs.Pg.app ?_ ?_)) (by repeat (first|assumption|exact rfl|refine Go.Proofs.Pg.app ?_ ?_)) (fun w hw pw=>?_); try simp only [List.length_append,List.length_cons,List.length_nil] at hw)|refine nl ?_|refine AWP.seq ?_|refine rg ?_|refine AWP.skip ?_|refine AWP.block ?_|refine YH (z:=?_)|refine YI (z:=?_)|refine ZA (z:=?_)|refine ZC (z:=?_)|refine ZD (z:=?_)|refine ZF (z:=?_))
    refine cl rfl rfl (hval st) fun v s' ⟨⟨wv,hv,hwv,pwv⟩,hs2⟩=>?_;subst hv hs2;repeat (first|(refine Go.AM.sadP rfl rfl rfl LL (by repeat (first|assumption|exact rfl|refine Go.Proofs.Pg.app ?_ ?_)) (by repeat (first|assumption|exact rfl|refine Go.Proofs.Pg.app ?_ ?_)) (fun w hw pw=>?_); try simp only [List.length_append,List.length_cons,List.length_nil] at hw)|refine nl ?_|refine rg ?_|refine ZA (z:=?_)|refine ZO (z:=?_))
    exact ⟨(i + 1,_),⟨hlt,hfin _ (by (try simp only); omega),(by repeat (assumption))⟩,by simp only; omega,(tl5 rfl rfl rfl rfl rfl),.refl _⟩
   ·repeat (first|(refine Go.AM.sadP rfl rfl rfl LL (by repeat (first|assumption|exact rfl|refine Go.Proofs.Pg.app ?_ ?_)) (by repeat (first|assumption|exact rfl|refine Go.Proofs.Pg.app ?_ ?_)) (fun w hw pw=>?_); try simp only [List.length_append,List.length_cons,List.length_nil] at hw)|refine nl ?_|refine AWP.seq ?_|refine rg ?_|refine AWP.block ?_|refine YH (z:=?_)|refine YI (z:=?_)|refine ZA (z:=?_)|refine ZC (z:=?_)|refine ZD (z:=?_)|refine ZF (z:=?_))
    refine cl rfl rfl (hval st) fun v s' ⟨⟨wv,hv,hwv,pwv⟩,hs2⟩=>?_;subst hv hs2;repeat (first|(refine Go.AM.sadP rfl rfl rfl LL (by repeat (first|assumption|exact rfl|refine Go.Proofs.Pg.app ?_ ?_)) (by repeat (first|assumption|exact rfl|refine Go.Proofs.Pg.app ?_ ?_)) (fun w hw pw=>?_); try simp only [List.length_append,List.length_cons,List.length_nil] at hw)|refine nl ?_|refine rg ?_|refine ZA (z:=?_)|refine ZO (z:=?_))
    exact ⟨(i + 1,_),⟨hlt,hfin _ (by (try simp only); omega),(by repeat (assumption))⟩,by simp only; omega,(tl5 rfl rfl rfl rfl rfl),.refl _⟩
  by_cases k6:kind=6
  ·repeat (first|(refine Go.AM.sadP rfl rfl rfl LL (by repeat (first|assumption|exact rfl|refine Go.Proofs.Pg.app ?_ ?_)) (by repeat (first|assumption|exact rfl|refine Go.Proofs.Pg.app ?_ ?_)) (fun w hw pw=>?_); try simp only [List.length_append,List.length_cons,List.length_nil] at hw)|refine nl ?_|refine AWP.seq ?_|refine rg ?_|refine AWP.block ?_|refine YH (z:=?_)|refine YI (z:=?_)|refine ZA (z:=?_)|refine ZC (z:=?_)|refine ZD (z:=?_)|refine ZF (z:=?_))
   refine cl rfl rfl (hval st) fun v s' ⟨⟨wv,hv,hwv,pwv⟩,hs2⟩=>?_;subst hv hs2;repeat (first|(refine Go.AM.sadP rfl rfl rfl LL (by repeat (first|assumption|exact rfl|refine Go.Proofs.Pg.app ?_ ?_)) (by repeat (first|assumption|exact rfl|refine Go.Proofs.Pg.app ?_ ?_)) (fun w hw pw=>?_); try simp only [List.length_append,List.length_cons,List.length_nil] at hw)|refine nl ?_|refine rg ?_|refine ZA (z:=?_)|refine ZO (z:=?_))
   exact ⟨(i + 1,_),⟨hlt,hfin _ (by (try simp only); omega),(by repeat (assumption))⟩,by simp only; omega,(tl5 rfl rfl rfl rfl rfl),.refl _⟩
  by_cases k7:kind=7
  ·repeat (first|(refine Go.AM.sadP rfl rfl rfl LL (by repeat (first|assumption|exact rfl|refine Go.Proofs.Pg.app ?_ ?_)) (by repeat (first|assumption|exact rfl|refine Go.Proofs.Pg.app ?_ ?_)) (fun w hw pw=>?_); try simp only [List.length_append,List.length_cons,List.length_nil] at hw)|refine nl ?_|refine AWP.seq ?_|refine rg ?_|refine AWP.block ?_|refine YH (z:=?_)|refine YI (z:=?_)|refine ZA (z:=?_)|refine ZC (z:=?_)|refine ZD (z:=?_)|refine ZF (z:=?_))
   refine cl rfl rfl (hval st) fun v s' ⟨⟨wv,hv,hwv,pwv⟩,hs2⟩=>?_;subst hv hs2;repeat (first|(refine Go.AM.sadP rfl rfl rfl LL (by repeat (first|assumption|exact rfl|refine Go.Proofs.Pg.app ?_ ?_)) (by repeat (first|assumption|exact rfl|refine Go.Proofs.Pg.app ?_ ?_)) (fun w hw pw=>?_); try simp only [List.length_append,List.length_cons,List.length_nil] at hw)|refine nl ?_|refine rg ?_|refine ZA (z:=?_)|refine ZO (z:=?_))
   exact ⟨(i + 1,_),⟨hlt,hfin _ (by (try simp only); omega),(by repeat (assumption))⟩,by simp only; omega,(tl5 rfl rfl rfl rfl rfl),.refl _⟩
  by_cases k9:kind=9
  ·repeat (first|(refine Go.AM.sadP rfl rfl rfl LL (by repeat (first|assumption|exact rfl|refine Go.Proofs.Pg.app ?_ ?_)) (by repeat (first|assumption|exact rfl|refine Go.Proofs.Pg.app ?_ ?_)) (fun w hw pw=>?_); try simp only [List.length_append,List.length_cons,List.length_nil] at hw)|refine nl ?_|refine AWP.seq ?_|refine rg ?_|refine AWP.block ?_|refine YH (z:=?_)|refine YI (z:=?_)|refine ZA (z:=?_)|refine ZC (z:=?_)|refine ZD (z:=?_)|refine ZF (z:=?_))
   refine cl rfl rfl (hval st) fun v s' ⟨⟨wv,hv,hwv,pwv⟩,hs2⟩=>?_;subst hv hs2;repeat (first|(refine Go.AM.sadP rfl rfl rfl LL (by repeat (first|assumption|exact rfl|refine Go.Proofs.Pg.app ?_ ?_)) (by repeat (first|assumption|exact rfl|refine Go.Proofs.Pg.app ?_ ?_)) (fun w hw pw=>?_); try simp only [List.length_append,List.length_cons,List.length_nil] at hw)|refine nl ?_|refine rg ?_|refine ZA (z:=?_)|refine ZO (z:=?_))
   exact ⟨(i + 1,_),⟨hlt,hfin _ (by (try simp only); omega),(by repeat (assumption))⟩,by simp only; omega,(tl5 rfl rfl rfl rfl rfl),.refl _⟩
  by_cases k4:kind=4
  ·refine goD ?_;apply AWP.drawI (hm:=rfl) (k:=13) (I:=fun x=>x=st) (hI:=rfl)
   case hok=>rfl
   repeat (apply diQ (hd:=rfl) (hw:=rfl) (h:=fun _ _=>ZA (z:=nz)))
   apply diQ (hd:=rfl) (hw:=rfl) (h:=fun _ _=>sad rfl rfl rfl LL nz)
   skip
   apply diQ (hd:=rfl) (hw:=rfl) (h:=fun _ _=>sad rfl rfl rfl LL nz);repeat (apply diQ (hd:=rfl) (hw:=rfl) (h:=fun _ _=>ZD (z:=nz)))
   apply diE (Q:=fun v=>∃ w:List UInt8,v=.str w∧LP (45000) w) (hd:=rfl) (hw:=rfl) (hex:=⟨_,[],rfl,Nat.zero_le _,rfl⟩) (h:=fun x hx=>by subst hx; exact cl rfl rfl (hval x) fun v s' hv=>nl ⟨v,rfl,hv⟩);rintro v ⟨w,rfl,hw,pw⟩;apply diE (Q:=fun v=>∃ w:List UInt8,v=.str w∧LP (s.length + tabs.length + 45010) w) (hd:=rfl) (hw:=rfl) (hex:=⟨_,[],rfl,Nat.zero_le _,rfl⟩) (h:=fun x hx=>sad rfl rfl rfl LL (nl ⟨_,rfl,⟨_,rfl,LL,(by repeat (first|assumption|exact rfl|refine Pg.app ?_ ?_))⟩,hx⟩));rintro v ⟨w,rfl,hw,pw⟩;apply diE (Q:=fun v=>∃ w:List UInt8,v=.str w∧LP (s.length + tabs.length + 45020) w) (hd:=rfl) (hw:=rfl) (hex:=⟨_,[],rfl,Nat.zero_le _,rfl⟩) (h:=fun x hx=>sad rfl rfl rfl LL (nl ⟨_,rfl,⟨_,rfl,LL,(by repeat (first|assumption|exact rfl|refine Pg.app ?_ ?_))⟩,hx⟩));rintro v ⟨w,rfl,hw,pw⟩;repeat (first|apply diQ (hd:=rfl) (hw:=rfl) (h:=fun _ _=>ZA (z:=nz))|apply diQ (hd:=rfl) (hw:=rfl) (h:=fun _ _=>ZF (z:=nz))|apply diQ (hd:=rfl) (hw:=rfl) (h:=fun _ _=>ZC (z:=nz)))
   apply diQ (hd:=rfl) (hw:=rfl) (h:=fun _ _=>sad rfl rfl rfl LL nz)
   skip
   apply diE (Q:=fun v=>∃ w:List UInt8,v=.str w∧LP (bb) w) (hd:=rfl) (hw:=rfl) (hex:=⟨_,[],rfl,Nat.zero_le _,rfl⟩) (h:=fun x hx=>by subst hx; exact cl rfl rfl (hihb body q14 q10 _ LL (by repeat (first|assumption|exact rfl|refine Pg.app ?_ ?_)) _ x) fun v s' hv=>nl ⟨v,rfl,hv⟩);rintro v ⟨w,rfl,hw,pw⟩;refine diN fun s2 hs2=>?_;subst hs2;repeat (first|(refine Go.AM.sadP rfl rfl rfl LL (by repeat (first|assumption|exact rfl|refine Go.Proofs.Pg.app ?_ ?_)) (by repeat (first|assumption|exact rfl|refine Go.Proofs.Pg.app ?_ ?_)) (fun w hw pw=>?_); try simp only [List.length_append,List.length_cons,List.length_nil] at hw)|refine nl ?_|refine AWP.seq ?_|refine rg ?_|refine ZA (z:=?_)|refine ZC (z:=?_)|refine ZF (z:=?_)|refine ZJ (z:=?_))
   rename_i w5 hw5 pw5;refine AWP.cutK (α:=List UInt8) (fun s=>[(12,.int .i64 (i:Int)),(11,.int .i64 (rows.length:Int)),(10,.view 13 rows k),(8,.str tgt),(7,.eptr 13 [stRow kind len name typ fn (vw 6 tg) (vw 6 args) (vw 13 body) (vw 13 els)] 0 0),(5,.str s),(1,.str tabs)]) (fun _=>s2) (fun w=>LP (s.length + 2 * tabs.length + 50000 + 2 * bb) w) ?_ ?_
   ·refine AWP.cond_dec rfl (fun h=>?_) (fun h=>AWP.skip ⟨_,?_,(tl7 rfl rfl rfl rfl rfl rfl rfl),.refl _⟩)
    ·repeat (first|(refine Go.AM.sadP rfl rfl rfl LL (by repeat (first|assumption|exact rfl|refine Go.Proofs.Pg.app ?_ ?_)) (by repeat (first|assumption|exact rfl|refine Go.Proofs.Pg.app ?_ ?_)) (fun w hw pw=>?_); try simp only [List.length_append,List.length_cons,List.length_nil] at hw)|refine rg ?_|refine ZA (z:=?_)|refine ZC (z:=?_)|refine ZF (z:=?_))
     refine cl rfl rfl (hihb els q15 q11 _ (by omega) (by assumption) _ s2) fun v s' ⟨⟨wv,hv,hwv,pwv⟩,hs2⟩=>?_;subst hv hs2;repeat (first|(refine Go.AM.sadP rfl rfl rfl LL (by repeat (first|assumption|exact rfl|refine Go.Proofs.Pg.app ?_ ?_)) (by repeat (first|assumption|exact rfl|refine Go.Proofs.Pg.app ?_ ?_)) (fun w hw pw=>?_); try simp only [List.length_append,List.length_cons,List.length_nil] at hw)|refine nl ?_|refine ZA (z:=?_))
     exact ⟨_,⟨by omega,by assumption⟩,(tl7 rfl rfl rfl rfl rfl rfl rfl),.refl _⟩
    ·exact ⟨by omega,by assumption⟩
   rintro s9 ⟨hs9,ps9⟩;repeat (first|(refine Go.AM.sadP rfl rfl rfl LL (by repeat (first|assumption|exact rfl|refine Go.Proofs.Pg.app ?_ ?_)) (by repeat (first|assumption|exact rfl|refine Go.Proofs.Pg.app ?_ ?_)) (fun w hw pw=>?_); try simp only [List.length_append,List.length_cons,List.length_nil] at hw)|refine nl ?_|refine rg ?_|refine ZA (z:=?_)|refine ZO (z:=?_))
   exact ⟨(i + 1,_),⟨hlt,hfin _ (by (try simp only); omega),(by repeat (assumption))⟩,by simp only; omega,(tl5 rfl rfl rfl rfl rfl),.refl _⟩
  by_cases k5:kind=5
  ·refine goD ?_;apply AWP.drawI (hm:=rfl) (k:=15) (I:=fun x=>x=st) (hI:=rfl)
   case hok=>rfl
   repeat (apply diQ (hd:=rfl) (hw:=rfl) (h:=fun _ _=>ZA (z:=nz)))
   apply diQ (hd:=rfl) (hw:=rfl) (h:=fun _ _=>sad rfl rfl rfl LL nz)
   skip
   apply diQ (hd:=rfl) (hw:=rfl) (h:=fun _ _=>sad rfl rfl rfl LL nz);repeat (apply diQ (hd:=rfl) (hw:=rfl) (h:=fun _ _=>ZD (z:=nz)))
   apply diE (Q:=fun v=>∃ w:List UInt8,v=.str w∧LP (45000) w) (hd:=rfl) (hw:=rfl) (hex:=⟨_,[],rfl,Nat.zero_le _,rfl⟩) (h:=fun x hx=>by subst hx; exact cl rfl rfl (hval x) fun v s' hv=>nl ⟨v,rfl,hv⟩);rintro v ⟨w,rfl,hw,pw⟩;apply diE (Q:=fun v=>∃ w:List UInt8,v=.str w∧LP (s.length + tabs.length + 45010) w) (hd:=rfl) (hw:=rfl) (hex:=⟨_,[],rfl,Nat.zero_le _,rfl⟩) (h:=fun x hx=>sad rfl rfl rfl LL (nl ⟨_,rfl,⟨_,rfl,LL,(by repeat (first|assumption|exact rfl|refine Pg.app ?_ ?_))⟩,hx⟩));rintro v ⟨w,rfl,hw,pw⟩;apply diE (Q:=fun v=>∃ w:List UInt8,v=.str w∧LP (s.length + tabs.length + 45020) w) (hd:=rfl) (hw:=rfl) (hex:=⟨_,[],rfl,Nat.zero_le _,rfl⟩) (h:=fun x hx=>sad rfl rfl rfl LL (nl ⟨_,rfl,⟨_,rfl,LL,(by repeat (first|assumption|exact rfl|refine Pg.app ?_ ?_))⟩,hx⟩));rintro v ⟨w,rfl,hw,pw⟩;repeat (first|apply diQ (hd:=rfl) (hw:=rfl) (h:=fun _ _=>ZA (z:=nz))|apply diQ (hd:=rfl) (hw:=rfl) (h:=fun _ _=>ZF (z:=nz))|apply diQ (hd:=rfl) (hw:=rfl) (h:=fun _ _=>ZC (z:=nz)))
   apply diQ (hd:=rfl) (hw:=rfl) (h:=fun _ _=>sad rfl rfl rfl LL nz)
   skip
   apply diE (Q:=fun v=>∃ w:List UInt8,v=.str w∧LP (bb) w) (hd:=rfl) (hw:=rfl) (hex:=⟨_,[],rfl,Nat.zero_le _,rfl⟩) (h:=fun x hx=>by subst hx; exact cl rfl rfl (hihb body q14 q10 _ LL (by repeat (first|assumption|exact rfl|refine Pg.app ?_ ?_)) _ x) fun v s' hv=>nl ⟨v,rfl,hv⟩);rintro v ⟨w,rfl,hw,pw⟩;apply diE (Q:=fun v=>∃ w:List UInt8,v=.str w∧LP (s.length + tabs.length + 45020 + bb) w) (hd:=rfl) (hw:=rfl) (hex:=⟨_,[],rfl,Nat.zero_le _,rfl⟩) (h:=fun x hx=>sad rfl rfl rfl LL (nl ⟨_,rfl,⟨_,rfl,LL,(by repeat (first|assumption|refine Pg.app ?_ ?_))⟩,hx⟩));rintro v ⟨w,rfl,hw,pw⟩;repeat (apply diQ (hd:=rfl) (hw:=rfl) (h:=fun _ _=>ZA (z:=nz)))
   refine diN fun s2 hs2=>?_;subst hs2;repeat (first|(refine Go.AM.sadP rfl rfl rfl LL (by repeat (first|assumption|exact rfl|refine Go.Proofs.Pg.app ?_ ?_)) (by repeat (first|assumption|exact rfl|refine Go.Proofs.Pg.app ?_ ?_)) (fun w hw pw=>?_); try simp only [List.length_append,List.length_cons,List.length_nil] at hw)|refine nl ?_|refine rg ?_|refine ZA (z:=?_)|refine ZO (z:=?_))
   exact ⟨(i + 1,_),⟨hlt,hfin _ (by (try simp only); omega),(by repeat (assumption))⟩,by simp only; omega,(tl5 rfl rfl rfl rfl rfl),.refl _⟩
  by_cases k8:kind=8
  ·refine goD ?_;apply AWP.drawI (hm:=rfl) (k:=24) (I:=fun x=>x=st) (hI:=rfl)
   case hok=>rfl
   repeat (apply diQ (hd:=rfl) (hw:=rfl) (h:=fun _ _=>ZA (z:=nz)))
   apply diQ (hd:=rfl) (hw:=rfl) (h:=fun _ _=>sad rfl rfl rfl LL nz)
   skip
   apply diQ (hd:=rfl) (hw:=rfl) (h:=fun _ _=>sad rfl rfl rfl LL nz);repeat (first|apply diQ (hd:=rfl) (hw:=rfl) (h:=fun _ _=>ZA (z:=nz))|apply diQ (hd:=rfl) (hw:=rfl) (h:=fun _ _=>ZF (z:=nz))|apply diQ (hd:=rfl) (hw:=rfl) (h:=fun _ _=>ZC (z:=nz)))
   apply diQ (hd:=rfl) (hw:=rfl) (h:=fun _ _=>sad rfl rfl rfl LL nz)
   skip
   apply diE (Q:=fun v=>∃ w:List UInt8,v=.str w∧LP (bb) w) (hd:=rfl) (hw:=rfl) (hex:=⟨_,[],rfl,Nat.zero_le _,rfl⟩) (h:=fun x hx=>by subst hx; exact cl rfl rfl (hihb body q14 q10 _ LL (by repeat (first|assumption|exact rfl|refine Pg.app ?_ ?_)) _ x) fun v s' hv=>nl ⟨v,rfl,hv⟩);rintro v ⟨w,rfl,hw,pw⟩;apply diE (Q:=fun v=>∃ w:List UInt8,v=.str w∧LP (s.length + tabs.length + 10 + bb) w) (hd:=rfl) (hw:=rfl) (hex:=⟨_,[],rfl,Nat.zero_le _,rfl⟩) (h:=fun x hx=>sad rfl rfl rfl LL (nl ⟨_,rfl,⟨_,rfl,LL,(by repeat (first|assumption|exact rfl|refine Pg.app ?_ ?_))⟩,hx⟩));rintro v ⟨w,rfl,hw,pw⟩;repeat (apply diQ (hd:=rfl) (hw:=rfl) (h:=fun _ _=>ZA (z:=nz)))
   apply diE (Q:=fun v=>∃ w:List UInt8,v=.str w∧LP (s.length + 2 * tabs.length + 10 + bb) w) (hd:=rfl) (hw:=rfl) (hex:=⟨_,[],rfl,Nat.zero_le _,rfl⟩) (h:=fun x hx=>sad rfl rfl rfl LL (nl ⟨_,rfl,⟨_,rfl,LL,(by repeat (first|assumption|refine Pg.app ?_ ?_))⟩,hx⟩));rintro v ⟨w,rfl,hw,pw⟩;apply diE (Q:=fun v=>∃ w:List UInt8,v=.str w∧LP (s.length + 2 * tabs.length + 30 + bb) w) (hd:=rfl) (hw:=rfl) (hex:=⟨_,[],rfl,Nat.zero_le _,rfl⟩) (h:=fun x hx=>sad rfl rfl rfl LL (nl ⟨_,rfl,⟨_,rfl,LL,(by repeat (first|assumption|exact rfl|refine Pg.app ?_ ?_))⟩,hx⟩));rintro v ⟨w,rfl,hw,pw⟩;repeat (first|apply diQ (hd:=rfl) (hw:=rfl) (h:=fun _ _=>ZF (z:=nz))|apply diQ (hd:=rfl) (hw:=rfl) (h:=fun _ _=>ZC (z:=nz)))
   apply diE (Q:=fun v=>∃ w:List UInt8,v=.str w∧LP (s.length + 2 * tabs.length + 70 + bb) w) (hd:=rfl) (hw:=rfl) (hex:=⟨_,[],rfl,Nat.zero_le _,rfl⟩) (h:=fun x hx=>sad rfl rfl rfl LL (nl ⟨_,rfl,⟨_,rfl,LL,(by repeat (first|assumption|refine Pg.app ?_ ?_))⟩,hx⟩));rintro v ⟨w,rfl,hw,pw⟩;apply diE (Q:=fun v=>∃ w:List UInt8,v=.str w∧LP (s.length + 2 * tabs.length + 90 + bb) w) (hd:=rfl) (hw:=rfl) (hex:=⟨_,[],rfl,Nat.zero_le _,rfl⟩) (h:=fun x hx=>sad rfl rfl rfl LL (nl ⟨_,rfl,⟨_,rfl,LL,(by repeat (first|assumption|exact rfl|refine Pg.app ?_ ?_))⟩,hx⟩));rintro v ⟨w,rfl,hw,pw⟩;repeat (first|apply diQ (hd:=rfl) (hw:=rfl) (h:=fun _ _=>ZA (z:=nz))|apply diQ (hd:=rfl) (hw:=rfl) (h:=fun _ _=>ZF (z:=nz))|apply diQ (hd:=rfl) (hw:=rfl) (h:=fun _ _=>ZC (z:=nz)))
   apply diQ (hd:=rfl) (hw:=rfl) (h:=fun _ _=>sad rfl rfl rfl LL nz)
   skip
   apply diE (Q:=fun v=>∃ w:List UInt8,v=.str w∧LP (bb) w) (hd:=rfl) (hw:=rfl) (hex:=⟨_,[],rfl,Nat.zero_le _,rfl⟩) (h:=fun x hx=>by subst hx; exact cl rfl rfl (hihb els q15 q11 _ LL (by repeat (first|assumption|exact rfl|refine Pg.app ?_ ?_)) _ x) fun v s' hv=>nl ⟨v,rfl,hv⟩);rintro v ⟨w,rfl,hw,pw⟩;apply diE (Q:=fun v=>∃ w:List UInt8,v=.str w∧LP (s.length + 2 * tabs.length + 90 + 2 * bb) w) (hd:=rfl) (hw:=rfl) (hex:=⟨_,[],rfl,Nat.zero_le _,rfl⟩) (h:=fun x hx=>sad rfl rfl rfl LL (nl ⟨_,rfl,⟨_,rfl,LL,(by repeat (first|assumption|refine Pg.app ?_ ?_))⟩,hx⟩));rintro v ⟨w,rfl,hw,pw⟩;repeat (apply diQ (hd:=rfl) (hw:=rfl) (h:=fun _ _=>ZA (z:=nz)))
   refine diN fun s2 hs2=>?_;subst hs2;repeat (first|(refine Go.AM.sadP rfl rfl rfl LL (by repeat (first|assumption|exact rfl|refine Go.Proofs.Pg.app ?_ ?_)) (by repeat (first|assumption|exact rfl|refine Go.Proofs.Pg.app ?_ ?_)) (fun w hw pw=>?_); try simp only [List.length_append,List.length_cons,List.length_nil] at hw)|refine nl ?_|refine rg ?_|refine ZA (z:=?_)|refine ZO (z:=?_))
   exact ⟨(i + 1,_),⟨hlt,hfin _ (by (try simp only); omega),(by repeat (assumption))⟩,by simp only; omega,(tl5 rfl rfl rfl rfl rfl),.refl _⟩
  refine goD ?_;exact ⟨(i + 1,s),⟨hlt,hfin _ (by (try simp only); omega),(by repeat (assumption))⟩,by simp only; omega,(tl5 rfl rfl rfl rfl rfl),.refl _⟩
 ·refine goD ?_;exact AWP.ret (rets rfl (.refl _) (.refl _) ⟨⟨s,rfl,Nat.le_trans hs (Nat.mul_le_mul_right _ hi),ps⟩,rfl⟩)
theorem block_ok:∀ d,d≤4→BlockT d
 | 0,_=>fun rows hg hl tabs ht pt k st=>by
  have:rows=[]:=by
   cases rows with
   | nil=>rfl
   | cons r rs=>exact (hg r (List.mem_cons_self ..)).elim
  subst this;refine ACalls.ofBody Tryz.func34 rfl Tryz.ntmps34 rfl ?_;refine goD ?_;refine AWP.loop (α:=Unit) (fun _=>[(12,.int .i64 0),(11,.int .i64 0),(5,.str [])]) (fun _=>st) (fun _=>True) (fun _=>0) () trivial (tl3 rfl rfl rfl) (.refl _) ?_;intro _ _;refine goD ?_;refine AWP.exit (blk_hit ?_);refine goD ?_;exact AWP.ret (rets rfl (.refl _) (.refl _) ⟨⟨[],rfl,Nat.zero_le _,rfl⟩,rfl⟩)
 | d + 1,h=>block_step d (by omega) (block_ok d (by omega))
set_option maxHeartbeats 4000000 in
theorem print_ok (rows:List (List AV)) (hl:rows.length≤4) (hg:∀ r ∈ rows,GF r) (st:St) :
  ACalls Tryz.prog 17 [.agg [recV,vw 4 rows]] st (fun v st'=>(∃ w:List UInt8,v=.str w∧LP (100000000000000) w)∧st'=st) (fun _ _=>False):=by
 refine ACalls.ofBody Tryz.func17 rfl Tryz.ntmps17 rfl ?_;refine goD ?_
 ·refine AWP.loop (α:=Nat × List UInt8) (fun x=>[(11,.int .i64 (x.1:Int)),(10,.int .i64 1),(9,recV),(3,.str x.2),(1,.eptr 2 [[recV,vw 4 rows]] 0 0)]) (fun _=>st) (fun x=>x.1≤1∧x.2.length≤x.1 * 1000∧Pg x.2=true) (fun x=>1 - x.1) (0,[]) ⟨Nat.zero_le _,Nat.zero_le _,rfl⟩ (tl5 rfl rfl rfl rfl rfl) (.refl _) ?_;rintro ⟨i,s⟩ ⟨hi,hs,ps⟩;simp only at hi hs ps;refine AWP.weaken (T':=[(11,.int .i64 (i:Int)),(10,.int .i64 1),(9,recV),(3,.str s),(1,.eptr 2 [[recV,vw 4 rows]] 0 0)]) (tl5 rfl rfl rfl rfl rfl) (.refl _) ?_;refine goD ?_;refine AWP.cond_dec rfl (fun h=>AWP.skip ?_) (fun h=>AWP.exit (blk_hit ?_))
  ·have hlt:i < 1:=by have:(i:Int) < 1:=h; omega
   obtain rfl:i=0:=by omega
   obtain rfl:s=[]:=List.eq_nil_of_length_eq_zero (by omega);refine goC ?_;refine rg ?_;refine ix (m:=0) rfl rfl rfl rfl (Nat.le_refl _) ?_;refine goD ?_;apply AWP.drawI (hm:=rfl) (k:=9) (I:=fun x=>x=st) (hI:=rfl)
   case hok=>rfl
   repeat (apply diQ (hd:=rfl) (hw:=rfl) (h:=fun _ _=>ZA (z:=nz)))
   apply diQ (hd:=rfl) (hw:=rfl) (h:=fun _ _=>sad rfl rfl rfl LL nz);repeat (first|apply diQ (hd:=rfl) (hw:=rfl) (h:=fun _ _=>ZF (z:=nz))|apply diQ (hd:=rfl) (hw:=rfl) (h:=fun _ _=>ZC (z:=nz)))
   apply diQ (hd:=rfl) (hw:=rfl) (h:=fun _ _=>sad rfl rfl rfl LL nz);apply diQ (hd:=rfl) (hw:=rfl) (h:=fun _ _=>sad rfl rfl rfl LL nz);repeat (first|apply diQ (hd:=rfl) (hw:=rfl) (h:=fun _ _=>ZF (z:=nz))|apply diQ (hd:=rfl) (hw:=rfl) (h:=fun _ _=>ZC (z:=nz)))
   apply diE (Q:=fun v=>∃ w:List UInt8,v=.str w∧LP (80) w) (hd:=rfl) (hw:=rfl) (hex:=⟨_,[],rfl,Nat.zero_le _,rfl⟩) (h:=fun x hx=>by subst hx; exact cl rfl rfl (words_ok [[120],[121]] (by intro s hs; simp only [List.mem_cons,List.not_mem_nil,or_false] at hs; rcases hs with rfl|rfl <;> decide) (by decide) _ x) fun v s' hv=>nl ⟨v,rfl,hv⟩)
   rintro v ⟨w,rfl,hw,pw⟩;refine diN fun s2 hs2=>?_;subst hs2;repeat (first|(refine Go.AM.sadP rfl rfl rfl LL (by repeat (first|assumption|exact rfl|refine Go.Proofs.Pg.app ?_ ?_)) (by repeat (first|assumption|exact rfl|refine Go.Proofs.Pg.app ?_ ?_)) (fun w hw pw=>?_); try simp only [List.length_append,List.length_cons,List.length_nil] at hw)|refine nl ?_|refine rg ?_|refine ZA (z:=?_)|refine ZO (z:=?_))
   exact ⟨(1,_),⟨Nat.le_refl _,by (try simp only); omega,by assumption⟩,by simp only; omega,(tl5 rfl rfl rfl rfl rfl),.refl _⟩
  ·refine AWP.weaken (T':=[(3,.str s),(1,.eptr 2 [[recV,vw 4 rows]] 0 0)]) (tl2 rfl rfl) (.refl _) ?_;obtain ⟨s0,hs00,hs0,ps0⟩:∃ s0:List UInt8,s0=s∧s0.length≤1000∧Pg s0=true:=⟨s,rfl,by omega,ps⟩;rw [← hs00];clear hs00 hs hi h ps;refine goD ?_;refine AWP.loop (α:=Nat × List UInt8) (fun x=>[(30,.int .i64 (x.1:Int)),(29,.int .i64 (rows.length:Int)),(28,vw 4 rows),(3,.str x.2)]) (fun _=>st) (fun x=>x.1≤rows.length∧x.2.length≤1000 + x.1 * 13000000000000∧Pg x.2=true) (fun x=>rows.length - x.1) (0,s0) ⟨Nat.zero_le _,by simp only; omega,ps0⟩ (tl4 rfl rfl rfl rfl) (.refl _) ?_;rintro ⟨i,s⟩ ⟨hi,hs,ps⟩;simp only at hi hs ps;refine AWP.weaken (T':=[(30,.int .i64 (i:Int)),(29,.int .i64 (rows.length:Int)),(28,vw 4 rows),(3,.str s)]) (tl4 rfl rfl rfl rfl) (.refl _) ?_;refine goD ?_;refine AWP.cond_dec rfl (fun h=>AWP.skip ?_) (fun h=>AWP.exit (blk_hit ?_))
   ·have hlt:i < rows.length:=by have:(i:Int) < (rows.length:Int):=h; omega
    obtain ⟨r,hr,hgr⟩:∃ r,rows[i]?=some r∧GF r:=⟨_,List.getElem?_eq_getElem hlt,hg _ (List.getElem_mem hlt)⟩;obtain ⟨name,params,body,rfl,⟨h1,pn⟩,h2,h3,h4,h5⟩:=hgr;refine goC ?_;refine rg ?_;refine ix (m:=i) rfl rfl rfl rfl hlt ?_;refine goD ?_;apply AWP.drawI (hm:=rfl) (k:=14) (I:=fun x=>x=st) (hI:=rfl)
    case hok=>rfl
    repeat (apply diQ (hd:=rfl) (hw:=rfl) (h:=fun _ _=>ZA (z:=nz)))
    apply diQ (hd:=rfl) (hw:=rfl) (h:=fun _ _=>sad rfl rfl rfl LL nz);repeat (first|apply diQ (hd:=rfl) (hw:=rfl) (h:=fun _ _=>ZF (z:=nz))|apply diQ (hd:=rfl) (hw:=rfl) (h:=fun _ _=>ZC (z:=nz)))
    apply diQ (hd:=rfl) (hw:=rfl) (h:=fun _ _=>sad rfl rfl rfl LL nz);apply diQ (hd:=rfl) (hw:=rfl) (h:=fun _ _=>sad rfl rfl rfl LL nz);repeat (first|apply diQ (hd:=rfl) (hw:=rfl) (h:=fun _ _=>ZF (z:=nz))|apply diQ (hd:=rfl) (hw:=rfl) (h:=fun _ _=>ZC (z:=nz)))
    apply diE (Q:=fun v=>∃ w:List UInt8,v=.str w∧LP (160) w) (hd:=rfl) (hw:=rfl) (hex:=⟨_,[],rfl,Nat.zero_le _,rfl⟩) (h:=fun x hx=>by subst hx; exact cl rfl rfl ((words_ok params h3 (by omega) _ x).mono (fun v s' ⟨⟨w,q1,q2⟩,q3⟩=>⟨⟨w,q1,by have:=q2.1; omega,q2.2⟩,q3⟩) (fun _ _ h=>h)) fun v s' hv=>nl ⟨v,rfl,hv⟩);rintro v ⟨w,rfl,hw,pw⟩;apply diE (Q:=fun v=>∃ w:List UInt8,v=.str w∧LP (s.length + 300) w) (hd:=rfl) (hw:=rfl) (hex:=⟨_,[],rfl,Nat.zero_le _,rfl⟩) (h:=fun x hx=>sad rfl rfl rfl LL (nl ⟨_,rfl,⟨_,rfl,LL,(by repeat (first|assumption|exact rfl|refine Pg.app ?_ ?_))⟩,hx⟩));rintro v ⟨w,rfl,hw,pw⟩;apply diE (Q:=fun v=>∃ w:List UInt8,v=.str w∧LP (s.length + 320) w) (hd:=rfl) (hw:=rfl) (hex:=⟨_,[],rfl,Nat.zero_le _,rfl⟩) (h:=fun x hx=>sad rfl rfl rfl LL (nl ⟨_,rfl,⟨_,rfl,LL,(by repeat (first|assumption|exact rfl|refine Pg.app ?_ ?_))⟩,hx⟩));rintro v ⟨w,rfl,hw,pw⟩;repeat (first|apply diQ (hd:=rfl) (hw:=rfl) (h:=fun _ _=>ZF (z:=nz))|apply diQ (hd:=rfl) (hw:=rfl) (h:=fun _ _=>ZC (z:=nz)))
    apply diE (Q:=fun v=>∃ w:List UInt8,v=.str w∧LP (12000000000000) w) (hd:=rfl) (hw:=rfl) (hex:=⟨_,[],rfl,Nat.zero_le _,rfl⟩) (h:=fun x hx=>by subst hx; exact cl rfl rfl ((block_ok 4 (by decide) body h5 h4 [9] (by decide) rfl _ x).mono (fun v s' ⟨⟨w,q1,q2⟩,q3⟩=>⟨⟨w,q1,Nat.le_trans q2.1 (Nat.le_trans (Nat.mul_le_mul h4 (sB4 4 (by decide))) (by decide)),q2.2⟩,q3⟩) (fun _ _ h=>h)) fun v s' hv=>nl ⟨v,rfl,hv⟩);rintro v ⟨w,rfl,hw,pw⟩;refine diN fun s2 hs2=>?_;subst hs2;repeat (first|(refine Go.AM.sadP rfl rfl rfl LL (by repeat (first|assumption|exact rfl|refine Go.Proofs.Pg.app ?_ ?_)) (by repeat (first|assumption|exact rfl|refine Go.Proofs.Pg.app ?_ ?_)) (fun w hw pw=>?_); try simp only [List.length_append,List.length_cons,List.length_nil] at hw)|refine nl ?_|refine rg ?_|refine ZA (z:=?_)|refine ZO (z:=?_))
    exact ⟨(i + 1,_),⟨hlt,by (try simp only); omega,(by repeat (assumption))⟩,by simp only; omega,(tl4 rfl rfl rfl rfl),.refl _⟩
   ·refine goD ?_;exact AWP.ret (rets rfl (.refl _) (.refl _) ⟨⟨s,rfl,by omega,ps⟩,rfl⟩)
theorem text_ok (l:List Int) (hl:l.length≤17592186043904) (st:St) :
  ACalls Tryz.prog 8 [.view 1 (l.map fun x=>[.int .i64 x]) .shared] st (fun v st'=>(∃ w:List UInt8,v=.str w∧LP (100000000000000) w)∧st'=st) (fun _ _=>False):=by
 refine ACalls.ofBody Tryz.func8 rfl Tryz.ntmps8 rfl ?_;refine goD ?_;refine cl rfl rfl (program_ok l hl st) fun v s' ⟨rows,hv,hr,hg,hs⟩=>?_;subst hv hs
 skip
 refine cl rfl rfl (print_ok rows hr hg _) fun v s' ⟨⟨w,hv,hw,pw⟩,hs⟩=>?_;subst hv hs;refine goD ?_;exact AWP.ret (rets rfl (.refl _) (.refl _) ⟨⟨w,rfl,hw,pw⟩,rfl⟩)
end Go.Proofs
namespace Go.Proofs
open Go.AM
theorem short_ok (l:List Int) (hl:l.length≤17592186043904) (st:St):ACalls Tryz.prog 9 [.view 1 (l.map fun x=>[.int .i64 x]) .shared] st (fun v st'=>v=.view 1 ((l.take 200).map fun x=>[.int .i64 x]) .shared∧st'=st) (fun _ _=>False):=by
 refine ACalls.ofBody Tryz.func9 rfl Tryz.ntmps9 rfl ?_;have hlen:(l.map fun x=>[AV.int .i64 x]).length=l.length:=by simp
 refine goA ?_;refine AWP.cond_dec rfl (fun h=>?_) (fun h=>AWP.skip ?_)
 ·have h':200≤l.length:=by have:(200:Int) < ((l.map fun x=>[AV.int .i64 x]).length:Int):=h; omega
  refine goA ?_;refine svh (b:=200) rfl rfl rfl (by omega) ?_;rw [← List.map_take];refine goA ?_;exact AWP.ret (rets rfl (.refl _) (.refl _) ⟨rfl,rfl⟩)
 ·have h':l.length≤200:=by have:¬ (200:Int) < ((l.map fun x=>[AV.int .i64 x]).length:Int):=h; omega
  refine goA ?_;refine AWP.ret (rets rfl (.refl _) (.refl _) ⟨?_,rfl⟩);rw [List.take_of_length_le h'];rfl
end Go.Proofs
namespace Go.Proofs
open Go.AM
attribute [local irreducible] AWP AOps ACalls AAny
end Go.Proofs
namespace Go.Proofs
open Go.AM
attribute [local irreducible] AWP AOps AAny
attribute [local irreducible] ACalls
end Go.Proofs
namespace Go.Proofs
open Go.AM
attribute [local irreducible] AWP AOps AAny ACalls
end Go.Proofs
namespace Go.Proofs
end Go.Proofs
namespace Go.Proofs
open Go.AM
end Go.Proofs
namespace Go.Proofs
open Go.AM
section
variable {ta tb tc:List Tk} {A B C:Xp} {n d:Nat} {rest:List Tk} {x y:Nat}
end
end Go.Proofs
namespace Go.Proofs
open Go.AM
end Go.Proofs
namespace Go.Proofs
open Go.AM
section
variable {C:List Tk→Prop} (hC:∀ ts,C ts→(hd ts).kind≠0→C ts.tail)
include hC
end
end Go.Proofs
namespace Go.Proofs
open Go.AM
def NE {α:Type} (r:QR α):Prop:=∀ e t,r=.error (e,t)→e≠0
theorem NE.qb {α β:Type} {r:QR α} {f:α→List Tk→QR β} (h:NE r) (hf:∀ x t,NE (f x t)):NE (qb r f):=by
 rcases r with ⟨e,t⟩|⟨x,t⟩
 ·intro e' t' he;cases he;exact h e t rfl
 ·exact hf x t
theorem NE.ok {α:Type} {x:α} {t:List Tk}:NE (.ok (x,t)):=fun _ _ h=>by cases h
theorem NE.err {α:Type} {e:Nat} {t:List Tk} (h:e≠0):NE (.error (e,t):QR α):=fun _ _ h'=>by cases h'; exact h
theorem NE.ite {α:Type} {c:Prop} [Decidable c] {a b:QR α} (h1:NE a) (h2:NE b):NE (if c then a else b):=by split <;> assumption
theorem ne_fe:∀ k:Nat,(∀ lv d ts,NE (fe k lv d ts))∧(∀ lv d x ts,NE (fl k lv d x ts))∧(∀ d ts,NE (fo k d ts))
 | 0=>⟨fun _ _ _=>by rw [fe]; exact .err (by decide),fun _ _ _ _=>by rw [fl]; exact .err (by decide),fun _ _=>by rw [fo]; exact .err (by decide)⟩
 | k + 1=>by
  obtain ⟨i1,i2,i3⟩:=ne_fe k;refine ⟨fun lv d ts=>?_,fun lv d x ts=>?_,fun d ts=>?_⟩
  ·rw [fe];refine .ite (i3 d ts) ?_;have h:=i1 (lv + 1) d ts;rcases hp:fe k (lv + 1) d ts with ⟨e,t⟩|⟨x,t⟩
   ·rw [hp] at h; exact .err (h e t rfl)
   ·exact i2 lv d x t
  ·rw [fl];refine .ite ?_ .ok;have h:=i1 (lv + 1) d ts.tail;rcases hp:fe k (lv + 1) d ts.tail with ⟨e,t⟩|⟨y,t⟩
   ·rw [hp] at h; exact .err (h e t rfl)
   ·exact .ite .ok (i2 lv d _ t)
  ·rw [fo];refine .ite (.ite (.err (by decide)) (.ite .ok (.ite (.ite (.ite .ok (.err (by decide))) (.ite ?_ .ok)) (.ite ?_ ?_)))) (.err (by decide))
   ·have h:=i1 1 (d + 1) ts.tail.tail;rcases hp:fe k 1 (d + 1) ts.tail.tail with ⟨e,t⟩|⟨y,t⟩
    ·rw [hp] at h; exact .err (h e t rfl)
    ·exact .ite .ok (.err (by decide))
   ·have h:=i1 1 (d + 1) ts.tail;rcases hp:fe k 1 (d + 1) ts.tail with ⟨e,t⟩|⟨y,t⟩
    ·rw [hp] at h; exact .err (h e t rfl)
    ·exact .ite .ok (.err (by decide))
   ·have h:=i3 (d + 1) ts.tail;rcases hp:fo k (d + 1) ts.tail with ⟨e,t⟩|⟨y,t⟩
    ·rw [hp] at h; exact .err (h e t rfl)
    ·exact .ok
theorem ne_need (s:List UInt8) (ts:List Tk):NE (fneed s ts):=by unfold fneed; exact .ite .ok (.err (by decide))
theorem ne_name (ts:List Tk):NE (fname ts):=by unfold fname; exact .ite .ok (.err (by decide))
theorem ne_qx (ts:List Tk):NE (qx ts):=(ne_fe _).1 _ _ _
theorem ne_qt (ts:List Tk):NE (qt ts):=by
 unfold qt ftg;exact (ne_name ts).qb fun n r=>.ite ((ne_name _).qb fun f t=>.ok) (.ite (NE.qb ((ne_fe _).1 _ _ _) fun x t=>(ne_need _ _).qb fun _ u=>.ok) .ok)
theorem ne_args:∀ (k:Nat) (l:List Xp) (ts:List Tk),NE (fargs k l ts)
 | 0,l,ts=>by rw [fargs]; exact .err (by decide)
 | k + 1,l,ts=>by
  rw [fargs];exact .ite ((ne_qx _).qb fun x r=>ne_args k _ r) .ok
theorem ne_call (ts:List Tk):NE (fcall ts):=by
 unfold fcall;exact (ne_name ts).qb fun n r=>(ne_need _ r).qb fun _ r2=>.ite .ok ((ne_qx _).qb fun x r3=>(ne_args _ _ _).qb fun l r4=>(ne_need _ _).qb fun _ r5=>.ok)
theorem ne_val (b:Bool) (ts:List Tk):NE (fval b ts):=by
 unfold fval;exact .ite (ne_call ts) ((ne_qx _).qb fun x r=>.ok)
theorem ne_eff (ts:List Tk):NE (feff ts):=by
 unfold feff;exact .ite ((ne_call ts).qb fun c r=>.ok) ((ne_qt ts).qb fun y r=>(ne_need _ r).qb fun _ r2=>.ite ((ne_call _).qb fun c r=>.ok) ((ne_qx _).qb fun c r=>.ok))
theorem ne_ty (ts:List Tk):NE (fty ts):=by
 unfold fty;exact .ite (.ite (.ite (.ite (.err (by decide)) ((ne_need _ _).qb fun _ r=>.ok)) (.err (by decide))) .ok) ((ne_name ts).qb fun c r=>.ok)
theorem ne_decl (ts:List Tk):NE (fdecl ts):=by
 rw [fdecl_eq];exact (ne_name ts).qb fun n r=>(ne_need _ _).qb fun _ r2=>(ne_ty _).qb fun p r3=>(ne_need _ _).qb fun _ r4=>.ok
theorem ne_catch (ts:List Tk):NE (fcatch ts):=by unfold fcatch; exact .ite .ok (.err (by decide))
theorem ne_stm:∀ k:Nat,(∀ d ts,NE (fstm k d ts))∧(∀ d ts,NE (fblk k d ts))∧(∀ d l ts,NE (fsts k d l ts))
 | 0=>⟨fun _ _=>by rw [fstm]; exact .err (by decide),fun _ _=>by rw [fblk]; exact .err (by decide),fun _ _ _=>by rw [fsts]; exact .err (by decide)⟩
 | k + 1=>by
  obtain ⟨i1,i2,i3⟩:=ne_stm k;refine ⟨fun d ts=>?_,fun d ts=>?_,fun d l ts=>?_⟩
  ·by_cases hb:begS (hd ts)=true
   rotate_left
   ·rw [fstm,if_neg hb];exact .err (by decide)
   by_cases h8:8 < d
   ·rw [fstm,if_pos hb,if_pos h8];exact .err (by decide)
   rw [fstm_pos hb h8];refine .ite ((ne_decl _).qb fun x r=>.ok) (.ite ((ne_qx _).qb fun x r=>(i2 _ _).qb fun b r2=>.ite ((i2 _ _).qb fun e r3=>.ok) .ok) (.ite ((ne_qx _).qb fun x r=>(i2 _ _).qb fun b r2=>.ok) ?_));refine .ite ((i2 _ _).qb fun b r=>(ne_catch _).qb fun _ r1=>(ne_name _).qb fun n r2=>(i2 _ _).qb fun e r3=>.ok) ?_;exact .ite ((ne_val _ _).qb fun x r=>(ne_need _ _).qb fun _ r2=>.ok) (.ite ((ne_val _ _).qb fun x r=>(ne_need _ _).qb fun _ r2=>.ok) (.ite ((ne_val _ _).qb fun x r=>(ne_need _ _).qb fun _ r2=>.ok) ((ne_eff _).qb fun x r=>(ne_need _ _).qb fun _ r2=>.ok)))
  ·rw [fblk];exact (ne_need _ _).qb fun _ r=>i3 _ _ _
  ·rw [fsts];exact .ite .ok ((i1 d ts).qb fun s r=>i3 _ _ _)
theorem ne_more:∀ (k:Nat) (l:Names) (ts:List Tk),NE (fmore k l ts)
 | 0,l,ts=>by rw [fmore]; exact .err (by decide)
 | k + 1,l,ts=>by
  rw [fmore_eq];exact .ite ((ne_name _).qb fun n r=>ne_more k _ r) .ok
theorem ne_names (ts:List Tk):NE (fnames ts):=by
 rw [fnames_eq];exact (ne_name ts).qb fun n r=>ne_more _ _ r
theorem ne_record (ts:List Tk):NE (frecord ts):=by
 unfold frecord;exact (ne_name ts).qb fun n r=>(ne_need _ _).qb fun _ r2=>(ne_names _).qb fun l r3=>(ne_need _ _).qb fun _ r4=>.ok
theorem ne_func (ts:List Tk):NE (ffunc ts):=by
 unfold ffunc fpar;exact (ne_name _).qb fun n r1=>(ne_need _ _).qb fun _ r2=>NE.qb (.ite .ok (ne_names _)) fun ps r3=>(ne_need _ _).qb fun _ r4=>((ne_stm _).2.1 _ _).qb fun b r5=>.ok
theorem ne_recs:∀ (k:Nat) (l:List Rec) (ts:List Tk),NE (frecs k l ts)
 | 0,l,ts=>by rw [frecs]; exact .err (by decide)
 | k + 1,l,ts=>by
  rw [frecs];exact .ite ((ne_record _).qb fun n r=>ne_recs k _ r) .ok
theorem ne_funs:∀ (k:Nat) (l:List Fn) (ts:List Tk),NE (ffuns k l ts)
 | 0,l,ts=>by rw [ffuns]; exact .err (by decide)
 | k + 1,l,ts=>by
  rw [ffuns];exact .ite ((ne_func _).qb fun n r=>ne_funs k _ r) .ok
theorem pparse_ne {s:List UInt8} {l e:Nat} (h:pparse s=.error (l,e)):e≠0:=by
 by_cases he:(scan s).2.2=0
 ·rw [pparse_of he] at h;have hn:NE (fprog (scan s).1):=by
   unfold fprog;exact (ne_recs _ _ _).qb fun R r=>(ne_funs _ _ _).qb fun F r2=>.ite .ok (.err (by decide))
  rcases hf:fprog (scan s).1 with ⟨e',t⟩|⟨p,t⟩
  ·rw [hf] at h hn;cases h;exact hn _ _ rfl
  ·rw [hf] at h;cases h
 ·rw [pparse_err he] at h;cases h;exact he
end Go.Proofs
namespace Go.Proofs
open Go.AM
attribute [local irreducible] AWP AOps ACalls AAny
theorem lines_ok:∀ (n:Nat) (l:List Sp),SizeOf.sizeOf l≤n→LSs l→l.length≤100001→LinesOk l
 | 0,l,hn,_,_=>by cases l <;> simp at hn
 | n + 1,l,hn,hw,hl=>lines_of hl fun s hs=>by
  obtain ⟨i,hi,hg⟩:=List.getElem_of_mem hs;have hws:=LSs_get l i s hw (by rw [List.getElem?_eq_getElem hi,hg])
  have hsz:=List.sizeOf_lt_of_mem hs;obtain ⟨k,ln,nm,ty,len,tg,fn,ar,bd,el⟩:=s;rw [LS] at hws;obtain ⟨_,_,w8,w9,w6,w7⟩:=hws;simp only [Sp.mk.sizeOf_spec] at hsz;exact ⟨lines_ok n bd (by omega) w6 (by omega),lines_ok n el (by omega) w7 (by omega)⟩
theorem FnsL_get:∀ (l:List Fn) (n i:Nat) (f:Fn),FnsL n l→l[i]?=some f→FnL (if i=0 then n else ((l[i - 1]?).map Fn.stop).getD 0) f
 | [],n,i,f,_,h=>by simp at h
 | g::l,n,0,f,hl,h=>by cases h; exact hl.1
 | g::l,n,1,f,hl,h=>FnsL_get l g.stop 0 f hl.2 (by simpa using h)
 | g::l,n,i + 2,f,hl,h=>FnsL_get l g.stop (i + 1) f hl.2 (by simpa using h)
theorem Rise_get:∀ (l:List Sp) (j:Nat) (s t:Sp),Rise l→l[j]?=some s→l[j + 1]?=some t→s.line < t.line
 | [],j,s,t,_,h,_=>by simp at h
 | [a],0,s,t,_,_,h=>by simp at h
 | [a],j + 1,s,t,_,h,_=>by simp at h
 | a::b::l,0,s,t,hr,h,k=>by cases h; cases k; exact hr.1
 | a::b::l,j + 1,s,t,hr,h,k=>Rise_get (b::l) j s t hr.2 (by simpa using h) (by simpa using k)
set_option maxHeartbeats 4000000 in
theorem ParserLines_ok (l:List Int) (hl:l.length≤17592186043904) (_:∀ x ∈ l,(Lit.int .i64 x).wf=true) (st:St) (hT:LTp st) :
  ACalls Tryz.prog 3 [.view 1 (l.map fun x=>[.int .i64 x]) .shared] st (fun v _=>v=.bool true) (fun _ _=>False):=by
 refine ACalls.ofBody Tryz.func3 rfl Tryz.ntmps3 rfl ?_;refine goC ?_;refine rg ?_;refine goE ?_;refine nl ?_;refine goD ?_;refine cle rfl rfl (short_ok l hl st) ?_;refine cl rfl rfl (text_ok (l.take 200) (by rw [List.length_take]; omega) st) fun v s' ⟨⟨t,hv,ht,hp⟩,hs⟩=>?_;subst hv hs;refine goD ?_;refine cle rfl rfl (parse_ok t s' hT.signs hT.words hT.gs.ops) ?_;cases hpt:pparse t with
 | error e =>
  obtain ⟨ln,e⟩:=e;have he:((e:Nat):Int)≠0:=by have:=pparse_ne hpt; omega
  unfold parV;refine goD ?_;refine cle rfl rfl (known_ok _ hT) ?_;refine goD ?_;exact AWP.ret (rets rfl (.refl _) (.refl _) rfl)
 | ok p =>
  have hL:=pparse_lines hp hpt
  have hln:=pparse_ln hpt;clear hpt hp ht;obtain ⟨R,F⟩:=p;obtain ⟨_,lF,_,hF⟩:=hln;have hL:FnsL 1 F:=hL
  have lF:F.length≤100000:=lF
  have hF:∀ f ∈ F,f.params.length≤100000∧LSs f.body∧f.body.length < 100000:=hF;unfold parV pgRow;refine goD ?_;have hFl:(List.map fnRow F).length=F.length:=List.length_map ..;refine AWP.loop (α:=Nat) (fun i=>[(28,.int .i64 (i:Int)),(27,.int .i64 (F.length:Int)),(26,.view 4 (F.map fnRow) .shared),(7,.int .i64 ((if i=0 then 1 else ((F[i - 1]?).map Fn.stop).getD 0:Nat):Int))]) (fun _=>s') (fun i=>i≤F.length) (fun i=>F.length - i)
   0 (Nat.zero_le _) (TLe.consE rfl rfl (TLe.consE rfl (congrArg (fun x:Nat=>AV.int .i64 (x:Int)) hFl) (tl2 rfl rfl))) (.refl _) ?_
  intro i hi;refine AWP.weaken (T':=[(28,.int .i64 (i:Int)),(27,.int .i64 (F.length:Int)),(26,.view 4 (F.map fnRow) .shared),(7,.int .i64 ((if i=0 then 1 else ((F[i - 1]?).map Fn.stop).getD 0:Nat):Int))]) (tl4 rfl rfl rfl rfl) (.refl _) ?_;refine goD ?_;refine AWP.cond_dec rfl (fun hc=>AWP.skip ?_) (fun hc=>AWP.exit (blk_hit ?_))
  rotate_left
  ·refine goD ?_;refine cle rfl rfl (known_ok _ hT) ?_;refine goD ?_;exact AWP.ret (rets rfl (.refl _) (.refl _) rfl)
  ·have hlt:i < F.length:=by have:(i:Int) < (F.length:Int):=hc; omega
   have hlt':i < (F.map fnRow).length:=by omega
   obtain ⟨f,hf⟩:∃ x,F[i]?=some x:=⟨_,List.getElem?_eq_getElem hlt⟩;have hrow:=fnr_at F i f hf;obtain ⟨hn,hb,hr⟩:=FnsL_get F 1 i f hL hf;have hi1:(if i + 1=0 then 1 else ((F[i + 1 - 1]?).map Fn.stop).getD 0:Nat)=f.stop:=by rw [if_neg (by omega),show i + 1 - 1=i by omega,hf]; rfl
   generalize (if i=0 then 1 else ((F[i - 1]?).map Fn.stop).getD 0:Nat)=n0 at hn;obtain ⟨w1,w2,w3⟩:=hF f (List.mem_of_getElem? hf);obtain ⟨L,hLL⟩:∃ L,L=f.body++[endSp f.stop]:=⟨_,rfl⟩;have hlast:L[L.length - 1]?=some (endSp f.stop):=by
    rw [hLL,List.length_append,List.length_singleton,List.getElem?_append_right (by omega),show f.body.length + 1 - 1 - f.body.length=0 by omega];rfl
   have hLl:L.length=f.body.length + 1:=by rw [hLL,List.length_append]; rfl
   have hlo:=lines_ok _ L (Nat.le_refl _) (hLL ▸ w2.app (LS_end _)) (by omega);rw [← hLL] at hb hr hrow;have hSl:=spRows_len L;refine goD ?_;refine cle rfl rfl (hlo f.line _) ?_;rw [hb];unfold lnV;have hlr:=sprow_at L _ _ hlast;rw [show L.length - 1=f.body.length by omega,endSp,spRow] at hlr;have hbl:f.body.length < (spRows L).length:=by omega
   have hsub:IntKind.i64.wrap (((spRows L).length:Int) - 1)=(f.body.length:Int):=by rw [wrap64 (by omega)]; omega
   refine goD ?_;refine sbk rfl rfl rfl hsub ?_;refine goD ?_;refine sbk rfl rfl rfl hsub ?_;refine goD ?_;refine AWP.loop (α:=Nat) (fun j=>[(12,.int .i64 ((j + 1:Nat):Int)),(9,.eptr 4 [[.str f.name,.int .i64 (f.line:Int),.view 1 (nrow f.params) .shared,.view 13 (spRows L) .shared]] 0 0),(7,.int .i64 (f.stop:Int)),(28,.int .i64 (i:Int)),(27,.int .i64 (F.length:Int)),(26,.view 4 (F.map fnRow) .shared)]) (fun _=>s') (fun j=>j < L.length) (fun j=>L.length - j)
    0 (by omega) (tl6 rfl rfl rfl rfl rfl rfl) (.refl _) ?_
   intro j hj;refine AWP.weaken (T':=[(12,.int .i64 ((j + 1:Nat):Int)),(9,.eptr 4 [[.str f.name,.int .i64 (f.line:Int),.view 1 (nrow f.params) .shared,.view 13 (spRows L) .shared]] 0 0),(7,.int .i64 (f.stop:Int)),(28,.int .i64 (i:Int)),(27,.int .i64 (F.length:Int)),(26,.view 4 (F.map fnRow) .shared)]) (tl6 rfl rfl rfl rfl rfl rfl) (.refl _) ?_;refine goD ?_;refine AWP.cond_dec rfl (fun hc=>AWP.skip ?_) (fun hc=>AWP.exit (blk_hit ?_))
   rotate_left
   ·refine goD ?_;exact ⟨i + 1,hlt,by omega,TLe.consE rfl rfl (TLe.consE rfl rfl (TLe.consE rfl rfl (TLe.consE rfl (by rw [hi1]) (tl0 )))),.refl _⟩
   ·have hj1:j + 1 < L.length:=by have:((j + 1:Nat):Int) < ((spRows L).length:Int):=hc; omega
    obtain ⟨x,hx⟩:∃ x,L[j]?=some x:=⟨_,List.getElem?_eq_getElem hj⟩;obtain ⟨y,hy⟩:∃ x,L[j + 1]?=some x:=⟨_,List.getElem?_eq_getElem hj1⟩;have hxy:=Rise_get L j x y hr hx hy
    have hx2:=sprow_at L j x hx
    have hy2:=sprow_at L (j + 1) y hy;obtain ⟨_,lx,_,_,_,_,_,_,_,_⟩:=x;obtain ⟨_,ly,_,_,_,_,_,_,_,_⟩:=y;have hxy:lx < ly:=hxy;rw [spRow] at hx2 hy2;have hxl:j < (spRows L).length:=by omega
    have hyl:j + 1 < (spRows L).length:=by omega
    have hle:¬ ((ly:Int)≤(lx:Int)):=by omega
    refine goC ?_;refine AWP.draw rfl 14 14 (fun _ _=>False) rfl ?_;refine goG ?_;rw [show ((j + 1:Nat):Int) - 1=(j:Int) by omega];refine goG ?_;refine dn ⟨fun _=>?_,fun h=>absurd h (by decide)⟩;refine goD ?_;exact ⟨j + 1,hj1,by omega,(tl6 rfl rfl rfl rfl rfl rfl),.refl _⟩
end Go.Proofs
