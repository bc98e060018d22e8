/- The tokens of a scanned text: names, numbers, lengths, parentheses. No program in sight. -/
import Derived.Test.YthjcphjabiajbaaGreatDoorRows
import Derived.Test.YthjcphjabiajbaaGreatDoorTie
import Derived.Test.YthjcphjabiajbaaGreatDoorCards
import Derived.ProofKit
import Derived.OpenShut
import Derived.Lay
import Derived.Shelf.Strings.OnBuilder
import Derived.Test.YthjcphjabiajbaaGreatDoorProg
import Derived.Test.YthjcphjabiajbaaGreatDoorB4
namespace Go.Proofs

def tw (ts:List Tk):Nat:=(ts.map fun t=>(wordOf t).length).sum
def c40 (s:List UInt8):Nat:=s.countP (· == 40)

theorem c40_split (s:List UInt8) (k:Nat):c40 (s.take k) + c40 (s.drop k)=c40 s:=by
 conv=>rhs; rw [← List.take_append_drop k s]
 unfold c40
 rw [List.countP_append]
theorem c40_drop (s:List UInt8) (k:Nat):c40 (s.drop k)≤c40 s:=by
 have:=c40_split s k
 omega

theorem dec_len {n j:Nat} (hj:1≤j) (h18:j≤18) (h:n < 10 ^ j):(dec n).length≤j:=by
 obtain ⟨j,rfl⟩:∃ i,j=i + 1:=⟨j - 1,by omega⟩
 have hn:n / 10 < 10 ^ j:=by
  rw [Nat.pow_succ] at h
  omega
 obtain ⟨ds,h1,h2,_⟩:=decF_spec j 19 (n / 10) [UInt8.ofNat (48 + n % 10)] hn (by omega) (by simp)
 have e:dec n=ds++[UInt8.ofNat (48 + n % 10)]:=by
  rw [← h1,dec,decF,if_neg (by simp)]
 rw [e]
 simp
 omega

theorem one_tok {s:List UInt8} {line m:Nat} {t:Tk} (h:one s line=.ok (t,m)) :
  (t.kind=1→Nm t.text)∧(t.kind=2→Nu t.num)∧(wordOf t).length≤m∧b1 (sg t [40])≤c40 (s.take m)∧t.kind≠0:=by
 have hg:=good_of_one h
 unfold one at h
 split at h
 ·cases h
 ·rename_i c r
  cases hl:isLet c
  ·cases hd:isDig c
   ·simp only [hl,hd,cond_false] at h
    split at h
    ·cases h
    ·cases h
     refine ⟨fun h=>(by cases h),fun h=>(by cases h),Nat.le_refl _,?_,(by show (4:Nat)≠0; decide)⟩
     have hs:=sign_take (c::r)
     generalize hq:sign (c::r)=q at *
     by_cases hp:q=[40]
     ·subst hp
      rw [← hs]
      exact b1_le _
     ·rw [show sg ⟨4,line,q,0⟩ [40]=false from decide_eq_false fun h=>hp h.2]
      exact Nat.zero_le _
   ·simp only [hl,hd,cond_false,cond_true] at h
    split at h
    ·cases h
    rename_i h18
    split at h
    ·cases h
    ·cases h
     refine ⟨fun h=>(by cases h),fun _=>hg.num,?_,Nat.zero_le _,(by show (2:Nat)≠0; decide)⟩
     have hall:∀ x ∈ (c::r).takeWhile isDig,isDig x=true:=fun x hx=>mem_tw hx
     have hlt:=digits_lt _ _ rfl hall
     have h1:1≤((c::r).takeWhile isDig).length:=by
      rw [List.takeWhile_cons,hd]
      simp
     exact dec_len h1 (by omega) hlt
  ·simp only [hl,cond_true] at h
   split at h
   ·cases h
   ·rename_i h12
    cases h
    have hnk:(if (c::r).takeWhile isNP ∈ words then 3 else 1)≠2:=by split <;> decide
    have hn0:(if (c::r).takeWhile isNP ∈ words then 3 else 1)≠0:=by split <;> decide
    have hn4:(if (c::r).takeWhile isNP ∈ words then 3 else 1)≠4:=by split <;> decide
    refine ⟨fun hk=>?_,fun hk=>absurd hk hnk,?_,?_,hn0⟩
    ·have hw:(c::r).takeWhile isNP ∉ words:=by
      intro hw
      simp only [if_pos hw] at hk
      cases hk
     refine ⟨c,r.takeWhile isNP,?_,hl,fun x hx=>mem_tw hx,(by show ((c::r).takeWhile isNP).length≤12; omega),hw⟩
     show (c::r).takeWhile isNP=_
     rw [List.takeWhile_cons,show isNP c=true by simp [isNP,hl]]
     rfl
    ·unfold wordOf
     rw [if_neg hnk]
     exact Nat.le_refl _
    ·rw [show sg _ [40]=false from decide_eq_false fun h=>hn4 h.1]
     exact Nat.zero_le _

theorem opn_cons (t:Tk) (ts:List Tk):opn (t::ts)=opn ts + b1 (sg t [40]):=by
 unfold opn b1
 rw [List.countP_cons]
theorem tw_cons (t:Tk) (ts:List Tk):tw (t::ts)=(wordOf t).length + tw ts:=by
 unfold tw
 rw [List.map_cons,List.sum_cons]

theorem scanL_tok:∀ (k:Nat) (s:List UInt8) (line:Nat) (out:List Tk),s.length < k→(scanL k s line out).2.2=0 →
  ∃ ts l,scanL k s line out=(out++ts++[⟨0,l,[],0⟩],0,0)∧GT Nm Nu ts∧tw ts≤s.length∧opn ts≤c40 s∧∀ t ∈ ts,t.kind≠0
 | k + 1,[],line,out,_,_=>⟨[],line,by simp [scanL],fun t h=>(by cases h),Nat.zero_le _,Nat.zero_le _,fun t h=>(by cases h)⟩
 | k + 1,c::r,line,out,hk,he=>by
  cases ho:one (c::r) line with
  | error e =>
   have h1:=one_err ho
   rw [scanL,ho] at he
   simp only at he
   omega
  | ok p =>
   obtain ⟨t,m⟩:=p
   obtain ⟨t1,t2,t3,t4,t5⟩:=one_tok ho
   have hr:=rest_lt ho line
   obtain ⟨m1,m2,_⟩:=one_ok ho
   obtain ⟨s1,_,_,j,hj⟩:=skip_le false ((c::r).drop m) line
   rw [scanL,ho] at he ⊢
   simp only at he ⊢
   split
   ·rename_i h2
    rw [if_pos h2] at he
    cases he
   ·rename_i h2
    rw [if_neg h2] at he
    obtain ⟨ts,l,e,g1,g2,g3,g4⟩:=scanL_tok k _ _ (out++[t]) (by omega) he
    refine ⟨t::ts,l,by rw [e]; simp,?_,?_,?_,?_⟩
    ·intro u hu
     rcases List.mem_cons.1 hu with rfl|hu
     ·exact ⟨t1,t2⟩
     ·exact g1 u hu
    ·rw [tw_cons]
     rw [List.length_drop] at s1
     omega
    ·rw [opn_cons]
     have d1:=c40_split (c::r) m
     have d2:=c40_drop ((c::r).drop m) j
     rw [← hj] at d2
     omega
    ·intro u hu
     rcases List.mem_cons.1 hu with rfl|hu
     ·exact t5
     ·exact g4 u hu

theorem scan_tok (s:List UInt8) (he:(scan s).2.2=0):∃ ts l,scan s=(ts++[⟨0,l,[],0⟩],0,0)∧GT Nm Nu ts∧tw ts≤s.length∧opn ts≤c40 s∧∀ t ∈ ts,t.kind≠0:=by
 unfold scan at he ⊢
 split at he
 ·cases he
 ·rename_i h
  rw [if_neg h]
  obtain ⟨h1,_,_,j,hj⟩:=skip_le false s 1
  obtain ⟨ts,l,e,g1,g2,g3,g4⟩:=scanL_tok (s.length + 1) (skip false s 1).1 (skip false s 1).2 [] (by omega) he
  refine ⟨ts,l,by rw [e]; rfl,g1,by omega,?_,g4⟩
  have:=c40_drop s j
  rw [← hj] at this
  omega
end Go.Proofs
namespace Go.Proofs
open Go.AM
attribute [local irreducible] AWP AOps ACalls AAny

def pgRow (p:Prg):List AV:=[.view 2 (p.1.map recRow) .shared,.view 4 (p.2.map fnRow) .shared]
def parV:Except (Nat × Nat) Prg→AV
 | .ok p=>.tuple [.agg (pgRow p),.int .i64 0,.int .i64 0]
 | .error (l,e)=>.tuple [.agg [nilV,nilV],.int .i64 (l:Int),.int .i64 (e:Int)]
theorem scan_RdH {s:List UInt8} (he:(scan s).2.2=0):RdH (scan s).1∧0 < (scan s).1.length:=by
 have hl:=scan_small s
 obtain ⟨ts,l,e,_,_,_,hk⟩:=scan_tok s he
 rw [e] at hl ⊢
 simp only at hl ⊢
 refine ⟨⟨by omega,fun i t ht hk0=>?_⟩,by simp⟩
 rw [List.length_append,List.length_singleton]
 rcases Nat.lt_or_ge i ts.length with h|h
 ·omega
 ·exfalso
  rw [List.getElem?_append_right h] at ht
  have:=(List.getElem?_eq_some_iff.1 ht).1
  simp only [List.length_singleton] at this
  rw [show i - ts.length=0 by omega] at ht
  simp at ht
  rw [← ht] at hk0
  exact hk0 rfl
def OpG {α:Type} (ts:List Tk) (S0:St) (o:Nat) (row:α→AV) (r:QR α):List (Option AV)→St→Prop
 | [none],s=>s=S0
 | [some v],s=>PaR ts o S0 row r v s
 | _,_=>False

theorem frecord_l1 (ts:List Tk):QLe (ts.length - 1) (frecord ts):=by
 unfold frecord
 refine (fname_l1 ts).qb fun n r1 h1=>((fneed_le _ r1).mono h1).qb fun _ r2 h2=>((fnames_le r2).mono h2).qb fun l r3 h3=>((fneed_le _ r3).mono h3).qb fun _ r4 h4=>.ok h4
theorem ffunc_l1 (ts:List Tk):QLe (ts.length - 1) (ffunc ts):=by
 unfold ffunc
 have t1:ts.tail.length=ts.length - 1:=List.length_tail
 refine ((fname_le _).mono (by omega)).qb fun n r1 h1=>((fneed_le _ r1).mono h1).qb fun _ r2 h2=>((fpar_le r2).mono h2).qb fun l r3 h3=>((fneed_le _ r3).mono h3).qb fun _ r4 h4=>(((fstm_all _).2.1 _ r4).mono h4).qb fun _ r5 h5=>.ok h5
theorem stle_none {st st':St} {o:Nat} (c:AObj) (h:st.obj o=none) (l:StLe st' st):StLe (st'.set o c) st :=
 ⟨fun p x hp=>by rw [St.obj_set_ne (fun e=>by rw [e,h] at hp; cases hp)]; exact l.obj p x hp,l.tok,l.glob⟩
theorem ADef.mono {P:Program} {f:FuncId} {caps:List AV} {st:St} {pv:Option AV} {Q Q':St→Prop} (h:ADef P f caps st pv Q) (hq:∀ s,Q s→Q' s):ADef P f caps st pv Q' :=
 fun g w rcaps hs hl hc u hu=>(h g w rcaps hs hl hc u hu).mono fun _ _ _ ⟨h1,h2,g',st',h3,h4,h5⟩=>⟨h1,h2,g',st',h3,h4,hq _ h5⟩
theorem re2 {st:St} {tk tk2 tk':Nat} (h:st.tok tk=false) (h2:(st.addTok tk).tok tk2=false):StLe ((((st.addTok tk).addTok tk2).untok tk).addTok tk') ((st.addTok tk').addTok tk2):=by
 refine ⟨fun _ _ h=>h,fun t ht=>?_,rfl⟩
 have hne:tk2≠tk:=fun e=>by rw [e,St.tok_addTok] at h2; cases h2
 simp only [St.addTok,St.untok] at ht ⊢
 by_cases e1:t=tk'
 ·rw [if_pos e1]
 ·rw [if_neg e1]
  by_cases e2:t=tk
  ·subst e2
   rw [if_neg (Ne.symm hne),if_neg e1,h] at ht
   cases ht
  ·rw [if_neg e2]
   by_cases e3:t=tk2
   ·rw [if_pos e3]
   ·rw [if_neg e3,if_neg e2]
    rw [if_neg e3,if_neg e1] at ht
    exact ht
theorem pparse_err {s:List UInt8} (h:(scan s).2.2≠0):pparse s=.error ((scan s).2.1,(scan s).2.2):=by
 unfold pparse
 generalize scan s=r at h
 obtain ⟨ts,l,e⟩:=r
 cases e with
 | zero=>exact absurd rfl h
 | succ e=>rfl
theorem pparse_of {s:List UInt8} (h:(scan s).2.2=0):pparse s=match fprog (scan s).1 with
  | .ok (p,_)=>.ok p
  | .error (e,r)=>.error ((hd r).line,e):=by
 unfold pparse
 generalize scan s=r at h
 obtain ⟨ts,l,e⟩:=r
 simp only at h
 subst h
 rfl
set_option maxHeartbeats 2000000 in
theorem parse_ok (s:List UInt8) (st:St) (hg1:st.row 1=some signRow) (hg0:st.row 0=some wordRow) (hg:st.row 3=some sgnRow) :
  ACalls Tryz.prog 10 [.str s] st (fun v st'=>v=parV (pparse s)∧st'=st) (fun _ _=>False):=by
 refine ACalls.ofBodyD (fd:=21) Tryz.func10 rfl Tryz.ntmps10 rfl ?_
 refine AD.seq (rg ?_)
 refine al rfl rfl fun oP hP=>?_
 refine al rfl rfl fun oL hL=>?_
 refine al rfl rfl fun oE hE=>?_
 refine nl ?_
 refine AD.seq (rg ?_)
 refine goE ?_
 refine cle rfl rfl (scan_ok s _ hg1 hg0) ?_
 unfold scanV
 refine goE ?_
 refine soU rfl (Ne.symm (set_ne_new hE)) rfl rfl rfl rfl rfl ?_
 refine soV rfl rfl rfl rfl rfl rfl ?_
 refine nl ?_
 have nLE:oL≠oE:=set_ne_new hE
 have nPE:oP≠oE:=ne_inner hE
 have nPL:oP≠oL:=set_ne_new hL
 have hLn:∀ c,(st.set oP c).obj oL=none:=none_set hL
 have hEn:∀ c d,((st.set oP c).set oL d).obj oE=none:=none_set2 hE
 have oPx:∀ a b c,(((st.set oP a).set oL b).set oE c).obj oP=some a:=fun a b c=>by rw [St.obj_set_ne nPE,St.obj_set_ne nPL,St.obj_set]
 have oLx:∀ a b c,(((st.set oP a).set oL b).set oE c).obj oL=some b:=fun a b c=>by rw [St.obj_set_ne nLE,St.obj_set]
 have oEx:∀ a b c,(((st.set oP a).set oL b).set oE c).obj oE=some c:=fun a b c=>St.obj_set _ _ _
 by_cases he:(scan s).2.2=0
 rotate_left
 ·have hp:=pparse_err he
  have he':¬ ((scan s).2.2:Int)=0:=by omega
  refine AD.seq ?_
  refine AWP.weaken (T':=[(4,.cptr oE 1 0 0),(3,.cptr oL 1 0 0),(2,.cptr oP 2 0 0)]) (st':=((st.set oP (pgC nilV nilV)).set oL (iC 3 (scan s).2.1)).set oE (iC 29 (scan s).2.2)) (tl3 rfl rfl rfl) (.refl _) ?_
  generalize hS:((st.set oP (pgC nilV nilV)).set oL (iC 3 (scan s).2.1)).set oE (iC 29 (scan s).2.2)=S
  have hPS:S.obj oP=some (.cells 28 2 [[nilV,nilV]]):=by rw [← hS]; exact oPx _ _ _
  have hLS:S.obj oL=some (.cells 3 1 [[.int .i64 ((scan s).2.1:Int)]]):=by rw [← hS]; exact oLx _ _ _
  have hES:S.obj oE=some (.cells 29 1 [[.int .i64 ((scan s).2.2:Int)]]):=by rw [← hS]; exact oEx _ _ _
  refine goD ?_
  refine AWP.any rfl ?_
  apply AAny.segY (k':=6) (S:=_) (Es:=[3,4,5]) (sts:=fun bs=>match bs with|[_,_,_]=>some S|_=>none) (F:=fun x y=>y=x) (base:=S) (hok:=by decide +kernel) (hS:=rfl) (h0:=rfl) (hF:=rfl) (hb:=.refl _)
  apply dqY (hi:=rfl) (hd:=rfl) (hw:=rfl) (h:=fun _ _=>bds (cs:=[nilV,nilV]) rfl rfl rfl rfl nz)
  repeat (apply dqY (hi:=rfl) (hd:=rfl) (hw:=rfl) (h:=fun _ _=>ZH (z:=nz)))
  apply deY (L:=[[false,false,false]]) (hL:=rfl) (hd:=rfl) (hw:=rfl) (h:=by
   refine ⟨?_,trivial⟩
   ·intro s0 e
    cases e
    refine ⟨_,rfl,fun S2 hs hle=>?_⟩
    rw [hs]
    refine so (rows':=[[nilV,nilV]]) rfl rfl rfl hPS rfl rfl rfl rfl rfl ?_
    exact nl ⟨rfl,St.set_same hPS,by rw [St.set_same hPS]; exact .refl _⟩)
  apply deY (L:=[[true,false,false]]) (hL:=rfl) (hd:=rfl) (hw:=rfl) (h:=by
   refine ⟨?_,trivial⟩
   ·intro s0 e
    cases e
    refine ⟨_,rfl,fun S2 hs hle=>?_⟩
    rw [hs]
    refine so (rows':=[[.int .i64 ((scan s).2.1:Int)]]) rfl rfl rfl hLS rfl rfl rfl rfl rfl ?_
    exact nl ⟨rfl,St.set_same hLS,by rw [St.set_same hLS]; exact .refl _⟩)
  apply deY (L:=[[true,true,false]]) (hL:=rfl) (hd:=rfl) (hw:=rfl) (h:=by
   refine ⟨?_,trivial⟩
   ·intro s0 e
    cases e
    refine ⟨_,rfl,fun S2 hs hle=>?_⟩
    rw [hs]
    refine so (rows':=[[.int .i64 ((scan s).2.2:Int)]]) rfl rfl rfl hES rfl rfl rfl rfl rfl ?_
    exact nl ⟨rfl,St.set_same hES,by rw [St.set_same hES]; exact .refl _⟩)
  refine dnY rfl fun S2 hs _=>?_
  rw [hs]
  refine AAny.text rfl ?_
  refine nl ?_
  refine AWP.ret (rets (resCW rfl hPS rfl rfl rfl (resC rfl hLS rfl rfl (resC rfl hES rfl rfl rfl))) (by rw [hp]; exact .refl _) ?_ ⟨rfl,rfl⟩)
  rw [← hS]
  exact StLe.new (hEn _ _) (StLe.new (hLn _) (StLe.new hP (.refl _)))
 obtain ⟨H,h0⟩:=scan_RdH he
 have hp:=pparse_of he
 rw [he]
 generalize (scan s).1=ts at H h0 hp
 generalize hl0:(scan s).2.1=l0
 clear hl0 he
 have hl:=H.len
 refine AD.seq ?_
 refine AWP.weaken (T':=[(5,.view 4 (ts.map tokRow) .shared),(4,.cptr oE 1 0 0),(3,.cptr oL 1 0 0),(2,.cptr oP 2 0 0)]) (st':=((st.set oP (pgC nilV nilV)).set oL (iC 3 l0)).set oE (iC 29 0)) (tl4 rfl rfl rfl rfl) (.refl _) ?_
 refine goD ?_
 refine AD.dfr rfl rfl ?_
 refine goD ?_
 refine bds (cs:=[.view 4 (ts.map tokRow) .shared,.int .i64 0]) rfl rfl rfl rfl ?_
 refine bx rfl rfl rfl rfl fun oQ hQ=>?_
 replace hQ:=none_set3 hQ
 have nQP:oQ≠oP:=Ne.symm (ne_inner2 (hQ ob0 ob0 ob0))
 have nQL:oQ≠oL:=Ne.symm (ne_inner (hQ ob0 ob0 ob0))
 have nQE:oQ≠oE:=Ne.symm (set_ne_new (hQ ob0 ob0 ob0))
 have sP:st.obj oP=none:=hP
 have sL:st.obj oL=none:=by have:=hLn ob0; rwa [St.obj_set_ne (Ne.symm nPL)] at this
 have sE:st.obj oE=none:=by have:=hEn ob0 ob0; rwa [St.obj_set_ne (Ne.symm nLE),St.obj_set_ne (Ne.symm nPE)] at this
 have hpan:∀ (T:Tmps) (st':St) (l e:Nat) (r f:AV) (l1 e1:Int),T.get 2=some (.cptr oP 2 0 0)→T.get 3=some (.cptr oL 1 0 0)→T.get 4=some (.cptr oE 1 0 0)→pparse s=.error (l,e)→StLe st' st→st'.obj oP=some (pgC r f)→st'.obj oL=some (iC 3 l1)→st'.obj oE=some (iC 29 e1) →
   ADef Tryz.prog 21 [.cptr oP 2 0 0,.cptr oL 1 0 0,.cptr oE 1 0 0] st' (some (fai l e)) (fun st2=>∃ vs v st1,resA Tryz.prog st2 T [.cell 2 28,.cell 3 3,.cell 4 29]=some vs∧Le (packA vs) v∧StLe st2 st1∧v=parV (pparse s)∧st1=st):=by
  intro T st' l e r f l1 e1 g2 g3 g4 hpp hle h1 h2 h3
  refine ADef.mono (pclose_some h1 h2 h3 l e) fun s2 hs2=>?_
  subst hs2
  refine ⟨_,_,st,resCW g2 (by rw [St.obj_set_ne nPE,St.obj_set_ne nPL]; exact St.obj_set _ _ _) rfl rfl rfl (resC g3 (by rw [St.obj_set_ne nLE]; exact St.obj_set _ _ _) rfl rfl (resC g4 (St.obj_set _ _ _) rfl rfl rfl)),.refl _,stle_none _ sE (stle_none _ sL (stle_none _ sP hle)),by rw [hpp]; rfl,rfl⟩
 refine goE ?_
 refine nl ?_
 refine AWP.weaken (T':=[(6,.cptr oQ 2 0 0),(4,.cptr oE 1 0 0),(3,.cptr oL 1 0 0),(2,.cptr oP 2 0 0)]) (st':=(((st.set oP (pgC nilV nilV)).set oL (iC 3 l0)).set oE (iC 29 0)).set oQ (prC (ts.map tokRow) 0)) (tl4 rfl rfl rfl rfl) (.refl _) ?_
 have hle4:∀ (tk1:St) a b c d,StLe tk1 st→StLe ((((tk1.set oP a).set oL b).set oE c).set oQ d) st:=fun tk1 a b c d h=>stle_none _ (by have:=hQ ob0 ob0 ob0; rwa [St.obj_set_ne nQE,St.obj_set_ne nQL,St.obj_set_ne nQP] at this) (stle_none _ sE (stle_none _ sL (stle_none _ sP h)))
 have oPx2:∀ (s:St) a b c,(((s.set oP a).set oL b).set oE c).obj oP=some a:=fun s a b c=>by rw [St.obj_set_ne nPE,St.obj_set_ne nPL,St.obj_set]
 have gP:∀ (s:St) a b c d,((((s.set oP a).set oL b).set oE c).set oQ d).obj oP=some a:=fun s a b c d=>by rw [St.obj_set_ne (Ne.symm nQP),St.obj_set_ne nPE,St.obj_set_ne nPL,St.obj_set]
 have gL:∀ (s:St) a b c d,((((s.set oP a).set oL b).set oE c).set oQ d).obj oL=some b:=fun s a b c d=>by rw [St.obj_set_ne (Ne.symm nQL),St.obj_set_ne nLE,St.obj_set]
 have gE:∀ (s:St) a b c d,((((s.set oP a).set oL b).set oE c).set oQ d).obj oE=some c:=fun s a b c d=>by rw [St.obj_set_ne (Ne.symm nQE),St.obj_set]
 have wP:∀ (s:St) a b c d a',((((s.set oP a).set oL b).set oE c).set oQ d).set oP a'=(((s.set oP a').set oL b).set oE c).set oQ d:=fun s a b c d a'=>by
  rw [St.set_comm _ nQP,St.set_comm _ (Ne.symm nPE),St.set_comm _ (Ne.symm nPL),St.set_set]
 refine AWP.nilIn (o:=oP) (i:=0) (j:=0) (row:=[nilV,nilV]) 60 2 (gP _ _ _ _ _) rfl rfl fun tk htk=>?_
 rw [show ∀ a b c d e,(((((st.set oP a).set oL b).set oE c).set oQ d).addTok tk).set oP e=(((((st.addTok tk).set oP a).set oL b).set oE c).set oQ d).set oP e from fun _ _ _ _ _=>rfl,wP]
 refine AWP.nilIn (o:=oP) (i:=0) (j:=1) (row:=[.view 2 [] (.own tk 60),nilV]) 36 4 (gP _ _ _ _ _) rfl rfl fun tk2 htk2=>?_
 rw [show ∀ a b c d e,((((((st.addTok tk).set oP a).set oL b).set oE c).set oQ d).addTok tk2).set oP e=((((((st.addTok tk).addTok tk2).set oP a).set oL b).set oE c).set oQ d).set oP e from fun _ _ _ _ _=>rfl,wP]
 replace htk2:(st.addTok tk).tok tk2=false:=htk2
 have hpe:∀ e,fprog ts=.error e→pparse s=.error ((hd e.2).line,e.1):=fun e h=>by rw [hp,h]
 have hpo:∀ p r,fprog ts=.ok (p,r)→pparse s=.ok p:=fun p r h=>by rw [hp,h]
 obtain ⟨Res,hRes⟩:∃ Res,Res=frecs (ts.length + 1) [] ts:=⟨_,rfl⟩
 refine AWP.seq ?_
 refine AWP.block ?_
 refine AWP.loop (α:=List Rec × Nat × Nat × Nat) (fun _=>[(6,.cptr oQ 2 0 0),(4,.cptr oE 1 0 0),(3,.cptr oL 1 0 0),(2,.cptr oP 2 0 0)])
  (fun y=>(((((st.addTok y.2.2.1).addTok tk2).set oP (pgC (.view 2 (y.1.map recRow) (.own y.2.2.1 60)) (.view 4 [] (.own tk2 36)))).set oL (iC 3 l0)).set oE (iC 29 0)).set oQ (prC (ts.map tokRow) y.2.1))
  (fun y=>y.2.1 < ts.length∧st.tok y.2.2.1=false∧(st.addTok y.2.2.1).tok tk2=false∧y.1.length≤y.2.1∧(ts.drop y.2.1).length < y.2.2.2∧Res=frecs y.2.2.2 y.1 (ts.drop y.2.1)) (fun y=>ts.length - y.2.1) ([],0,tk,ts.length + 1)
  ⟨h0,htk,htk2,Nat.le_refl _,by simp,hRes⟩ (tl4 rfl rfl rfl rfl) (.refl _) ?_
 clear htk htk2 tk
 rintro ⟨R,b,tk,fu⟩ ⟨hb,htk,htk2,hRb,hfu,hI⟩
 simp only at hb htk htk2 hRb hfu hI
 refine AWP.weaken (T':=[(6,.cptr oQ 2 0 0),(4,.cptr oE 1 0 0),(3,.cptr oL 1 0 0),(2,.cptr oP 2 0 0)]) (st':=(((((st.addTok tk).addTok tk2).set oP (pgC (.view 2 (R.map recRow) (.own tk 60)) (.view 4 [] (.own tk2 36)))).set oL (iC 3 l0)).set oE (iC 29 0)).set oQ (prC (ts.map tokRow) b)) (tl4 rfl rfl rfl rfl) (.refl _) ?_
 obtain ⟨fu,rfl⟩:∃ f,fu=f + 1:=⟨fu - 1,by omega⟩
 generalize hS:((((st.addTok tk).addTok tk2).set oP (pgC (.view 2 (R.map recRow) (.own tk 60)) (.view 4 [] (.own tk2 36)))).set oL (iC 3 l0)).set oE (iC 29 0)=S
 have hSP:∀ c,(S.set oQ (prC (ts.map tokRow) c)).obj oP=some (.cells 28 2 [[.view 2 (R.map recRow) (.own tk 60),.view 4 [] (.own tk2 36)]]):=fun c=>by rw [← hS]; exact gP _ _ _ _ _
 have hSL:∀ c,(S.set oQ (prC (ts.map tokRow) c)).obj oL=some (iC 3 l0):=fun c=>by rw [← hS]; exact gL _ _ _ _ _
 have hSE:∀ c,(S.set oQ (prC (ts.map tokRow) c)).obj oE=some (iC 29 0):=fun c=>by rw [← hS]; exact gE _ _ _ _ _
 have hSg:∀ c,StLe (S.set oQ (prC (ts.map tokRow) c)) st:=fun c=>by rw [← hS]; exact hle4 _ _ _ _ _ (StLe.addTok _ (StLe.addTok _ (.refl _)))
 have htkS:S.tok tk=true:=by
  rw [← hS]
  show ((st.addTok tk).addTok tk2).tok tk=true
  simp only [St.addTok]
  split
  ·rfl
  ·simp
 obtain ⟨t,t1,t3,t5,t6,ps,pw,pt⟩:=pneed_of H (St.obj_set S oQ (prC (ts.map tokRow) b)) hb
 rw [frecs,t3,t5] at hI
 refine goD ?_
 refine cl rfl rfl (pw wRecord) fun v st' ⟨hv,hst⟩=>?_
 subst hv
 subst hst
 by_cases c1:kw t wRecord=true
 ·rw [if_pos c1] at hI
  rw [if_pos c1,c1,St.set_set]
  have hb1:=t6 (kw_kind c1)
  refine goD ?_
  refine AWP.any rfl ?_
  obtain ⟨x,hy0⟩:∃ y,∀ x r,frecord (ts.drop (b + 1))=.ok (x,r)→x=y:=by
   cases frecord (ts.drop (b + 1)) with
   | error e=>exact ⟨⟨[],[]⟩,fun x r h=>by cases h⟩
   | ok p=>exact ⟨p.1,fun x r h=>by cases h; rfl⟩
  have hXb:((S.set oQ (prC (ts.map tokRow) (b + 1))).drop oQ).obj oP=some (.cells 28 2 [[.view 2 (R.map recRow) (.own tk 60),.view 4 [] (.own tk2 36)]]):=by
   rw [St.obj_drop_ne (Ne.symm nQP),St.obj_set_ne (Ne.symm nQP),← hS]; exact oPx2 _ _ _ _
  apply AAny.segXT (T0:=[(4,.cptr oE 1 0 0),(3,.cptr oL 1 0 0),(2,.cptr oP 2 0 0)]) (X:=fun pv st'=>ADef Tryz.prog 21 [.cptr oP 2 0 0,.cptr oL 1 0 0,.cptr oE 1 0 0] st' (some pv) (fun st2=>∃ vs v st1,resA Tryz.prog st2 [(4,.cptr oE 1 0 0),(3,.cptr oL 1 0 0),(2,.cptr oP 2 0 0)] [.cell 2 28,.cell 3 3,.cell 4 29]=some vs∧Le (packA vs) v∧StLe st2 st1∧v=parV (pparse s)∧st1=st))
   (hX:=fun _ _ h=>h) (hT0:=(tl3 rfl rfl rfl)) (k':=5) (Es:=[3]) (J:=OpG ts (S.set oQ (prC (ts.map tokRow) (b + 1))) oQ (fun r=>.agg (recRow r)) (frecord (ts.drop (b + 1)))) (base:=(S.set oQ (prC (ts.map tokRow) (b + 1))).drop oQ) (hok:=by decide +kernel) (hkp:=rfl) (hJ:=rfl)
   (hb:=by have:=StLe.drop_set (st:=S.set oQ (prC (ts.map tokRow) (b + 1))) (o:=oQ) (r:=prC (ts.map tokRow) (b + 1)); rwa [St.set_same (St.obj_set _ _ _)] at this)
  repeat (first|apply dsP (hi:=rfl) (hs:=rfl)|apply dqP (hi:=rfl) (hd:=rfl) (hw:=rfl) (h:=fun _ _=>ZC (z:=nz))|apply dqP (hi:=rfl) (hd:=rfl) (hw:=rfl) (h:=fun _ _=>ZH (z:=nz)))
  apply deP (Q:=fun v=>v=.agg (recRow x)) (L:=[[false]]) (hL:=rfl) (hd:=rfl) (hw:=rfl) (hex:=⟨_,rfl⟩) (h:=by
   refine ⟨?_,trivial⟩
   intro vs hvs hlk s2 hJ hle
   obtain ⟨v1,rfl,e1⟩:=vs1 hvs
   obtain rfl:v1=none:=by simpa using e1
   have hs0:s2=S.set oQ (prC (ts.map tokRow) (b + 1)):=hJ
   rw [hs0]
   refine clq rfl rfl (precord_ok H (St.obj_set _ _ _) hb1) (fun v st' ⟨e,k,q1,q2,q3,q4⟩=>?_) fun v st' hR=>?_
   ·rw [q2,q3,St.set_set]
    exact hpan _ _ _ _ _ _ _ _ rfl rfl rfl (hpe (e,ts.drop k) (by rw [fprog,← hRes,hI,qb_err (qb_err q4)])) (hSg _) (hSP _) (hSL _) (hSE _)
   ·obtain ⟨x',c,hv,hc,hst,hr⟩:=hR
    subst hv
    subst hst
    obtain rfl:=hy0 _ _ hr
    exact nl ⟨_,rfl,rfl,⟨x',c,rfl,hc,rfl,hr⟩,StLe.drop_set⟩)
  rintro v rfl
  apply dqP (hi:=rfl) (hd:=rfl) (hw:=rfl) (h:=fun _ _=>bs1 (v:=.agg (recRow x)) rfl rfl rfl rfl rfl rfl nz)
  refine dnP fun s2 hs=>?_
  obtain ⟨x',c,hv,hc,hst,hr⟩:=hs
  obtain rfl:=hy0 _ _ hr
  rw [hst,St.set_set]
  rw [qb_ok hr] at hI
  have hcl:=frecord_l1 _ _ _ hr
  rw [List.length_drop,List.length_drop] at hcl
  refine AAny.text rfl ?_
  refine ap rfl rfl rfl htkS rfl (by simp only [List.length_cons,List.length_nil,List.length_map]; omega) (by simp only [List.length_cons,List.length_nil,List.length_map,maxLen]; omega) fun tk' htk'=>?_
  have hm:R.map recRow++[(AV.agg (recRow x')).cells]=(R++[x']).map recRow:=by rw [List.map_append]; rfl
  rw [hm]
  refine goE ?_
  refine so (rows':=[[.view 2 ((R++[x']).map recRow) (.own tk' 60),.view 4 [] (.own tk2 36)]]) rfl rfl rfl (hSP c) rfl rfl rfl rfl rfl ?_
  refine nl ?_
  have htk3:tk'≠tk∧tk'≠tk2∧st.tok tk'=false:=by
   have h:S.tok tk'=false:=htk'
   rw [← hS] at h
   have h:((st.addTok tk).addTok tk2).tok tk'=false:=h
   simp only [St.addTok] at h
   split at h
   ·cases h
   ·split at h
    ·cases h
    ·exact ⟨by assumption,by assumption,h⟩
  obtain ⟨u1,u2,u3⟩:=htk3
  refine ⟨(R++[x'],c,tk',fu),⟨hc,u3,?_,by simp only [List.length_append,List.length_cons,List.length_nil]; omega,by simp only [List.length_drop] at hfu ⊢; omega,hI⟩,by simp only; omega,(tl4 rfl rfl rfl rfl),?_⟩
  ·simp only [St.addTok] at htk2 ⊢
   rw [if_neg (Ne.symm u2)]
   split at htk2
   ·cases htk2
   ·exact htk2
  ·subst hS
   show StLe ((((((((((st.addTok tk).addTok tk2).untok tk).addTok tk').set oP _).set oL _).set oE _).set oQ _)).set oP _) _
   rw [wP]
   exact StLe.set _ _ (StLe.set _ _ (StLe.set _ _ (StLe.set _ _ (re2 htk htk2))))
 ·rw [if_neg c1] at hI
  rw [if_neg c1]
  rw [Bool.not_eq_true] at c1
  rw [c1]
  refine goD ?_
  refine AWP.exit (blk_hit ?_)
  have hpF:fprog ts=qb (ffuns ((ts.drop b).length + 1) [] (ts.drop b)) fun F r2=>if (hd r2).kind=0 then .ok ((R,F),r2) else .error (7,r2):=by rw [fprog,← hRes,hI,qb_ok rfl]
  obtain ⟨Re2,hRe2⟩:∃ Re2,Re2=ffuns ((ts.drop b).length + 1) [] (ts.drop b):=⟨_,rfl⟩
  rw [← hRe2] at hpF
  have hb0:=hb
  subst hS
  clear hSP hSL hSE hSg htkS hI hRes t1 t3 t5 t6 ps pw pt c1
  refine AWP.seq ?_
  refine AWP.block ?_
  refine AWP.loop (α:=List Fn × Nat × Nat × Nat) (fun _=>[(6,.cptr oQ 2 0 0),(4,.cptr oE 1 0 0),(3,.cptr oL 1 0 0),(2,.cptr oP 2 0 0)])
   (fun y=>(((((st.addTok tk).addTok y.2.2.1).set oP (pgC (.view 2 (R.map recRow) (.own tk 60)) (.view 4 (y.1.map fnRow) (.own y.2.2.1 36)))).set oL (iC 3 l0)).set oE (iC 29 0)).set oQ (prC (ts.map tokRow) y.2.1))
   (fun y=>y.2.1 < ts.length∧(st.addTok tk).tok y.2.2.1=false∧y.1.length≤y.2.1∧(ts.drop y.2.1).length < y.2.2.2∧Re2=ffuns y.2.2.2 y.1 (ts.drop y.2.1)) (fun y=>ts.length - y.2.1) ([],b,tk2,(ts.drop b).length + 1)
   ⟨hb,htk2,Nat.zero_le _,by simp,hRe2⟩ (tl4 rfl rfl rfl rfl) (.refl _) ?_
  clear hfu hRe2 htk2 hb0 hRb hb
  rintro ⟨F,b,tk2,fu⟩ ⟨hb,htk2,hFb,hfu,hI⟩
  simp only at hb htk2 hFb hfu hI
  refine AWP.weaken (T':=[(6,.cptr oQ 2 0 0),(4,.cptr oE 1 0 0),(3,.cptr oL 1 0 0),(2,.cptr oP 2 0 0)]) (st':=(((((st.addTok tk).addTok tk2).set oP (pgC (.view 2 (R.map recRow) (.own tk 60)) (.view 4 (F.map fnRow) (.own tk2 36)))).set oL (iC 3 l0)).set oE (iC 29 0)).set oQ (prC (ts.map tokRow) b)) (tl4 rfl rfl rfl rfl) (.refl _) ?_
  obtain ⟨fu,rfl⟩:∃ f,fu=f + 1:=⟨fu - 1,by omega⟩
  generalize hS:((((st.addTok tk).addTok tk2).set oP (pgC (.view 2 (R.map recRow) (.own tk 60)) (.view 4 (F.map fnRow) (.own tk2 36)))).set oL (iC 3 l0)).set oE (iC 29 0)=S
  have hSP:∀ c,(S.set oQ (prC (ts.map tokRow) c)).obj oP=some (.cells 28 2 [[.view 2 (R.map recRow) (.own tk 60),.view 4 (F.map fnRow) (.own tk2 36)]]):=fun c=>by rw [← hS]; exact gP _ _ _ _ _
  have hSL:∀ c,(S.set oQ (prC (ts.map tokRow) c)).obj oL=some (iC 3 l0):=fun c=>by rw [← hS]; exact gL _ _ _ _ _
  have hSE:∀ c,(S.set oQ (prC (ts.map tokRow) c)).obj oE=some (iC 29 0):=fun c=>by rw [← hS]; exact gE _ _ _ _ _
  have hSg:∀ c,StLe (S.set oQ (prC (ts.map tokRow) c)) st:=fun c=>by rw [← hS]; exact hle4 _ _ _ _ _ (StLe.addTok _ (StLe.addTok _ (.refl _)))
  have hgS:∀ c,(S.set oQ c).row 3=some sgnRow:=fun c=>by rw [← hS]; exact hg
  have htkS:S.tok tk2=true:=by
   rw [← hS]
   exact St.tok_addTok _ _
  obtain ⟨t,t1,t3,t5,t6,ps,pw,pt⟩:=pneed_of H (St.obj_set S oQ (prC (ts.map tokRow) b)) hb
  rw [ffuns,t3] at hI
  refine goD ?_
  refine cl rfl rfl (pw wFunc) fun v st' ⟨hv,hst⟩=>?_
  subst hv
  subst hst
  by_cases c1:kw t wFunc=true
  ·rw [if_pos c1] at hI
   rw [if_pos c1,c1,St.set_set]
   have hb1:=t6 (kw_kind c1)
   refine goD ?_
   refine AWP.any rfl ?_
   obtain ⟨x,hy0⟩:∃ y,∀ x r,ffunc (ts.drop b)=.ok (x,r)→x=y:=by
    cases ffunc (ts.drop b) with
    | error e=>exact ⟨⟨0,[],[],[],0⟩,fun x r h=>by cases h⟩
    | ok p=>exact ⟨p.1,fun x r h=>by cases h; rfl⟩
   have hXb:((S.set oQ (prC (ts.map tokRow) (b + 1))).drop oQ).obj oP=some (.cells 28 2 [[.view 2 (R.map recRow) (.own tk 60),.view 4 (F.map fnRow) (.own tk2 36)]]):=by
    rw [St.obj_drop_ne (Ne.symm nQP),St.obj_set_ne (Ne.symm nQP),← hS]; exact oPx2 _ _ _ _
   apply AAny.segXT (T0:=[(4,.cptr oE 1 0 0),(3,.cptr oL 1 0 0),(2,.cptr oP 2 0 0)]) (X:=fun pv st'=>ADef Tryz.prog 21 [.cptr oP 2 0 0,.cptr oL 1 0 0,.cptr oE 1 0 0] st' (some pv) (fun st2=>∃ vs v st1,resA Tryz.prog st2 [(4,.cptr oE 1 0 0),(3,.cptr oL 1 0 0),(2,.cptr oP 2 0 0)] [.cell 2 28,.cell 3 3,.cell 4 29]=some vs∧Le (packA vs) v∧StLe st2 st1∧v=parV (pparse s)∧st1=st))
    (hX:=fun _ _ h=>h) (hT0:=(tl3 rfl rfl rfl)) (k':=5) (Es:=[3]) (J:=OpG ts (S.set oQ (prC (ts.map tokRow) (b + 1))) oQ (fun r=>.agg (fnRow r)) (ffunc (ts.drop b))) (base:=(S.set oQ (prC (ts.map tokRow) (b + 1))).drop oQ) (hok:=by decide +kernel) (hkp:=rfl) (hJ:=rfl)
    (hb:=by have:=StLe.drop_set (st:=S.set oQ (prC (ts.map tokRow) (b + 1))) (o:=oQ) (r:=prC (ts.map tokRow) (b + 1)); rwa [St.set_same (St.obj_set _ _ _)] at this)
   repeat (first|apply dsP (hi:=rfl) (hs:=rfl)|apply dqP (hi:=rfl) (hd:=rfl) (hw:=rfl) (h:=fun _ _=>ZC (z:=nz))|apply dqP (hi:=rfl) (hd:=rfl) (hw:=rfl) (h:=fun _ _=>ZH (z:=nz)))
   apply deP (Q:=fun v=>v=.agg (fnRow x)) (L:=[[false]]) (hL:=rfl) (hd:=rfl) (hw:=rfl) (hex:=⟨_,rfl⟩) (h:=by
    refine ⟨?_,trivial⟩
    intro vs hvs hlk s2 hJ hle
    obtain ⟨v1,rfl,e1⟩:=vs1 hvs
    obtain rfl:v1=none:=by simpa using e1
    have hs0:s2=S.set oQ (prC (ts.map tokRow) (b + 1)):=hJ
    rw [hs0]
    refine clq rfl rfl (pfunction_ok H (St.obj_set _ _ _) hb1 (hgS _)) (fun v st' ⟨e,k,q1,q2,q3,q4⟩=>?_) fun v st' hR=>?_
    ·rw [q2,q3,St.set_set]
     exact hpan _ _ _ _ _ _ _ _ rfl rfl rfl (hpe (e,ts.drop k) (by rw [hpF,hI,qb_err (qb_err q4)])) (hSg _) (hSP _) (hSL _) (hSE _)
    ·obtain ⟨x',c,hv,hc,hst,hr⟩:=hR
     subst hv
     subst hst
     obtain rfl:=hy0 _ _ hr
     exact nl ⟨_,rfl,rfl,⟨x',c,rfl,hc,rfl,hr⟩,StLe.drop_set⟩)
   rintro v rfl
   apply dqP (hi:=rfl) (hd:=rfl) (hw:=rfl) (h:=fun _ _=>bs1 (v:=.agg (fnRow x)) rfl rfl rfl rfl rfl rfl nz)
   refine dnP fun s2 hs=>?_
   obtain ⟨x',c,hv,hc,hst,hr⟩:=hs
   obtain rfl:=hy0 _ _ hr
   rw [hst,St.set_set]
   rw [qb_ok hr] at hI
   have hcl:=ffunc_l1 _ _ _ hr
   rw [List.length_drop,List.length_drop] at hcl
   refine AAny.text rfl ?_
   refine ap rfl rfl rfl htkS rfl (by simp only [List.length_cons,List.length_nil,List.length_map]; omega) (by simp only [List.length_cons,List.length_nil,List.length_map,maxLen]; omega) fun tk' htk'=>?_
   have hm:F.map fnRow++[(AV.agg (fnRow x')).cells]=(F++[x']).map fnRow:=by rw [List.map_append]; rfl
   rw [hm]
   refine goE ?_
   refine so (rows':=[[.view 2 (R.map recRow) (.own tk 60),.view 4 ((F++[x']).map fnRow) (.own tk' 36)]]) rfl rfl rfl (hSP c) rfl rfl rfl rfl rfl ?_
   refine nl ?_
   have htk3:(st.addTok tk).tok tk'=false:=by
    have h:S.tok tk'=false:=htk'
    rw [← hS] at h
    exact St.tok_of_add h
   refine ⟨(F++[x'],c,tk',fu),⟨hc,htk3,by simp only [List.length_append,List.length_cons,List.length_nil]; omega,by simp only [List.length_drop] at hfu ⊢; omega,hI⟩,by simp only; omega,(tl4 rfl rfl rfl rfl),?_⟩
   subst hS
   show StLe ((((((((((st.addTok tk).addTok tk2).untok tk2).addTok tk').set oP _).set oL _).set oE _).set oQ _)).set oP _) _
   rw [wP]
   exact StLe.set _ _ (StLe.set _ _ (StLe.set _ _ (StLe.set _ _ (StLe.reTok htk2 tk'))))
  ·rw [if_neg c1] at hI
   rw [if_neg c1]
   rw [Bool.not_eq_true] at c1
   rw [c1]
   rw [hI,qb_ok rfl,t3] at hpF
   refine goD ?_
   refine AWP.exit (blk_hit ?_)
   refine goD ?_
   refine cle rfl rfl pt ?_
   refine fd (v:=.int .i64 (t.kind:Int)) rfl rfl rfl ?_
   by_cases hk:t.kind=0
   ·have hk':(t.kind:Int)=0:=by omega
    rw [if_pos hk] at hpF
    refine goD ?_
    refine lcW rfl rfl rfl (hSP b) rfl rfl ?_
    refine so (rows':=[[.view 2 (R.map recRow) (.own tk 60),.view 4 (F.map fnRow) (.own tk2 36)]]) rfl rfl rfl (hSP b) rfl rfl rfl rfl rfl ?_
    rw [St.set_same (hSP b)]
    refine so (rows':=[[.int .i64 0]]) rfl rfl rfl (hSL b) rfl rfl rfl rfl rfl ?_
    refine so (rows':=[[.int .i64 0]]) rfl rfl rfl (show ((S.set oQ (prC (ts.map tokRow) b)).set oL _).obj oE=some (.cells 29 1 [[.int .i64 0]]) by rw [St.obj_set_ne (Ne.symm nLE)]; exact hSE b) rfl rfl rfl rfl rfl ?_
    refine nl ?_
    refine AWP.ret ?_
    refine ADef.mono pclose_none fun s2 hs2=>?_
    rw [hs2]
    refine ⟨_,_,st,resCW rfl (by rw [St.obj_set_ne nPE,St.obj_set_ne nPL]; exact hSP b) rfl rfl rfl (resC rfl (by rw [St.obj_set_ne nLE]; exact St.obj_set _ _ _) rfl rfl (resC rfl (St.obj_set _ _ _) rfl rfl rfl)),?_,stle_none _ sE (stle_none _ sL (hSg _)),rfl,rfl⟩
    rw [hpo _ _ hpF]
    refine .tuple _ _ rfl fun i x y h1 h2=>?_
    match i,h1,h2 with
    | 0,h1,h2 =>
     cases h1; cases h2
     refine .agg _ _ rfl (fun x hx=>by simp only [pgRow,List.mem_cons,List.not_mem_nil,or_false] at hx; rcases hx with rfl|rfl <;> rfl) fun i x y h1 h2=>?_
     match i,h1,h2 with
     | 0,h1,h2=>cases h1; cases h2; exact .shared _ _ _
     | 1,h1,h2=>cases h1; cases h2; exact .shared _ _ _
     | n + 2,h1,_=>cases h1
    | 1,h1,h2=>cases h1; cases h2; exact .refl _
    | 2,h1,h2=>cases h1; cases h2; exact .refl _
    | n + 3,h1,_=>cases h1
   ·have hk':¬ (t.kind:Int)=0:=by omega
    rw [if_neg hk] at hpF
    refine goD ?_
    refine clq rfl rfl (pfail_P H (r:=fprog ts) (St.obj_set _ _ _) hb 7 hpF) (fun v st' ⟨e,k,q1,q2,q3,q4⟩=>?_) fun v st' h=>h.elim
    rw [q2,q3,St.set_set]
    exact hpan _ _ _ _ _ _ _ _ rfl rfl rfl (hpe (e,ts.drop k) q4) (hSg _) (hSP _) (hSL _) (hSE _)
end Go.Proofs
namespace Go.Proofs
open Go.AM
attribute [local irreducible] AWP AOps ACalls AAny

def jnT:Names→List UInt8
 | []=>[]
 | [a]=>a
 | a::b::r=>a++[44,32]++jnT (b::r)
def JoinOk (l:Names):Prop:=∀ st,ACalls Tryz.prog 30 [.view 1 (nrow l) .shared,.str [44,32]] st (fun v st'=>v=.str (jnT l)∧st'=st) (fun _ _=>False)
def recL (r:Rec):Names:=[[114,101,99,111,114,100,32],r.name,[32,123,32],jnT r.fields,[32,125]]
def recT (r:Rec):List UInt8:=lnT 0 (recL r)
def fnL (f:Fn):Names:=[[102,117,110,99,32],f.name,[40],jnT f.params,[41,32,123]]
def fnT (f:Fn):List UInt8:=lnT 0 (fnL f)++prL 1 (f.body++[endSp f.stop])++lnT 0 [[125]]
def prT (p:Prg):List UInt8:=(p.1.map recT).flatten++(p.2.map fnT).flatten
structure WP (p:Prg):Prop where
 r:p.1.length≤100000
 f:p.2.length≤100000
 b:∀ f ∈ p.2,WSps f.body∧f.body.length < 100000
theorem WSps.app:∀ {l:List Sp} {s:Sp},WSps l→WSp s→WSps (l++[s])
 | [],s,_,h=>by rw [List.nil_append,WSps,WSps]; exact ⟨h,trivial⟩
 | a::l,s,h1,h2=>by
  rw [WSps] at h1
  rw [List.cons_append,WSps]
  exact ⟨h1.1,WSps.app h1.2 h2⟩
theorem WSp_end (n:Nat):WSp (endSp n):=by
 rw [endSp,WSp,WSps]
 exact ⟨fun x h=>(by cases h),fun x h=>(by cases h),Nat.zero_le _,Nat.zero_le _,by decide,trivial,trivial,Nat.zero_le _,Nat.zero_le _⟩
theorem recRow_at (l:List Rec) (i:Nat) (r:Rec) (h:l[i]?=some r):(l.map recRow)[i]?=some [.str r.name,.view 1 (nrow r.fields) .shared]:=by rw [List.getElem?_map,h]; rfl
theorem fnRow_at (l:List Fn) (i:Nat) (f:Fn) (h:l[i]?=some f):(l.map fnRow)[i]?=some [.str f.name,.int .i64 (f.line:Int),.view 1 (nrow f.params) .shared,.view 13 (spRows (f.body++[endSp f.stop])) .shared]:=by rw [List.getElem?_map,h]; rfl
theorem map_take_succ {α:Type} (f:α→List UInt8) (l:List α) (i:Nat) (x:α) (h:l[i]?=some x):((l.take (i + 1)).map f).flatten=((l.take i).map f).flatten++f x:=by
 rw [List.take_add_one,h]
 simp
theorem map_take_le {α:Type} (f:α→List UInt8) (l:List α) (i:Nat):((l.take i).map f).flatten.length≤(l.map f).flatten.length:=by
 have h:(l.map f).flatten=((l.take i).map f).flatten++((l.drop i).map f).flatten:=by rw [← List.flatten_append,← List.map_append,List.take_append_drop]
 rw [h,List.length_append]
 omega
set_option maxHeartbeats 2000000 in
theorem pprint_ok {p:Prg} (hw:WP p) (hJ:∀ r ∈ p.1,JoinOk r.fields) (hJ2:∀ f ∈ p.2,JoinOk f.params) (hb:(prT p).length≤wMax) (st:St) (hg:GSt st) :
  ACalls Tryz.prog 16 [.agg (pgRow p)] st (fun v st'=>v=.str (prT p)∧st'=st) (fun _ _=>False):=by
 obtain ⟨R,F⟩:=p
 obtain ⟨w1,w2,w3⟩:=hw
 simp only at w1 w2 w3 hJ hJ2
 unfold prT at hb ⊢
 simp only [List.length_append] at hb ⊢
 unfold pgRow
 simp only
 have hrl:(R.map recRow).length=R.length:=List.length_map ..
 have hfl:(F.map fnRow).length=F.length:=List.length_map ..
 refine ACalls.ofBody Tryz.func16 rfl Tryz.ntmps16 rfl ?_
 refine goC ?_
 refine rg ?_
 refine bxe rfl rfl rfl rfl ?_
 refine sm rfl ?_
 refine nl ?_
 refine goC ?_
 refine rg ?_
 refine bds (cs:=[.lit (.pointer none),nilV]) rfl rfl rfl rfl ?_
 refine bx rfl rfl rfl rfl fun o ho=>?_
 refine goE ?_
 refine nl ?_
 have h0:WOk st o [] none:=⟨fun _ e=>(by cases e),fun _=>rfl⟩
 refine AWP.weaken (T':=[(3,.cptr o 2 0 0),(1,.eptr 2 [[.view 2 (R.map recRow) .shared,.view 4 (F.map fnRow) .shared]] 0 0)]) (st':=wS st o false [] none) (tl2 rfl rfl) (.refl _) ?_
 refine goD ?_
 refine AWP.loop (α:=Nat × Bool × Option Nat) (fun y=>[(13,.int .i64 (y.1:Int)),(12,.int .i64 ((R.map recRow).length:Int)),(11,.view 2 (R.map recRow) .shared),(3,.cptr o 2 0 0),(1,.eptr 2 [[.view 2 (R.map recRow) .shared,.view 4 (F.map fnRow) .shared]] 0 0)]) (fun y=>wS st o y.2.1 ((R.take y.1).map recT).flatten y.2.2) (fun y=>y.1≤R.length∧WOk st o ((R.take y.1).map recT).flatten y.2.2) (fun y=>R.length - y.1) (0,false,none)
  ⟨Nat.zero_le _,h0⟩ (tl5 rfl rfl rfl rfl rfl) (.refl _) ?_
 rintro ⟨i,u,oo⟩ ⟨hi,h⟩
 simp only at hi h
 refine AWP.weaken (T':=[(13,.int .i64 (i:Int)),(12,.int .i64 ((R.map recRow).length:Int)),(11,.view 2 (R.map recRow) .shared),(3,.cptr o 2 0 0),(1,.eptr 2 [[.view 2 (R.map recRow) .shared,.view 4 (F.map fnRow) .shared]] 0 0)]) (st':=wS st o u ((R.take i).map recT).flatten oo) (tl5 rfl rfl rfl rfl rfl) (.refl _) ?_
 by_cases hlt:i < R.length
 ·obtain ⟨r,hr⟩:∃ r,R[i]?=some r:=⟨_,List.getElem?_eq_getElem hlt⟩
  have hrr:=recRow_at R i r hr
  have hir:i < (R.map recRow).length:=by omega
  have hft:=map_take_succ recT R i r hr
  have hle:=map_take_le recT R (i + 1)
  rw [hft,List.length_append] at hle
  have hj:=hJ r (List.mem_of_getElem? hr)
  refine goD ?_
  refine AWP.any rfl ?_
  apply AAny.segQ (k':=7) (hok:=by decide +kernel)
  repeat (first|apply dsY (hi:=rfl) (hs:=rfl)|apply dqY (hi:=rfl) (hd:=rfl) (hw:=rfl) (h:=fun _ _=>ZF (z:=nz))|apply dqY (hi:=rfl) (hd:=rfl) (hw:=rfl) (h:=fun _ _=>ZC (z:=nz)))
  apply dqY (hi:=rfl) (hd:=rfl) (hw:=rfl) (h:=fun st' hle=>cle rfl rfl (hj st') nz)
  apply dqY (hi:=rfl) (hd:=rfl) (hw:=rfl) (h:=fun _ _=>bsh (cs:=[.str [114,101,99,111,114,100,32],.str r.name,.str [32,123,32],.str (jnT r.fields),.str [32,125]]) rfl rfl rfl rfl rfl nz)
  refine dnQ ?_
  refine AAny.one rfl rfl rfl rfl ?_
  refine cl rfl rfl (line_ok h 0 (recL r) _ (by exact Nat.le_of_ble_eq_true rfl) (show _ + (recT r).length≤wMax by omega)) fun v st' ⟨u3,oo3,h3,hst⟩=>nl ⟨_,rfl,?_⟩
  subst hst
  refine AAny.text rfl ?_
  refine nl ?_
  rw [show lnT 0 (recL r)=recT r from rfl,← hft] at h3 ⊢
  refine goD ?_
  exact ⟨(i + 1,u3,oo3),⟨by simp only; omega,h3⟩,by simp only; omega,(tl5 rfl rfl rfl rfl rfl),.refl _⟩
 have hil:i=R.length:=by omega
 subst hil
 rw [List.take_length] at h ⊢
 refine goD ?_
 refine AWP.exit (blk_hit ?_)
 refine goD ?_
 refine AWP.loop (α:=Nat × Bool × Option Nat) (fun y=>[(29,.int .i64 (y.1:Int)),(28,.int .i64 ((F.map fnRow).length:Int)),(27,.view 4 (F.map fnRow) .shared),(3,.cptr o 2 0 0)]) (fun y=>wS st o y.2.1 ((R.map recT).flatten++((F.take y.1).map fnT).flatten) y.2.2) (fun y=>y.1≤F.length∧WOk st o ((R.map recT).flatten++((F.take y.1).map fnT).flatten) y.2.2) (fun y=>F.length - y.1) (0,u,oo)
  ⟨Nat.zero_le _,by simpa using h⟩ (tl4 rfl rfl rfl rfl) (by simp only [List.take_zero,List.map_nil,List.flatten_nil,List.append_nil]; exact .refl _) ?_
 clear h oo u
 rintro ⟨i,u,oo⟩ ⟨hi,h⟩
 simp only at hi h
 refine AWP.weaken (T':=[(29,.int .i64 (i:Int)),(28,.int .i64 ((F.map fnRow).length:Int)),(27,.view 4 (F.map fnRow) .shared),(3,.cptr o 2 0 0)]) (st':=wS st o u ((R.map recT).flatten++((F.take i).map fnT).flatten) oo) (tl4 rfl rfl rfl rfl) (.refl _) ?_
 by_cases hlt:i < F.length
 ·obtain ⟨f,hf⟩:∃ f,F[i]?=some f:=⟨_,List.getElem?_eq_getElem hlt⟩
  have hrr:=fnRow_at F i f hf
  have hir:i < (F.map fnRow).length:=by omega
  have hft:=map_take_succ fnT F i f hf
  have hle:=map_take_le fnT F (i + 1)
  rw [hft,List.length_append] at hle
  have hj:=hJ2 f (List.mem_of_getElem? hf)
  obtain ⟨wb,wl⟩:=w3 f (List.mem_of_getElem? hf)
  have hli:=wlist_ok (wb.app (WSp_end f.stop)) (by rw [List.length_append,List.length_cons,List.length_nil]; omega)
  have hfn:(fnT f).length=(lnT 0 (fnL f)).length + (prL 1 (f.body++[endSp f.stop])).length + (lnT 0 [[125]]).length:=by rw [fnT,List.length_append,List.length_append]
  refine goD ?_
  refine AWP.any rfl ?_
  apply AAny.segQ (k':=7) (hok:=by decide +kernel)
  repeat (first|apply dsY (hi:=rfl) (hs:=rfl)|apply dqY (hi:=rfl) (hd:=rfl) (hw:=rfl) (h:=fun _ _=>ZF (z:=nz))|apply dqY (hi:=rfl) (hd:=rfl) (hw:=rfl) (h:=fun _ _=>ZC (z:=nz)))
  apply dqY (hi:=rfl) (hd:=rfl) (hw:=rfl) (h:=fun st' hle=>cle rfl rfl (hj st') nz)
  apply dqY (hi:=rfl) (hd:=rfl) (hw:=rfl) (h:=fun _ _=>bsh (cs:=[.str [102,117,110,99,32],.str f.name,.str [40],.str (jnT f.params),.str [41,32,123]]) rfl rfl rfl rfl rfl nz)
  refine dnQ ?_
  refine AAny.one rfl rfl rfl rfl ?_
  refine cl rfl rfl (line_ok h 0 (fnL f) _ (by exact Nat.le_of_ble_eq_true rfl) (by rw [List.length_append]; omega)) fun v st' ⟨u3,oo3,h3,hst⟩=>nl ⟨_,rfl,?_⟩
  subst hst
  refine AAny.text rfl ?_
  refine nl ?_
  refine goD ?_
  refine cl rfl rfl (hli 1 _ o u3 _ oo3 hg h3 (by simp only [List.length_append]; omega)) fun v st' ⟨u4,oo4,h4,hst⟩=>?_
  subst hst
  refine goD ?_
  refine cl rfl rfl (line_ok h4 0 [[125]] _ (by exact Nat.le_of_ble_eq_true rfl) (by simp only [List.length_append]; omega)) fun v st' ⟨u5,oo5,h5,hst⟩=>?_
  subst hst
  have e:(R.map recT).flatten++((F.take i).map fnT).flatten++lnT 0 (fnL f)++prL 1 (f.body++[endSp f.stop])++lnT 0 [[125]]=(R.map recT).flatten++((F.take (i + 1)).map fnT).flatten:=by rw [hft,fnT]; simp
  rw [e] at h5 ⊢
  refine goD ?_
  exact ⟨(i + 1,u5,oo5),⟨by simp only; omega,h5⟩,by simp only; omega,(tl4 rfl rfl rfl rfl),.refl _⟩
 have hil:i=F.length:=by omega
 subst hil
 rw [List.take_length] at h ⊢
 refine goD ?_
 refine AWP.exit (blk_hit ?_)
 refine goD ?_
 refine cl rfl rfl (builderString_ok h (by rw [List.length_append]; exact hb)) fun v st' ⟨hv,c,hst⟩=>?_
 subst hv
 subst hst
 refine goD ?_
 exact AWP.ret (rets rfl (.refl _) (StLe.new ho (.refl _)) ⟨rfl,rfl⟩)
end Go.Proofs
namespace Go.Proofs
open Go.AM
attribute [local irreducible] AWP AOps ACalls AAny

theorem join_one {l:Names} (h:l.length≤1):JoinOk l:=by
 intro st
 refine ACalls.ofBody Tryz.func30 rfl Tryz.ntmps30 rfl ?_
 match l,h with
 | [],_ =>
  refine goD ?_
  exact AWP.ret (rets rfl (.refl _) (.refl _) ⟨rfl,rfl⟩)
 | [a],_ =>
  refine goD ?_
  exact AWP.ret (rets rfl (.refl _) (.refl _) ⟨rfl,rfl⟩)
 | _::_::_,h=>exact absurd h (by simp)
end Go.Proofs
namespace Go.Proofs
open Go.AM
attribute [local irreducible] AWP AOps ACalls AAny

structure LTp (st:St):Prop where
 signs:st.row 1=some signRow
 words:st.row 0=some wordRow
 gs:GSt st
theorem LTp.parse {st:St} (h:LTp st) (s:List UInt8):ACalls Tryz.prog 10 [.str s] st (fun v st'=>v=parV (pparse s)∧st'=st) (fun _ _=>False):=parse_ok s st h.signs h.words h.gs.ops
def kText:List UInt8:=[102,117,110,99,32,102,40,97,41,123,114,101,116,117,114,110,32,40,97,43,49,41,42,50,59,125]
def kProg:Prg:=([],[⟨1,[102],[[97]],[.mk 6 1 [] [] 0 [] [] [.bin 8 (.bin 6 (.var [97]) (.lit 1)) (.lit 2)] [] []],1⟩])
theorem kParse:pparse kText=.ok kProg:=by kernel_rfl
def kOut:List UInt8:=[102,117,110,99,32,102,40,97,41,32,123,10,9,114,101,116,117,114,110,32,40,97,32,43,32,49,41,32,42,32,50,59,10,125,10]
theorem kPrint:prT kProg=kOut:=by kernel_rfl
theorem kWP:WP kProg:=by
 refine ⟨by decide,by decide,fun f hf=>?_⟩
 rw [List.mem_singleton.1 hf]
 refine ⟨?_,by decide⟩
 rw [WSps,WSps,WSp,WSps]
 refine ⟨⟨fun x h=>(by cases h),fun x h=>?_,by decide,by decide,by decide,trivial,trivial,by decide,by decide⟩,trivial⟩
 rw [List.mem_singleton.1 h]
 refine ⟨⟨by decide,by decide,⟨by decide,by decide,trivial,trivial⟩,trivial⟩,⟨trivial,?_⟩,?_⟩
 ·show 1 < 1000000000000000000; decide
 ·show 2 < 1000000000000000000; decide
set_option maxHeartbeats 1000000 in
theorem known_ok (st:St) (hT:LTp st):ACalls Tryz.prog 11 [] st (fun v st'=>v=.bool true∧st'=st) (fun _ _=>False):=by
 refine ACalls.ofBody Tryz.func11 rfl Tryz.ntmps11 rfl ?_
 have hrow:pgRow kProg=[.view 2 [] .shared,.view 4 [[.str [102],.int .i64 1,.view 1 [[.str [97]]] .shared,.view 13 [spRow (.mk 6 1 [] [] 0 [] [] [.bin 8 (.bin 6 (.var [97]) (.lit 1)) (.lit 2)] [] []),spRow (endSp 1)] .shared]] .shared]:=by kernel_rfl
 have hp:=hT.parse kText
 rw [kParse,show parV (.ok kProg)=.tuple [.agg (pgRow kProg),.int .i64 0,.int .i64 0] from rfl,hrow] at hp
 have hq:=pprint_ok kWP (fun r h=>by cases h) (fun f hf=>by rw [List.mem_singleton.1 hf]; exact join_one (by decide)) (by rw [kPrint]; decide) st hT.gs
 rw [kPrint,hrow] at hq
 generalize spRow (.mk 6 1 [] [] 0 [] [] [.bin 8 (.bin 6 (.var [97]) (.lit 1)) (.lit 2)] [] [])=r1 at hp hq
 generalize spRow (endSp 1)=r2 at hp hq
 clear hrow
 refine goC ?_
 refine rg ?_
 refine goE ?_
 refine nl ?_
 refine goC ?_
 refine rg ?_
 refine cle rfl rfl hp ?_
 refine goD ?_
 refine cle rfl rfl hq ?_
 refine goD ?_
 exact AWP.ret (rets rfl (.refl _) (.refl _) ⟨rfl,rfl⟩)
end Go.Proofs
namespace Go.Proofs.YthjcphjabiajbaaGreatDoor
open Go.ChangeShapes Go.WideShapes Go.ChangeAt Go.RowKit Go.AM

theorem own:ownKnob Tryz.prog.godebug=none:=by kernel_rfl
theorem laidOut:laidOutB Tryz.prog=true:=by kernel_rfl
def laidAll : List (String × DataW Unit) := [("math/bits.deBruijn32tab", Rows.laid_math_bits_deBruijn32tab), ("math/bits.deBruijn64tab", Rows.laid_math_bits_deBruijn64tab), ("internal/strconv.uint64pow10", Rows.laid_internal_strconv_uint64pow10), ("debugger/lexer.words", Rows.laid_debugger_lexer_words), ("debugger/lexer.signs", Rows.laid_debugger_lexer_signs), ("debugger/parser.operators", Rows.laid_debugger_parser_operators)]

theorem kinds:∀ t ∈ [3,9,22,100,135,161,167],Go.AM.kindOk Tryz.prog [3,9,22,100,135,161,167] t=true:=by
 intro t ht
 simp only [List.mem_cons,List.not_mem_nil,or_false] at ht
 rcases ht with rfl|rfl|rfl|rfl|rfl|rfl|rfl <;> kernel_rfl
theorem pow_row:litRow (Rows.laid_internal_strconv_uint64pow10:DataW Unit)=some powRow:=by kernel_rfl
theorem op_row:litRow (Rows.laid_debugger_parser_operators:DataW Unit)=some sgnRow:=by kernel_rfl
def tabL:List (Nat × List AV):=[(0,wordRow),(1,signRow),(3,sgnRow),(4,powRow)]
theorem tables {W:World} (h:laidMetH Tryz.prog laidAll W):∀ gi row,(gi,row) ∈ tabL→GlobAt (G0 W) W gi row:=by
 have h':laidMet Tryz.prog laidAll W:=h
 intro gi row hm
 simp only [tabL,List.mem_cons,List.not_mem_nil,or_false] at hm
 rcases hm with hm|hm|hm|hm
 ·cases hm
  exact laid_row kinds h' (n := "debugger/lexer.words") (t := 100) (.tail _ (.tail _ (.tail _ (.head _)))) rfl (by kernel_rfl) (by kernel_rfl) (by decide) (by decide)
 ·cases hm
  exact laid_row kinds h' (n := "debugger/lexer.signs") (t := 135) (.tail _ (.tail _ (.tail _ (.tail _ (.head _))))) rfl (by kernel_rfl) (by kernel_rfl) (by decide) (by decide)
 ·cases hm
  exact laid_row kinds h' (n := "debugger/parser.operators") (t := 100) (.tail _ (.tail _ (.tail _ (.tail _ (.tail _ (.head _)))))) op_row (by kernel_rfl) (by kernel_rfl) (by decide) (by decide)
 ·cases hm
  exact laid_row kinds h' (n := "internal/strconv.uint64pow10") (t := 167) (.tail _ (.tail _ (.head _))) pow_row (by kernel_rfl) (by kernel_rfl) (by decide) (by decide)
theorem hT {o:Nat→Option AObj} {tk:Nat→Bool}:LTp { obj:=o,tok:=tk,glob:=tabL }:=⟨rfl,rfl,⟨.tail _ (.tail _ (.tail _ (.head _))),rfl⟩⟩
end Go.Proofs.YthjcphjabiajbaaGreatDoor
namespace Go.Proofs
open Go.AM

theorem qb_qb {α β γ:Type} (r:QR α) (f:α→List Tk→QR β) (g:β→List Tk→QR γ):qb (qb r f) g=qb r fun x t=>qb (f x t) g:=by
 cases r with
 | error e=>rfl
 | ok p=>rfl
theorem qb_ret {α β:Type} (x:α) (t:List Tk) (f:α→List Tk→QR β):qb (.ok (x,t)) f=f x t:=rfl
def fval (c:Bool) (ts:List Tk):QR (List UInt8 × List Xp):=if c && seesC ts then fcall ts else qb (qx ts) fun x r=>.ok (([],[x]),r)
def feff (ts:List Tk):QR Sm :=
 if seesC ts then qb (fcall ts) fun c r=>.ok (⟨3,[],c.1,c.2⟩,r)
 else qb (qt ts) fun y r=>qb (fneed [61] r) fun _ r2 =>
  if seesC r2 then qb (fcall r2) fun c r3=>.ok (⟨3,[y],c.1,c.2⟩,r3) else qb (qx r2) fun x r3=>.ok (⟨2,[y],[],[x]⟩,r3)
theorem fsimple_eq (ts:List Tk):fsimple ts=if kw (hd ts) wReturn then qb (fval true ts.tail) fun c r=>.ok (⟨6,[],c.1,c.2⟩,r)
  else if kw (hd ts) wThrow then qb (fval false ts.tail) fun c r=>.ok (⟨7,[],c.1,c.2⟩,r)
  else if kw (hd ts) wPrint then qb (fval false ts.tail) fun c r=>.ok (⟨9,[],c.1,c.2⟩,r) else feff ts:=by
 unfold fsimple feff fval
 rw [Bool.true_and,Bool.false_and]
 by_cases h1:kw (hd ts) wReturn=true
 ·rw [if_pos h1,if_pos h1]
  by_cases h2:seesC ts.tail=true
  ·rw [if_pos h2,if_pos h2]
  ·rw [if_neg h2,if_neg h2]
   simp only [qb_qb,qb_ret]
 ·rw [if_neg h1,if_neg h1,if_neg (by decide:¬ false=true)]
  simp only [qb_qb,qb_ret]
def fty (ts:List Tk):QR (List UInt8 × Nat) :=
 if kw (hd ts) wInt then
  if sg (hd ts.tail) [91] then
   if (hd ts.tail.tail).kind=2 then
    if (hd ts.tail.tail).num < 1∨8 < (hd ts.tail.tail).num then .error (5,ts.tail.tail)
    else qb (fneed [93] ts.tail.tail.tail) fun _ r3=>.ok (([],(hd ts.tail.tail).num),r3)
   else .error (7,ts.tail.tail)
  else .ok (([],0),ts.tail)
 else qb (fname ts) fun ty r3=>.ok ((ty,0),r3)
theorem fdecl_eq (ts:List Tk):fdecl ts=qb (fname ts) fun n r1=>qb (fneed [58] r1) fun _ r2=>qb (fty r2) fun p r3=>qb (fneed [59] r3) fun _ r4=>.ok ((n,p.1,p.2),r4):=by
 unfold fdecl
 congr 1
 funext n r1
 congr 1
 funext _ r2
 unfold fty
 by_cases h1:kw (hd r2) wInt=true
 ·rw [if_pos h1,if_pos h1]
  by_cases h2:sg (hd r2.tail) [91]=true
  ·rw [if_pos h2,if_pos h2]
   by_cases h3:(hd r2.tail.tail).kind=2
   ·rw [if_pos h3,if_pos h3]
    by_cases h4:(hd r2.tail.tail).num < 1∨8 < (hd r2.tail.tail).num
    ·rw [if_pos h4,if_pos h4]; rfl
    ·rw [if_neg h4,if_neg h4]
     simp only [qb_qb,qb_ret]
   ·rw [if_neg h3,if_neg h3]; rfl
  ·rw [if_neg h2,if_neg h2]; rfl
 ·rw [if_neg h1,if_neg h1]
  simp only [qb_qb,qb_ret]
def fcatch (ts:List Tk):QR Unit:=if kw (hd ts) wCatch then .ok ((),ts.tail) else .error (7,ts)
theorem fstm_pos {k d:Nat} {ts:List Tk} (hb:begS (hd ts)=true) (h8:¬ 8 < d):fstm (k + 1) d ts =
  if kw (hd ts) wVar then qb (fdecl ts.tail) fun x r=>.ok (.mk 1 (hd ts).line x.1 x.2.1 x.2.2 [] [] [] [] [],r)
  else if kw (hd ts) wIf then qb (qx ts.tail) fun x r=>qb (fblk k (d + 1) r) fun b r2 =>
   if kw (hd r2) wElse then qb (fblk k (d + 1) r2.tail) fun e r3=>.ok (.mk 4 (hd ts).line [] [] 0 [] [] [x] b e,r3) else .ok (.mk 4 (hd ts).line [] [] 0 [] [] [x] b [],r2)
  else if kw (hd ts) wWhile then qb (qx ts.tail) fun x r=>qb (fblk k (d + 1) r) fun b r2=>.ok (.mk 5 (hd ts).line [] [] 0 [] [] [x] b [],r2)
  else if kw (hd ts) wTry then qb (fblk k (d + 1) ts.tail) fun b r=>qb (fcatch r) fun _ r1=>qb (fname r1) fun n r2=>qb (fblk k (d + 1) r2) fun e r3=>.ok (.mk 8 (hd ts).line n [] 0 [] [] [] b e,r3)
  else if kw (hd ts) wReturn then qb (fval true ts.tail) fun c r=>qb (fneed [59] r) fun _ r2=>.ok (.mk 6 (hd ts).line [] [] 0 [] c.1 c.2 [] [],r2)
  else if kw (hd ts) wThrow then qb (fval false ts.tail) fun c r=>qb (fneed [59] r) fun _ r2=>.ok (.mk 7 (hd ts).line [] [] 0 [] c.1 c.2 [] [],r2)
  else if kw (hd ts) wPrint then qb (fval false ts.tail) fun c r=>qb (fneed [59] r) fun _ r2=>.ok (.mk 9 (hd ts).line [] [] 0 [] c.1 c.2 [] [],r2)
  else qb (feff ts) fun m r=>qb (fneed [59] r) fun _ r2=>.ok (.mk m.kind (hd ts).line [] [] 0 m.target m.fn m.args [] [],r2):=by
 rw [fstm,if_pos hb,if_neg h8]
 by_cases c1:kw (hd ts) wVar=true
 ·rw [if_pos c1,if_pos c1]
 rw [if_neg c1,if_neg c1]
 by_cases c2:kw (hd ts) wIf=true
 ·rw [if_pos c2,if_pos c2]
 rw [if_neg c2,if_neg c2]
 by_cases c3:kw (hd ts) wWhile=true
 ·rw [if_pos c3,if_pos c3]
 rw [if_neg c3,if_neg c3]
 by_cases c4:kw (hd ts) wTry=true
 ·rw [if_pos c4,if_pos c4]
  congr 1
  funext b r
  unfold fcatch
  by_cases c:kw (hd r) wCatch=true
  ·rw [if_pos c,if_pos c,qb_ok rfl]
  ·rw [if_neg c,if_neg c]; rfl
 rw [if_neg c4,if_neg c4,fsimple_eq]
 by_cases c5:kw (hd ts) wReturn=true
 ·rw [if_pos c5,if_pos c5]
  simp only [qb_qb,qb_ret]
 rw [if_neg c5,if_neg c5]
 by_cases c6:kw (hd ts) wThrow=true
 ·rw [if_pos c6,if_pos c6]
  simp only [qb_qb,qb_ret]
 rw [if_neg c6,if_neg c6]
 by_cases c7:kw (hd ts) wPrint=true
 ·rw [if_pos c7,if_pos c7]
  simp only [qb_qb,qb_ret]
 rw [if_neg c7,if_neg c7]
end Go.Proofs
namespace Go.Proofs
open Go.AM

end Go.Proofs
namespace Go.Proofs
open Go.AM
attribute [local irreducible] AWP AOps ACalls AAny

end Go.Proofs
namespace Go.Proofs
open Go.AM
attribute [local irreducible] AWP AOps AAny

attribute [local irreducible] ACalls
end Go.Proofs
namespace Go.Proofs
open Go.AM
attribute [local irreducible] AWP AOps AAny ACalls

end Go.Proofs
namespace Go.Proofs
open Go.AM
attribute [local irreducible] AWP AOps AAny ACalls

end Go.Proofs
namespace Go.Proofs
open Go.AM
attribute [local irreducible] AWP AOps AAny ACalls

end Go.Proofs
namespace Go.Proofs
open Go.AM
attribute [local irreducible] AWP AOps AAny ACalls

end Go.Proofs
namespace Go.Proofs
open Go.AM
attribute [local irreducible] AWP AOps AAny ACalls

end Go.Proofs
namespace Go.Proofs
open Go.AM
attribute [local irreducible] AWP AOps AAny ACalls

end Go.Proofs
namespace Go.Proofs
open Go.AM
attribute [local irreducible] AWP AOps AAny ACalls

end Go.Proofs
namespace Go.Proofs
open Go.AM
attribute [local irreducible] AWP AOps AAny ACalls

end Go.Proofs
namespace Go.Proofs
open Go.AM
attribute [local irreducible] AWP AOps AAny ACalls

end Go.Proofs
namespace Go.Proofs

def bl (x:Xp):Nat:=(xby x).length
def tl (x:Xp):Nat:=(xtk x).length

theorem tw_tail (ts:List Tk):tw ts.tail + (wordOf (hd ts)).length=tw ts:=by
 cases ts with
 | nil=>rfl
 | cons t r =>
  rw [tw_cons]
  show tw r + (wordOf t).length=_
  omega
theorem len_tail {ts:List Tk} (h:(hd ts).kind≠0):ts.tail.length + 1=ts.length:=by
 cases ts with
 | nil=>exact absurd rfl h
 | cons t r=>rfl
theorem sg_word {t:Tk} {s:List UInt8} (h:sg t s=true):(wordOf t).length=s.length∧t.kind≠0:=by
 have h:t.kind=4∧t.text=s:=of_decide_eq_true h
 unfold wordOf
 rw [if_neg (by omega),h.2]
 exact ⟨rfl,by omega⟩
theorem bin_text {t:Tk} (h:(bin t).1≠0):(wordOf t).length=(sgO (bin t).2).length∧1≤(sgO (bin t).2).length∧t.kind≠0:=by
 unfold bin at *
 cases hf:binL.find? fun o=>sg t o.1 with
 | none=>rw [hf] at h; exact absurd rfl h
 | some o =>
  have h1:=List.mem_of_find?_eq_some hf
  have h2:=List.find?_some hf
  have h3:∀ o ∈ binL,sgO o.2.2=o.1∧1≤o.1.length:=by decide
  obtain ⟨a1,a2⟩:=h3 o h1
  obtain ⟨w1,w2⟩:=sg_word h2
  show _=(sgO o.2.2).length∧1≤(sgO o.2.2).length∧_
  rw [a1]
  exact ⟨w1,a2,w2⟩

theorem bl_pby (b:Bool) (l:List UInt8):(pby b l).length=l.length + 2 * b1 b:=by
 cases b <;> simp [pby,b1]
theorem tl_par (b:Bool) (l:List Tk):(par b l).length=l.length + 2 * b1 b:=by
 cases b <;> simp [par,b1]
theorem bl_bin (op:Nat) (a b:Xp):bl (.bin op a b)=bl a + 2 * b1 (lpar op a) + 2 + (sgO op).length + bl b + 2 * b1 (rpar op b):=by
 unfold bl
 simp only [xby,List.length_append,List.length_cons,bl_pby]
 omega
theorem tl_bin (op:Nat) (a b:Xp):tl (.bin op a b)=tl a + 2 * b1 (lpar op a) + 1 + tl b + 2 * b1 (rpar op b):=by
 unfold tl
 simp only [xtk,List.length_append,List.length_cons,tl_par]
 omega
theorem bl_una (op:Nat) (a:Xp):bl (.una op a)=1 + bl a + 2 * pen 5 a∧tl (.una op a)=1 + tl a + 2 * pen 5 a:=by
 have h1:bl (.una op a)=(pby (decide (lvX a < 5)) (xby a)).length + 1:=rfl
 have h2:tl (.una op a)=(par (decide (lvX a < 5)) (xtk a)).length + 1:=rfl
 rw [bl_pby] at h1
 rw [tl_par] at h2
 have e1:bl a=(xby a).length:=rfl
 have e2:tl a=(xtk a).length:=rfl
 have e3:pen 5 a=b1 (decide (lvX a < 5)):=rfl
 exact ⟨by omega,by omega⟩
theorem bl_elt (s:List UInt8) (a:Xp):bl (.elt s a)=s.length + bl a + 2∧tl (.elt s a)=tl a + 3:=by
 have h1:bl (.elt s a)=(s++91::(xby a++[93])).length:=rfl
 have h2:tl (.elt s a)=(xtk a++[tS [93]]).length + 1 + 1:=rfl
 rw [List.length_append,List.length_cons,List.length_append,List.length_cons,List.length_nil] at h1
 rw [List.length_append,List.length_cons,List.length_nil] at h2
 have e1:bl a=(xby a).length:=rfl
 have e2:tl a=(xtk a).length:=rfl
 exact ⟨by omega,by omega⟩

def WL (ts:List Tk) (x:Xp) (r:List Tk) (p:Nat):Prop:=3 * tw r + bl x + 2 * p≤3 * tw ts∧r.length + tl x + 2 * p≤ts.length

theorem wl:∀ k:Nat,(∀ lv d ts x r,1≤lv→lv≤5→pe k lv d ts=.ok (x,r)→WL ts x r (pen lv x)) ∧
  (∀ lv d a ts x r,1≤lv→lv≤4→pl k lv d a ts=.ok (x,r) →
   3 * tw r + bl x + 2 * pen lv x≤3 * tw ts + bl a + 2 * penL lv a∧r.length + tl x + 2 * pen lv x≤ts.length + tl a + 2 * penL lv a) ∧
  (∀ d ts x r,po k d ts=.ok (x,r)→WL ts x r (pen 5 x))
 | 0=>⟨fun _ _ _ _ _ _ _ h=>(by rw [pe] at h; cases h),fun _ _ _ _ _ _ _ _ h=>(by rw [pl] at h; cases h),fun _ _ _ _ h=>(by rw [po] at h; cases h)⟩
 | k + 1=>by
  obtain ⟨i1,i2,i3⟩:=wl k
  refine ⟨fun lv d ts x r h1 h5 h=>?_,fun lv d a ts x r h1 h4 h=>?_,fun d ts x r h=>?_⟩
  ·rw [pe_succ] at h
   split at h
   ·have:lv=5:=by omega
    subst this
    exact i3 d ts x r h
   ·cases hp:pe k (lv + 1) d ts with
    | error e=>rw [hp] at h; cases h
    | ok p =>
     obtain ⟨a,r1⟩:=p
     rw [hp] at h
     simp only at h
     obtain ⟨a1,a2⟩:=i1 (lv + 1) d ts a r1 (by omega) (by omega) hp
     have hu:=pen_up lv a h1
     obtain ⟨c1,c2⟩:=i2 lv d a r1 x r h1 (by omega) h
     exact ⟨by omega,by omega⟩
  ·rw [pl_succ] at h
   split at h
   ·rename_i hb
    obtain ⟨o1,o2,o3,o4⟩:=bin_op (t:=hd ts) (by omega)
    obtain ⟨q1,q2,q3⟩:=bin_text (t:=hd ts) (by omega)
    have ot:=tw_tail ts
    have ol:=len_tail q3
    cases hp:pe k (lv + 1) d ts.tail with
    | error e=>rw [hp] at h; cases h
    | ok p =>
     obtain ⟨b,r1⟩:=p
     rw [hp] at h
     simp only at h
     obtain ⟨a1,a2⟩:=i1 (lv + 1) d ts.tail b r1 (by omega) (by omega) hp
     have hl:lvX (.bin (bin (hd ts)).2 a b)=lv:=by rw [← hb,← o1]; rfl
     have elp:b1 (lpar (bin (hd ts)).2 a)=penL lv a:=by unfold lpar penL; rw [o1,hb]
     have erp:b1 (rpar (bin (hd ts)).2 b)=pen (lv + 1) b:=by
      unfold rpar pen
      rw [o1,hb]
      congr 1
      exact decide_eq_decide.2 (by omega)
     have hbl:=bl_bin (bin (hd ts)).2 a b
     have htl:=tl_bin (bin (hd ts)).2 a b
     rw [elp,erp] at hbl htl
     have hp0:pen lv (.bin (bin (hd ts)).2 a b)=0:=by
      unfold pen
      rw [hl,decide_eq_false (by omega)]
      rfl
     split at h
     ·cases h
      rw [hp0]
      exact ⟨by omega,by omega⟩
     ·rename_i hl1
      have hp1:penL lv (.bin (bin (hd ts)).2 a b)=0:=by
       unfold penL
       rw [hl,decide_eq_false (by omega)]
       rfl
      obtain ⟨c1,c2⟩:=i2 lv d _ r1 x r h1 h4 h
      rw [hp1] at c1 c2
      exact ⟨by omega,by omega⟩
   ·cases h
    have hp:=pen_le lv a
    exact ⟨by omega,by omega⟩
  ·rw [po_succ] at h
   have ot:=tw_tail ts
   have ot2:=tw_tail ts.tail
   have ot3:=tw_tail ts.tail.tail
   split at h
   ·rename_i hb
    have h0:(hd ts).kind≠0:=by
     intro e
     simp [beg,sg,e] at hb
    have ol:=len_tail h0
    split at h
    ·cases h
    split at h
    ·rename_i c
     cases h
     have e:pen 5 (.lit (hd ts).num)=0:=rfl
     have w:(wordOf (hd ts)).length=bl (.lit (hd ts).num):=by unfold wordOf bl; rw [if_pos c]; rfl
     rw [e]
     refine ⟨by omega,?_⟩
     show _ + 1 + _≤_
     omega
    split at h
    ·rename_i c0 c1
     have w:(wordOf (hd ts)).length=(hd ts).text.length:=by unfold wordOf; rw [if_neg (by omega)]
     split at h
     ·rename_i c2
      obtain ⟨w2,k2⟩:=sg_word c2
      have ol2:=len_tail k2
      split at h
      ·rename_i c3
       cases h
       have w3:(wordOf (hd ts.tail.tail)).length=(hd ts.tail.tail).text.length:=by unfold wordOf; rw [if_neg (by omega)]
       have ol3:=len_tail (ts:=ts.tail.tail) (by omega)
       have e:pen 5 (.fld (hd ts).text (hd ts.tail.tail).text)=0:=rfl
       have e2:bl (.fld (hd ts).text (hd ts.tail.tail).text)=(hd ts).text.length + 1 + (hd ts.tail.tail).text.length:=by
        unfold bl
        simp only [xby,List.length_append,List.length_cons]
        omega
       have e3:tl (.fld (hd ts).text (hd ts.tail.tail).text)=3:=rfl
       simp only [List.length_cons,List.length_nil] at w2
       rw [e]
       exact ⟨by omega,by omega⟩
      ·cases h
     split at h
     ·rename_i c2 c3
      obtain ⟨w2,k2⟩:=sg_word c3
      have ol2:=len_tail k2
      cases hp:pe k 1 (d + 1) ts.tail.tail with
      | error e=>rw [hp] at h; cases h
      | ok p =>
       obtain ⟨a,r1⟩:=p
       rw [hp] at h
       simp only at h
       obtain ⟨a1,a2⟩:=i1 1 (d + 1) ts.tail.tail a r1 (by omega) (by omega) hp
       have or:=tw_tail r1
       split at h
       ·rename_i c4
        obtain ⟨w4,k4⟩:=sg_word c4
        have ol4:=len_tail k4
        cases h
        have e:pen 5 (.elt (hd ts).text a)=0:=rfl
        obtain ⟨e2,e3⟩:=bl_elt (hd ts).text a
        simp only [List.length_cons,List.length_nil] at w2 w4
        rw [e]
        exact ⟨by omega,by omega⟩
       ·cases h
     ·cases h
      have e:pen 5 (.var (hd ts).text)=0:=rfl
      have e2:bl (.var (hd ts).text)=(hd ts).text.length:=rfl
      have e3:tl (.var (hd ts).text)=1:=rfl
      rw [e]
      exact ⟨by omega,by omega⟩
    rename_i c1 c2
    have h4:(hd ts).kind=4:=by
     simp only [beg,Bool.or_eq_true,sg,decide_eq_true_eq] at hb
     omega
    have wt:(wordOf (hd ts)).length=1:=by
     simp only [beg,Bool.or_eq_true,sg,decide_eq_true_eq] at hb
     unfold wordOf
     rw [if_neg c1]
     rcases hb with ((((h|h)|h)|h)|h)
     ·omega
     ·omega
     ·rw [h.2]; rfl
     ·rw [h.2]; rfl
     ·rw [h.2]; rfl
    split at h
    ·cases hp:pe k 1 (d + 1) ts.tail with
     | error e=>rw [hp] at h; cases h
     | ok p =>
      obtain ⟨a,r1⟩:=p
      rw [hp] at h
      simp only at h
      obtain ⟨a1,a2⟩:=i1 1 (d + 1) ts.tail a r1 (by omega) (by omega) hp
      have or:=tw_tail r1
      split at h
      ·rename_i c4
       obtain ⟨w4,k4⟩:=sg_word c4
       have ol4:=len_tail k4
       cases h
       have hb1:pen 5 x≤1:=b1_le _
       simp only [List.length_cons,List.length_nil] at w4
       exact ⟨by omega,by omega⟩
      ·cases h
    ·cases hp:po k (d + 1) ts.tail with
     | error e=>rw [hp] at h; cases h
     | ok p =>
      obtain ⟨a,r1⟩:=p
      rw [hp] at h
      simp only at h
      obtain ⟨a1,a2⟩:=i3 (d + 1) ts.tail a r1 hp
      cases h
      obtain ⟨e2,e3⟩:=bl_una (if (hd ts).text=[45] then 4 else 5) a
      have e:pen 5 (.una (if (hd ts).text=[45] then 4 else 5) a)=0:=rfl
      rw [e]
      exact ⟨by omega,by omega⟩
   ·cases h
end Go.Proofs
namespace Go.Proofs

end Go.Proofs
namespace Go.Proofs

end Go.Proofs
namespace Go.Proofs
open Go.AM

def er {α:Type}:Except (Nat × List Tk) α→Except Nat α
 | .error e=>.error e.1
 | .ok x=>.ok x
theorem er_fe:∀ k:Nat,(∀ lv d ts,er (fe k lv d ts)=pe k lv d ts)∧(∀ lv d x ts,er (fl k lv d x ts)=pl k lv d x ts)∧(∀ d ts,er (fo k d ts)=po k d ts)
 | 0=>⟨fun _ _ _=>by rw [fe,pe]; rfl,fun _ _ _ _=>by rw [fl,pl]; rfl,fun _ _=>by rw [fo,po]; rfl⟩
 | k + 1=>by
  obtain ⟨i1,i2,i3⟩:=er_fe k
  refine ⟨fun lv d ts=>?_,fun lv d x ts=>?_,fun d ts=>?_⟩
  ·rw [fe,pe]
   split
   ·exact i3 d ts
   ·rw [← i1]
    cases fe k (lv + 1) d ts with
    | error e=>rfl
    | ok p=>exact i2 lv d p.1 p.2
  ·rw [fl,pl]
   split
   ·rw [← i1]
    cases fe k (lv + 1) d ts.tail with
    | error e=>rfl
    | ok p =>
     obtain ⟨y,r⟩:=p
     show er (if lv=1 then _ else _)=if lv=1 then _ else _
     split
     ·rfl
     ·exact i2 ..
   ·rfl
  ·rw [fo,po]
   split
   ·split
    ·rfl
    ·split
     ·rfl
     ·split
      ·split
       ·split <;> rfl
       ·split
        ·rw [← i1]
         cases fe k 1 (d + 1) ts.tail.tail with
         | error e=>rfl
         | ok p =>
          obtain ⟨x,r⟩:=p
          show er (if _ then _ else _)=if _ then _ else _
          split <;> rfl
        ·rfl
      ·split
       ·rw [← i1]
        cases fe k 1 (d + 1) ts.tail with
        | error e=>rfl
        | ok p =>
         obtain ⟨x,r⟩:=p
         show er (if _ then _ else _)=if _ then _ else _
         split <;> rfl
       ·rw [← i3]
        cases fo k (d + 1) ts.tail with
        | error e=>rfl
        | ok p=>rfl
   ·rfl
theorem er_ok {α:Type} {r:Except (Nat × List Tk) α} {x:α}:er r=.ok x ↔ r=.ok x:=by
 cases r with
 | error e=>exact ⟨fun h=>(by cases h),fun h=>(by cases h)⟩
 | ok y=>exact ⟨fun h=>(by cases h; rfl),fun h=>(by cases h; rfl)⟩
theorem qx_qe {ts:List Tk} {x:Xp} {r:List Tk}:Go.Proofs.qx ts=.ok (x,r) ↔ qe 1 0 ts=.ok (x,r):=by
 rw [← er_ok,Go.Proofs.qx,(er_fe _).1]
 rfl
end Go.Proofs
namespace Go.Proofs
open Go.AM

section
variable {ta tb tc:List Tk} {A B C:Xp} {n d:Nat} {rest:List Tk} {x y:Nat}
end
end Go.Proofs
namespace Go.Proofs
open Go.AM

theorem NFc {c:UInt8} (h:isNP c=false) (r:List UInt8):NF (c::r):=.inr ⟨c,r,rfl,h⟩
def tK (s:List UInt8):Tk:=⟨3,1,s,0⟩
theorem lex_kw {s rest:List UInt8} (hw:s ∈ words) (hr:NF rest):lex (s++rest) 1=(tK s::(lex rest 1).1,(lex rest 1).2):=by
 have hf:s≠[]∧s.length≤12∧(∀ c ∈ s,isNP c=true)∧(s.head?.map isLet).getD false=true:=by
  revert s
  decide
 obtain ⟨h0,h12,hnp,hlet⟩:=hf
 cases s with
 | nil=>exact absurd rfl h0
 | cons c r =>
  have hlet:isLet c=true:=by simpa using hlet
  refine lex_tok (by simp) (let_skip (hnp c (by simp))) ?_
  have ht:((c::r)++rest).takeWhile isNP=c::r:=tw_app hr hnp
  show (bif isLet c then _ else _)=_
  rw [hlet,cond_true]
  have e:(c::(r++rest)).takeWhile isNP=c::r:=ht
  show (if 12 < ((c::(r++rest)).takeWhile isNP).length then _ else _)=_
  rw [e,if_neg (by omega)]
  show Except.ok (({ kind:=if (c::(r++rest)).takeWhile isNP ∈ words then 3 else 1,line:=1,text:=(c::(r++rest)).takeWhile isNP,num:=0 }:Tk),((c::(r++rest)).takeWhile isNP).length)=_
  rw [e,if_pos hw]
  rfl
def solo:List UInt8:=[40,41,123,125,91,93,44,59,58,46,43,45,42,37,38,124,94]
theorem solo_facts:∀ c ∈ solo,c ∈ signs1∧(∀ d,[c,d] ∉ signs2)∧c≠10∧c≠32∧c≠9∧c≠13∧c≠47∧isLet c=false∧isDig c=false∧[c] ∉ signs2:=by
 intro c hc
 simp only [solo,List.mem_cons,List.not_mem_nil,or_false] at hc
 rcases hc with rfl|rfl|rfl|rfl|rfl|rfl|rfl|rfl|rfl|rfl|rfl|rfl|rfl|rfl|rfl|rfl|rfl <;> exact ⟨by decide,fun d=>by simp [signs2],by decide,by decide,by decide,by decide,by decide,by decide,by decide,by decide⟩
theorem lex_solo {c:UInt8} (hc:c ∈ solo) (rest:List UInt8):lex (c::rest) 1=(tS [c]::(lex rest 1).1,(lex rest 1).2):=by
 obtain ⟨f1,f2,f3,f4,f5,f6,f7,f8,f9,f10⟩:=solo_facts c hc
 have hs:sign (c::rest)=[c]:=by
  unfold sign
  have:(c::rest).take 2 ∉ signs2:=by
   cases rest with
   | nil=>exact f10
   | cons d r=>exact f2 d
  rw [if_neg this]
  simp only [if_pos f1]
 refine lex_tok (w:=[c]) (by simp) ?_ ?_
 ·show skip false (c::rest) 1=_
  rw [skip_cons,if_neg f3,cond_false,if_neg (by simp [f4,f5,f6]),if_neg (by simp [f7])]
  rfl
 ·show (bif isLet c then _ else bif isDig c then _ else if sign (c::rest)=[] then _ else Except.ok (({ kind:=4,line:=1,text:=sign (c::rest),num:=0 }:Tk),(sign (c::rest)).length))=_
  rw [hs,f8,f9]
  rfl
end Go.Proofs
namespace Go.Proofs
open Go.AM

def EX (x:Xp):Prop:=Wop x∧WX Nm Nu x∧nd x≤8
def isTg:Xp→Prop
 | .var _=>True
 | .fld _ _=>True
 | .elt _ _=>True
 | _=>False
inductive Shp:Nat→List UInt8→List UInt8→Nat→List Xp→List UInt8→List Xp→List Sp→List Sp→Prop where
 | dcl (nm:List UInt8) (h:Nm nm) (len:Nat) (h8:len≤8):Shp 1 nm [] len [] [] [] [] []
 | dct (nm:List UInt8) (h:Nm nm) (ty:List UInt8) (ht:Nm ty):Shp 1 nm ty 0 [] [] [] [] []
 | asg (y:Xp) (h:isTg y) (x:Xp):Shp 2 [] [] 0 [y] [] [x] [] []
 | cal (fn:List UInt8) (h:Nm fn) (ar:List Xp):Shp 3 [] [] 0 [] fn ar [] []
 | cat (y:Xp) (hy:isTg y) (fn:List UInt8) (h:Nm fn) (ar:List Xp):Shp 3 [] [] 0 [y] fn ar [] []
 | iff (x:Xp) (bd el:List Sp):Shp 4 [] [] 0 [] [] [x] bd el
 | whl (x:Xp) (bd:List Sp):Shp 5 [] [] 0 [] [] [x] bd []
 | ret (x:Xp):Shp 6 [] [] 0 [] [] [x] [] []
 | rtc (fn:List UInt8) (h:Nm fn) (ar:List Xp):Shp 6 [] [] 0 [] fn ar [] []
 | thr (x:Xp):Shp 7 [] [] 0 [] [] [x] [] []
 | prt (x:Xp):Shp 9 [] [] 0 [] [] [x] [] []
 | tri (nm:List UInt8) (h:Nm nm) (bd el:List Sp):Shp 8 nm [] 0 [] [] [] bd el
mutual
def PS (d:Nat):Sp→Prop
 | .mk k _ nm ty len tg fn ar bd el=>d≤8∧(∀ x ∈ tg,EX x)∧(∀ x ∈ ar,EX x)∧ar.length≤100000∧bd.length≤100000∧el.length≤100000∧Shp k nm ty len tg fn ar bd el∧PL (d + 1) bd∧PL (d + 1) el
def PL (d:Nat):List Sp→Prop
 | []=>True
 | s::r=>PS d s∧PL d r
end
def xstk:List Xp→List Tk
 | []=>[]
 | [x]=>xtk x
 | x::y::r=>xtk x++tS [44]::xstk (y::r)
def tytk (ty:List UInt8) (len:Nat):List Tk:=if ty=[] then if len=0 then [tK wInt] else [tK wInt,tS [91],⟨2,1,[],len⟩,tS [93]] else [tN ty]
def smhtk (k:Nat) (tg:List Xp):List Tk:=if k=6 then [tK wReturn] else if k=7 then [tK wThrow] else if k=9 then [tK wPrint] else if tg=[] then [] else xstk tg++[tS [61]]
def smvtk (fn:List UInt8) (ar:List Xp):List Tk:=if fn=[] then xstk ar else tN fn::tS [40]::(xstk ar++[tS [41]])
mutual
def stk:Sp→List Tk
 | .mk k _ nm ty len tg fn ar bd el =>
  if k=4 then tK wIf::(xstk ar++tS [123]::(stks bd++tS [125]::(if el.isEmpty then [] else tK wElse::tS [123]::(stks el++[tS [125]]))))
  else if k=5 then tK wWhile::(xstk ar++tS [123]::(stks bd++[tS [125]]))
  else if k=8 then tK wTry::tS [123]::(stks bd++tS [125]::tK wCatch::tN nm::tS [123]::(stks el++[tS [125]]))
  else if k=1 then tK wVar::tN nm::tS [58]::(tytk ty len++[tS [59]])
  else smhtk k tg++(smvtk fn ar++[tS [59]])
def stks:List Sp→List Tk
 | []=>[]
 | s::r=>stk s++stks r
end
theorem stks_append:∀ (l m:List Sp),stks (l++m)=stks l++stks m
 | [],m=>by rw [stks]; rfl
 | s::l,m=>by rw [List.cons_append,stks,stks,stks_append l m,List.append_assoc]
theorem PL_append {d:Nat}:∀ {l m:List Sp},PL d l→PL d m→PL d (l++m)
 | [],m,_,h=>h
 | s::l,m,h1,h2=>by
  rw [PL] at h1
  rw [List.cons_append,PL]
  exact ⟨h1.1,PL_append h1.2 h2⟩
abbrev GTn:=GT Nm Nu
theorem qx_wf {ts r:List Tk} {x:Xp} (G:GTn ts) (h:qx ts=.ok (x,r)):EX x∧GTn r∧(xtk x).length + r.length≤ts.length:=by
 have hq:=qx_qe.1 h
 have p:PX Nm Nu 0 ts x r (pen 1 x):=qxE hq
 obtain ⟨w1,w2⟩:=p.wx G
 have n1:=p.nd
 have l:=((wl _).1 1 0 ts x r (by decide) (by decide) hq).2
 refine ⟨⟨p.op,w1,by omega⟩,w2,?_⟩
 unfold tl at l
 omega
theorem GT_name {ts:List Tk} (G:GTn ts) {n:List UInt8} {r:List Tk} (h:fname ts=.ok (n,r)):Nm n∧GTn r∧1 + r.length≤ts.length:=by
 unfold fname at h
 split at h
 ·rename_i hk
  cases h
  refine ⟨(GT_hd G (by rw [hk]; decide)).1 hk,GT_tail G,?_⟩
  have:=len_tail (ts:=ts) (by rw [hk]; decide)
  omega
 ·cases h
theorem GT_need {ts:List Tk} (G:GTn ts) {s:List UInt8} {r:List Tk} (h:fneed s ts=.ok ((),r)):GTn r∧1 + r.length≤ts.length:=by
 unfold fneed at h
 split at h
 ·rename_i hk
  cases h
  refine ⟨GT_tail G,?_⟩
  have:=len_tail (ts:=ts) (sg_kind hk)
  omega
 ·cases h
theorem qb_inv {α β:Type} {r:QR α} {f:α→List Tk→QR β} {y:β} {t:List Tk} (h:qb r f=.ok (y,t)):∃ x r',r=.ok (x,r')∧f x r'=.ok (y,t):=by
 cases r with
 | error e=>cases h
 | ok p=>exact ⟨p.1,p.2,rfl,h⟩
theorem ftg_wf {k:Nat} {ts r:List Tk} {y:Xp} (G:GTn ts) (h:ftg k 0 ts=.ok (y,r)):EX y∧isTg y∧GTn r∧(xtk y).length + r.length≤ts.length:=by
 unfold ftg at h
 obtain ⟨n,r1,h1,h⟩:=qb_inv h
 obtain ⟨g1,g2,g3⟩:=GT_name G h1
 split at h
 ·rename_i hs
  obtain ⟨f,r2,h2,h⟩:=qb_inv h
  obtain ⟨k1,k2,k3⟩:=GT_name (GT_tail g2) h2
  cases h
  have:=len_tail (ts:=r1) (sg_kind hs)
  refine ⟨⟨trivial,⟨g1,k1⟩,Nat.zero_le _⟩,trivial,k2,?_⟩
  show 3 + _≤_
  omega
 ·split at h
  ·rename_i hs
   obtain ⟨x,r2,h2,h⟩:=qb_inv h
   obtain ⟨_,r3,h3,h⟩:=qb_inv h
   cases h
   have hp:pe k 1 1 r1.tail=.ok (x,r2):=by rw [← (er_fe k).1,h2]; rfl
   have p:PX Nm Nu 1 r1.tail x r2 (pen 1 x):=(px k).1 1 1 _ _ _ (by decide) (by decide) hp
   have l:=((wl k).1 1 1 _ _ _ (by decide) (by decide) hp).2
   obtain ⟨w1,w2⟩:=p.wx (GT_tail g2)
   have n1:=p.nd
   obtain ⟨k1,k2⟩:=GT_need w2 h3
   have:=len_tail (ts:=r1) (sg_kind hs)
   unfold tl at l
   refine ⟨⟨p.op,⟨g1,w1⟩,?_⟩,trivial,k1,?_⟩
   ·show nd x + 1≤8
    omega
   ·show (tN n::tS [91]::(xtk x++[tS [93]])).length + _≤_
    simp only [List.length_cons,List.length_append,List.length_nil]
    omega
  ·cases h
   exact ⟨⟨trivial,g1,Nat.zero_le _⟩,trivial,g2,g3⟩
theorem xstk_snoc:∀ (l:List Xp) (x:Xp),l≠[]→xstk (l++[x])=xstk l++tS [44]::xtk x
 | [],x,h=>absurd rfl h
 | [a],x,_=>rfl
 | a::b::r,x,_=>by
  rw [List.cons_append,List.cons_append,xstk,xstk,← List.cons_append,xstk_snoc (b::r) x (by simp)]
  simp
theorem fargs_wf:∀ (k:Nat) (l:List Xp) (ts:List Tk) (m:List Xp) (r:List Tk),GTn ts→(∀ x ∈ l,EX x)→l≠[]→fargs k l ts=.ok (m,r)→(∀ x ∈ m,EX x)∧m≠[]∧GTn r∧(xstk m).length + r.length≤(xstk l).length + ts.length∧m.length + r.length≤l.length + ts.length
 | 0,l,ts,m,r,_,_,_,h=>by rw [fargs] at h; cases h
 | k + 1,l,ts,m,r,G,hl,h0,h=>by
  rw [fargs] at h
  split at h
  ·rename_i hs
   obtain ⟨x,r1,h1,h⟩:=qb_inv h
   obtain ⟨e1,e2,e3⟩:=qx_wf (GT_tail G) h1
   have h9:=len_tail (ts:=ts) (sg_kind hs)
   obtain ⟨q1,q2,q3,q4,q5⟩:=fargs_wf k (l++[x]) r1 m r e2 (fun z hz=>by
    rcases List.mem_append.1 hz with hz|hz
    ·exact hl z hz
    ·rw [List.mem_singleton.1 hz]; exact e1) (by simp) h
   refine ⟨q1,q2,q3,?_,?_⟩
   ·rw [xstk_snoc l x h0] at q4
    simp only [List.length_append,List.length_cons] at q4
    omega
   ·simp only [List.length_append,List.length_cons,List.length_nil] at q5
    omega
  ·cases h
   exact ⟨hl,h0,G,Nat.le_refl _,Nat.le_refl _⟩
theorem fcall_wf {ts r:List Tk} {c:List UInt8 × List Xp} (G:GTn ts) (h:fcall ts=.ok (c,r)):Nm c.1∧(∀ x ∈ c.2,EX x)∧GTn r∧(smvtk c.1 c.2).length + r.length≤ts.length∧c.2.length + r.length≤ts.length:=by
 unfold fcall at h
 obtain ⟨n,r1,h1,h⟩:=qb_inv h
 obtain ⟨g1,g2,g3⟩:=GT_name G h1
 obtain ⟨_,r2,h2,h⟩:=qb_inv h
 obtain ⟨k2,k3⟩:=GT_need g2 h2
 have hne:n≠[]:=by
  obtain ⟨c,r,e,_⟩:=g1
  rw [e]
  simp
 split at h
 ·rename_i hs
  cases h
  have h9:=len_tail (ts:=r2) (sg_kind hs)
  refine ⟨g1,fun x h=>(by cases h),GT_tail k2,?_,?_⟩
  ·unfold smvtk
   rw [if_neg hne]
   simp only [xstk,List.length_cons,List.length_append,List.length_nil]
   omega
  ·simp only [List.length_nil]
   omega
 ·obtain ⟨x,r3,h3,h⟩:=qb_inv h
  obtain ⟨e1,e2,e3⟩:=qx_wf k2 h3
  obtain ⟨l,r4,h4,h⟩:=qb_inv h
  obtain ⟨q1,q2,q3,q4,q5⟩:=fargs_wf _ _ _ _ _ e2 (fun z hz=>by rw [List.mem_singleton.1 hz]; exact e1) (by simp) h4
  obtain ⟨_,r5,h5,h⟩:=qb_inv h
  obtain ⟨k5,k6⟩:=GT_need q3 h5
  cases h
  have hx1:xstk [x]=xtk x:=rfl
  rw [hx1] at q4
  simp only [List.length_cons,List.length_nil] at q5
  have hxl:=qx_lt h3
  refine ⟨g1,q1,k5,?_,?_⟩
  ·unfold smvtk
   rw [if_neg hne]
   simp only [List.length_cons,List.length_append,List.length_nil]
   omega
  ·simp only
   omega
theorem fval_wf {c:Bool} {ts r:List Tk} {v:List UInt8 × List Xp} (G:GTn ts) (h:fval c ts=.ok (v,r)):((c=true∧Nm v.1)∨(v.1=[]∧∃ x,v.2=[x]))∧(∀ x ∈ v.2,EX x)∧GTn r∧(smvtk v.1 v.2).length + r.length≤ts.length∧v.2.length + r.length≤ts.length:=by
 unfold fval at h
 split at h
 ·rename_i hc
  rw [Bool.and_eq_true] at hc
  obtain ⟨q1,q2,q3,q4,q5⟩:=fcall_wf G h
  exact ⟨.inl ⟨hc.1,q1⟩,q2,q3,q4,q5⟩
 ·obtain ⟨x,r1,h1,h⟩:=qb_inv h
  obtain ⟨e1,e2,e3⟩:=qx_wf G h1
  cases h
  have hxl:=qx_lt h1
  refine ⟨.inr ⟨rfl,x,rfl⟩,fun z hz=>by rw [List.mem_singleton.1 hz]; exact e1,e2,?_,?_⟩
  ·unfold smvtk
   rw [if_pos rfl]
   exact e3
  ·simp only [List.length_cons,List.length_nil]
   omega
end Go.Proofs
namespace Go.Proofs
open Go.AM

theorem xstk_one (x:Xp):xstk [x]=xtk x:=rfl
theorem Nm_ne {s:List UInt8} (h:Nm s):s≠[]:=by
 obtain ⟨c,r,e,_⟩:=h
 rw [e]
 simp
theorem feff_wf {ts r:List Tk} {m:Sm} (G:GTn ts) (h:feff ts=.ok (m,r)):Shp m.kind [] [] 0 m.target m.fn m.args [] []∧(m.kind=2∨m.kind=3)∧(∀ x ∈ m.target,EX x)∧(∀ x ∈ m.args,EX x)∧GTn r∧(smhtk m.kind m.target++smvtk m.fn m.args).length + r.length≤ts.length∧m.args.length + r.length≤ts.length:=by
 unfold feff at h
 split at h
 ·obtain ⟨c,r1,h1,h⟩:=qb_inv h
  obtain ⟨q1,q2,q3,q4,q5⟩:=fcall_wf G h1
  cases h
  exact ⟨.cal _ q1 _,.inr rfl,fun x h=>(by cases h),q2,q3,by simpa [smhtk] using q4,q5⟩
 ·obtain ⟨y,r1,h1,h⟩:=qb_inv h
  obtain ⟨t1,t2,t3,t4⟩:=ftg_wf G h1
  obtain ⟨_,r2,h2,h⟩:=qb_inv h
  obtain ⟨k1,k2⟩:=GT_need t3 h2
  have ty:∀ x ∈ [y],EX x:=fun z hz=>by rw [List.mem_singleton.1 hz]; exact t1
  split at h
  ·obtain ⟨c,r3,h3,h⟩:=qb_inv h
   obtain ⟨q1,q2,q3,q4,q5⟩:=fcall_wf k1 h3
   cases h
   refine ⟨.cat y t2 _ q1 _,.inr rfl,ty,q2,q3,?_,?_⟩
   ·show ((xstk [y]++[tS [61]])++smvtk c.1 c.2).length + _≤_
    rw [xstk_one]
    simp only [List.length_append,List.length_cons,List.length_nil]
    omega
   ·show c.2.length + _≤_
    omega
  ·obtain ⟨x,r3,h3,h⟩:=qb_inv h
   obtain ⟨e1,e2,e3⟩:=qx_wf k1 h3
   have hxl:=qx_lt h3
   cases h
   refine ⟨.asg y t2 x,.inl rfl,ty,fun z hz=>by rw [List.mem_singleton.1 hz]; exact e1,e2,?_,?_⟩
   ·show ((xstk [y]++[tS [61]])++xstk [x]).length + _≤_
    rw [xstk_one,xstk_one]
    simp only [List.length_append,List.length_cons,List.length_nil]
    omega
   ·show 1 + _≤_
    omega
theorem fty_wf {ts r:List Tk} {p:List UInt8 × Nat} (G:GTn ts) (h:fty ts=.ok (p,r)):((p.1=[]∧p.2≤8)∨(Nm p.1∧p.2=0))∧GTn r∧(tytk p.1 p.2).length + r.length≤ts.length:=by
 unfold fty at h
 split at h
 ·rename_i h1
  have l1:=len_tail (ts:=ts) (kw_kind h1)
  split at h
  ·rename_i h2
   have l2:=len_tail (ts:=ts.tail) (sg_kind h2)
   split at h
   ·rename_i h3
    have l3:=len_tail (ts:=ts.tail.tail) (by rw [h3]; decide)
    split at h
    ·cases h
    ·rename_i h4
     obtain ⟨_,r3,h5,h⟩:=qb_inv h
     obtain ⟨k1,k2⟩:=GT_need (GT_tail (GT_tail (GT_tail G))) h5
     cases h
     refine ⟨.inl ⟨rfl,by omega⟩,k1,?_⟩
     unfold tytk
     rw [if_pos rfl,if_neg (by omega)]
     simp only [List.length_cons,List.length_nil]
     omega
   ·cases h
  ·cases h
   refine ⟨.inl ⟨rfl,Nat.zero_le _⟩,GT_tail G,?_⟩
   show 1 + _≤_
   omega
 ·obtain ⟨ty,r3,h5,h⟩:=qb_inv h
  obtain ⟨g1,g2,g3⟩:=GT_name G h5
  cases h
  refine ⟨.inr ⟨g1,rfl⟩,g2,?_⟩
  unfold tytk
  rw [if_neg (Nm_ne g1)]
  exact g3
theorem PL_nil (d:Nat):PL d []:=by rw [PL]; trivial
theorem wf_all:∀ k:Nat,(∀ d ts s r,GTn ts→ts.length≤100000→fstm k d ts=.ok (s,r)→PS d s∧GTn r∧(stk s).length + r.length≤ts.length∧r.length < ts.length) ∧
  (∀ d ts l r,GTn ts→ts.length≤100000→fblk k d ts=.ok (l,r)→PL d l∧GTn r∧(stks l).length + 2 + r.length≤ts.length∧l.length + r.length≤ts.length) ∧
  (∀ d l0 ts l r,PL d l0→GTn ts→ts.length≤100000→fsts k d l0 ts=.ok (l,r)→PL d l∧GTn r∧(stks l).length + 1 + r.length≤(stks l0).length + ts.length∧l.length + r.length≤l0.length + ts.length)
 | 0=>⟨fun _ _ _ _ _ _ h=>(by rw [fstm] at h; cases h),fun _ _ _ _ _ _ h=>(by rw [fblk] at h; cases h),fun _ _ _ _ _ _ _ _ h=>(by rw [fsts] at h; cases h)⟩
 | k + 1=>by
  obtain ⟨i1,i2,i3⟩:=wf_all k
  refine ⟨fun d ts s r G hn h=>?_,fun d ts l r G hn h=>?_,fun d l0 ts l r hl G hn h=>?_⟩
  ·by_cases hb:begS (hd ts)=true
   rotate_left
   ·rw [fstm,if_neg hb] at h
    cases h
   by_cases h8:8 < d
   ·rw [fstm,if_pos hb,if_pos h8] at h
    cases h
   rw [fstm_pos hb h8] at h
   have hd8:d≤8:=by omega
   have nox:∀ x ∈ ([]:List Xp),EX x:=fun x h=>by cases h
   have one:∀ {x:Xp},EX x→∀ y ∈ [x],EX y:=fun h z hz=>by rw [List.mem_singleton.1 hz]; exact h
   by_cases c1:kw (hd ts) wVar=true
   ·rw [if_pos c1,fdecl_eq] at h
    have l1:=len_tail (ts:=ts) (kw_kind c1)
    obtain ⟨x,r1,h1,h⟩:=qb_inv h
    obtain ⟨n,r2,h2,h1⟩:=qb_inv h1
    obtain ⟨g1,g2,g3⟩:=GT_name (GT_tail G) h2
    obtain ⟨_,r3,h3,h1⟩:=qb_inv h1
    obtain ⟨k1,k2⟩:=GT_need g2 h3
    obtain ⟨p,r4,h4,h1⟩:=qb_inv h1
    obtain ⟨t1,t2,t3⟩:=fty_wf k1 h4
    obtain ⟨_,r5,h5,h1⟩:=qb_inv h1
    obtain ⟨k3,k4⟩:=GT_need t2 h5
    cases h1
    cases h
    refine ⟨?_,k3,?_,by omega⟩
    ·rw [PS]
     refine ⟨hd8,nox,nox,by decide,by decide,by decide,?_,PL_nil _,PL_nil _⟩
     obtain ⟨ty,len⟩:=p
     rcases t1 with ⟨q1,q2⟩|⟨q1,q2⟩
     ·simp only at q1 q2
      subst q1
      exact .dcl n g1 len q2
     ·simp only at q1 q2
      subst q2
      exact .dct n g1 ty q1
    ·rw [stk,if_neg (by decide),if_neg (by decide),if_neg (by decide),if_pos rfl]
     simp only [List.length_cons,List.length_append,List.length_nil]
     omega
   rw [if_neg c1] at h
   by_cases c2:kw (hd ts) wIf=true
   ·rw [if_pos c2] at h
    have l1:=len_tail (ts:=ts) (kw_kind c2)
    obtain ⟨x,r1,h1,h⟩:=qb_inv h
    obtain ⟨e1,e2,e3⟩:=qx_wf (GT_tail G) h1
    obtain ⟨b,r2,h2,h⟩:=qb_inv h
    obtain ⟨b1,b2,b3,b4⟩:=i2 _ _ _ _ e2 (by omega) h2
    split at h
    ·rename_i h9
     have l2:=len_tail (ts:=r2) (kw_kind h9)
     obtain ⟨e,r3,h3,h⟩:=qb_inv h
     obtain ⟨d1,d2,d3,d4⟩:=i2 _ _ _ _ (GT_tail b2) (by omega) h3
     cases h
     refine ⟨?_,d2,?_,by omega⟩
     ·rw [PS]
      exact ⟨hd8,nox,one e1,by simp,by omega,by omega,.iff x b e,b1,d1⟩
     ·rw [stk,if_pos rfl,xstk_one]
      cases e with
      | nil =>
       simp only [List.length_cons,List.length_append,List.length_nil,List.isEmpty_nil,if_true]
       omega
      | cons a q =>
       simp only [List.length_cons,List.length_append,List.length_nil,List.isEmpty_cons,Bool.false_eq_true,if_false]
       omega
    ·cases h
     refine ⟨?_,b2,?_,by omega⟩
     ·rw [PS]
      exact ⟨hd8,nox,one e1,by simp,by omega,by simp,.iff x b [],b1,PL_nil _⟩
     ·rw [stk,if_pos rfl,xstk_one]
      simp only [List.length_cons,List.length_append,List.length_nil,List.isEmpty_nil,if_true]
      omega
   rw [if_neg c2] at h
   by_cases c3:kw (hd ts) wWhile=true
   ·rw [if_pos c3] at h
    have l1:=len_tail (ts:=ts) (kw_kind c3)
    obtain ⟨x,r1,h1,h⟩:=qb_inv h
    obtain ⟨e1,e2,e3⟩:=qx_wf (GT_tail G) h1
    obtain ⟨b,r2,h2,h⟩:=qb_inv h
    obtain ⟨b1,b2,b3,b4⟩:=i2 _ _ _ _ e2 (by omega) h2
    cases h
    refine ⟨?_,b2,?_,by omega⟩
    ·rw [PS]
     exact ⟨hd8,nox,one e1,by simp,by omega,by simp,.whl x b,b1,PL_nil _⟩
    ·rw [stk,if_neg (by decide),if_pos rfl,xstk_one]
     simp only [List.length_cons,List.length_append,List.length_nil]
     omega
   rw [if_neg c3] at h
   by_cases c4:kw (hd ts) wTry=true
   ·rw [if_pos c4] at h
    have l1:=len_tail (ts:=ts) (kw_kind c4)
    obtain ⟨b,r1,h1,h⟩:=qb_inv h
    obtain ⟨b1,b2,b3,b4⟩:=i2 _ _ _ _ (GT_tail G) (by omega) h1
    obtain ⟨_,r2,h2,h⟩:=qb_inv h
    have hc:GTn r2∧1 + r2.length≤r1.length:=by
     unfold fcatch at h2
     split at h2
     ·rename_i hq
      have:=len_tail (ts:=r1) (kw_kind hq)
      cases h2
      exact ⟨GT_tail b2,by omega⟩
     ·cases h2
    obtain ⟨n,r3,h3,h⟩:=qb_inv h
    obtain ⟨g1,g2,g3⟩:=GT_name hc.1 h3
    obtain ⟨e,r4,h4,h⟩:=qb_inv h
    obtain ⟨d1,d2,d3,d4⟩:=i2 _ _ _ _ g2 (by omega) h4
    cases h
    refine ⟨?_,d2,?_,by omega⟩
    ·rw [PS]
     exact ⟨hd8,nox,nox,by simp,by omega,by omega,.tri n g1 b e,b1,d1⟩
    ·rw [stk,if_neg (by decide),if_neg (by decide),if_pos rfl]
     simp only [List.length_cons,List.length_append,List.length_nil]
     omega
   rw [if_neg c4] at h
   by_cases c5:kw (hd ts) wReturn=true
   ·rw [if_pos c5] at h
    have l1:=len_tail (ts:=ts) (kw_kind c5)
    obtain ⟨c,r1,h1,h⟩:=qb_inv h
    obtain ⟨v1,v2,v3,v4,v5⟩:=fval_wf (GT_tail G) h1
    obtain ⟨_,r2,h2,h⟩:=qb_inv h
    obtain ⟨k1,k2⟩:=GT_need v3 h2
    cases h
    refine ⟨?_,k1,?_,by omega⟩
    ·rw [PS]
     refine ⟨hd8,nox,v2,by omega,by decide,by decide,?_,PL_nil _,PL_nil _⟩
     obtain ⟨fn,ar⟩:=c
     rcases v1 with ⟨_,q⟩|⟨q1,x,q2⟩
     ·exact .rtc fn q ar
     ·simp only at q1 q2
      subst q1 q2
      exact .ret x
    ·rw [stk,if_neg (by decide),if_neg (by decide),if_neg (by decide),if_neg (by decide),smhtk,if_pos rfl]
     simp only [List.length_cons,List.length_append,List.length_nil]
     omega
   rw [if_neg c5] at h
   by_cases c6:kw (hd ts) wThrow=true
   ·rw [if_pos c6] at h
    have l1:=len_tail (ts:=ts) (kw_kind c6)
    obtain ⟨c,r1,h1,h⟩:=qb_inv h
    obtain ⟨v1,v2,v3,v4,v5⟩:=fval_wf (GT_tail G) h1
    obtain ⟨_,r2,h2,h⟩:=qb_inv h
    obtain ⟨k1,k2⟩:=GT_need v3 h2
    cases h
    refine ⟨?_,k1,?_,by omega⟩
    ·rw [PS]
     refine ⟨hd8,nox,v2,by omega,by decide,by decide,?_,PL_nil _,PL_nil _⟩
     obtain ⟨fn,ar⟩:=c
     rcases v1 with ⟨q,_⟩|⟨q1,x,q2⟩
     ·cases q
     ·simp only at q1 q2
      subst q1 q2
      exact .thr x
    ·rw [stk,if_neg (by decide),if_neg (by decide),if_neg (by decide),if_neg (by decide),smhtk,if_neg (by decide),if_pos rfl]
     simp only [List.length_cons,List.length_append,List.length_nil]
     omega
   rw [if_neg c6] at h
   by_cases c7:kw (hd ts) wPrint=true
   ·rw [if_pos c7] at h
    have l1:=len_tail (ts:=ts) (kw_kind c7)
    obtain ⟨c,r1,h1,h⟩:=qb_inv h
    obtain ⟨v1,v2,v3,v4,v5⟩:=fval_wf (GT_tail G) h1
    obtain ⟨_,r2,h2,h⟩:=qb_inv h
    obtain ⟨k1,k2⟩:=GT_need v3 h2
    cases h
    refine ⟨?_,k1,?_,by omega⟩
    ·rw [PS]
     refine ⟨hd8,nox,v2,by omega,by decide,by decide,?_,PL_nil _,PL_nil _⟩
     obtain ⟨fn,ar⟩:=c
     rcases v1 with ⟨q,_⟩|⟨q1,x,q2⟩
     ·cases q
     ·simp only at q1 q2
      subst q1 q2
      exact .prt x
    ·rw [stk,if_neg (by decide),if_neg (by decide),if_neg (by decide),if_neg (by decide),smhtk,if_neg (by decide),if_neg (by decide),if_pos rfl]
     simp only [List.length_cons,List.length_append,List.length_nil]
     omega
   rw [if_neg c7] at h
   obtain ⟨m,r1,h1,h⟩:=qb_inv h
   obtain ⟨v1,v2,v3,v4,v5,v6,v7⟩:=feff_wf G h1
   obtain ⟨_,r2,h2,h⟩:=qb_inv h
   obtain ⟨k1,k2⟩:=GT_need v5 h2
   cases h
   simp only [List.length_append] at v6
   refine ⟨?_,k1,?_,by omega⟩
   ·rw [PS]
    exact ⟨hd8,v3,v4,by omega,by decide,by decide,v1,PL_nil _,PL_nil _⟩
   ·rw [stk,if_neg (by omega),if_neg (by omega),if_neg (by omega),if_neg (by omega)]
    simp only [List.length_cons,List.length_append,List.length_nil]
    omega
  ·rw [fblk] at h
   obtain ⟨_,r1,h1,h⟩:=qb_inv h
   obtain ⟨k1,k2⟩:=GT_need G h1
   obtain ⟨q1,q2,q3,q4⟩:=i3 d [] r1 l r (PL_nil d) k1 (by omega) h
   rw [stks] at q3
   simp only [List.length_nil] at q3 q4
   exact ⟨q1,q2,by omega,by omega⟩
  ·rw [fsts] at h
   split at h
   ·rename_i hs
    have l1:=len_tail (ts:=ts) (sg_kind hs)
    cases h
    exact ⟨hl,GT_tail G,by omega,by omega⟩
   ·obtain ⟨s,r1,h1,h⟩:=qb_inv h
    obtain ⟨s1,s2,s3,s4⟩:=i1 d ts s r1 G hn h1
    obtain ⟨q1,q2,q3,q4⟩:=i3 d (l0++[s]) r1 l r (PL_append hl (by rw [PL]; exact ⟨s1,PL_nil d⟩)) s2 (by omega) h
    rw [stks_append,stks,stks] at q3
    simp only [List.length_append,List.length_nil,List.length_cons] at q3 q4
    exact ⟨q1,q2,by omega,by omega⟩
end Go.Proofs
namespace Go.Proofs
open Go.AM

section
variable {C:List Tk→Prop} (hC:∀ ts,C ts→(hd ts).kind≠0→C ts.tail)
include hC
theorem cl_fe:∀ k:Nat,(∀ lv d ts x r,1≤lv→C ts→fe k lv d ts=.ok (x,r)→C r)∧(∀ lv d a ts x r,1≤lv→C ts→fl k lv d a ts=.ok (x,r)→C r)∧(∀ d ts x r,C ts→fo k d ts=.ok (x,r)→C r)
 | 0=>⟨fun _ _ _ _ _ _ _ h=>(by rw [fe] at h; cases h),fun _ _ _ _ _ _ _ _ h=>(by rw [fl] at h; cases h),fun _ _ _ _ _ h=>(by rw [fo] at h; cases h)⟩
 | k + 1=>by
  obtain ⟨i1,i2,i3⟩:=cl_fe k
  refine ⟨fun lv d ts x r h1 hc h=>?_,fun lv d a ts x r h1 hc h=>?_,fun d ts x r hc h=>?_⟩
  ·rw [fe] at h
   split at h
   ·exact i3 d ts x r hc h
   ·cases hp:fe k (lv + 1) d ts with
    | error e=>rw [hp] at h; cases h
    | ok p =>
     rw [hp] at h
     exact i2 lv d p.1 p.2 x r h1 (i1 (lv + 1) d ts p.1 p.2 (by omega) hc hp) h
  ·rw [fl] at h
   split at h
   ·rename_i hb
    obtain ⟨_,_,hk⟩:=bin_text (t:=hd ts) (by omega)
    have hc2:=hC ts hc hk
    cases hp:fe k (lv + 1) d ts.tail with
    | error e=>rw [hp] at h; cases h
    | ok p =>
     rw [hp] at h
     have hc3:=i1 (lv + 1) d ts.tail p.1 p.2 (by omega) hc2 hp
     simp only at h
     split at h
     ·cases h
      exact hc3
     ·exact i2 lv d _ p.2 x r h1 hc3 h
   ·cases h
    exact hc
  ·rw [fo] at h
   split at h
   ·rename_i hb
    have hk:(hd ts).kind≠0:=by
     rcases beg_cases hb with q|q|⟨q,_⟩ <;> rw [q] <;> decide
    have hc1:=hC ts hc hk
    split at h
    ·cases h
    split at h
    ·cases h
     exact hc1
    split at h
    ·split at h
     ·rename_i hs
      have hc2:=hC _ hc1 (sg_kind hs)
      split at h
      ·rename_i hk2
       cases h
       exact hC _ hc2 (by rw [hk2]; decide)
      ·cases h
     split at h
     ·rename_i hs
      have hc2:=hC _ hc1 (sg_kind hs)
      cases hp:fe k 1 (d + 1) ts.tail.tail with
      | error e=>rw [hp] at h; cases h
      | ok p =>
       rw [hp] at h
       have hc3:=i1 1 (d + 1) _ p.1 p.2 (by decide) hc2 hp
       simp only at h
       split at h
       ·rename_i hq
        cases h
        exact hC _ hc3 (sg_kind hq)
       ·cases h
     ·cases h
      exact hc1
    split at h
    ·cases hp:fe k 1 (d + 1) ts.tail with
     | error e=>rw [hp] at h; cases h
     | ok p =>
      rw [hp] at h
      have hc3:=i1 1 (d + 1) _ p.1 p.2 (by decide) hc1 hp
      simp only at h
      split at h
      ·rename_i hq
       cases h
       exact hC _ hc3 (sg_kind hq)
      ·cases h
    ·cases hp:fo k (d + 1) ts.tail with
     | error e=>rw [hp] at h; cases h
     | ok p =>
      rw [hp] at h
      have hc3:=i3 (d + 1) _ p.1 p.2 hc1 hp
      cases h
      exact hc3
   ·cases h
theorem cl_qx {ts r:List Tk} {x:Xp} (hc:C ts) (h:qx ts=.ok (x,r)):C r:=(cl_fe hC _).1 1 0 ts x r (by decide) hc h
theorem cl_name {ts r:List Tk} {n:List UInt8} (hc:C ts) (h:fname ts=.ok (n,r)):C r:=by
 unfold fname at h
 split at h
 ·rename_i hk
  cases h
  exact hC _ hc (by rw [hk]; decide)
 ·cases h
theorem cl_need {ts r:List Tk} {s:List UInt8} (hc:C ts) (h:fneed s ts=.ok ((),r)):C r:=by
 unfold fneed at h
 split at h
 ·rename_i hk
  cases h
  exact hC _ hc (sg_kind hk)
 ·cases h
theorem cl_qt {ts r:List Tk} {x:Xp} (hc:C ts) (h:qt ts=.ok (x,r)):C r:=by
 unfold qt ftg at h
 obtain ⟨n,r1,h1,h⟩:=qb_inv h
 have c1:=cl_name hC hc h1
 split at h
 ·rename_i hs
  obtain ⟨f,r2,h2,h⟩:=qb_inv h
  have c2:=cl_name hC (hC _ c1 (sg_kind hs)) h2
  cases h
  exact c2
 ·split at h
  ·rename_i hs
   obtain ⟨x,r2,h2,h⟩:=qb_inv h
   have c2:=(cl_fe hC _).1 1 _ _ _ _ (by decide) (hC _ c1 (sg_kind hs)) h2
   obtain ⟨_,r3,h3,h⟩:=qb_inv h
   have c3:=cl_need hC c2 h3
   cases h
   exact c3
  ·cases h
   exact c1
theorem cl_args:∀ (k:Nat) (l:List Xp) (ts:List Tk) (m:List Xp) (r:List Tk),C ts→fargs k l ts=.ok (m,r)→C r
 | 0,l,ts,m,r,_,h=>by rw [fargs] at h; cases h
 | k + 1,l,ts,m,r,hc,h=>by
  rw [fargs] at h
  split at h
  ·rename_i hs
   obtain ⟨x,r1,h1,h⟩:=qb_inv h
   exact cl_args k _ r1 m r (cl_qx hC (hC _ hc (sg_kind hs)) h1) h
  ·cases h
   exact hc
theorem cl_call {ts r:List Tk} {c:List UInt8 × List Xp} (hc:C ts) (h:fcall ts=.ok (c,r)):C r:=by
 unfold fcall at h
 obtain ⟨n,r1,h1,h⟩:=qb_inv h
 obtain ⟨_,r2,h2,h⟩:=qb_inv h
 have c2:=cl_need hC (cl_name hC hc h1) h2
 split at h
 ·rename_i hs
  cases h
  exact hC _ c2 (sg_kind hs)
 ·obtain ⟨x,r3,h3,h⟩:=qb_inv h
  obtain ⟨l,r4,h4,h⟩:=qb_inv h
  obtain ⟨_,r5,h5,h⟩:=qb_inv h
  cases h
  exact cl_need hC (cl_args hC _ _ _ _ _ (cl_qx hC c2 h3) h4) h5
theorem cl_val {b:Bool} {ts r:List Tk} {c:List UInt8 × List Xp} (hc:C ts) (h:fval b ts=.ok (c,r)):C r:=by
 unfold fval at h
 split at h
 ·exact cl_call hC hc h
 ·obtain ⟨x,r1,h1,h⟩:=qb_inv h
  cases h
  exact cl_qx hC hc h1
theorem cl_eff {ts r:List Tk} {m:Sm} (hc:C ts) (h:feff ts=.ok (m,r)):C r:=by
 unfold feff at h
 split at h
 ·obtain ⟨c,r1,h1,h⟩:=qb_inv h
  cases h
  exact cl_call hC hc h1
 ·obtain ⟨y,r1,h1,h⟩:=qb_inv h
  obtain ⟨_,r2,h2,h⟩:=qb_inv h
  have c2:=cl_need hC (cl_qt hC hc h1) h2
  split at h
  ·obtain ⟨c,r3,h3,h⟩:=qb_inv h
   cases h
   exact cl_call hC c2 h3
  ·obtain ⟨x,r3,h3,h⟩:=qb_inv h
   cases h
   exact cl_qx hC c2 h3
theorem cl_ty {ts r:List Tk} {p:List UInt8 × Nat} (hc:C ts) (h:fty ts=.ok (p,r)):C r:=by
 unfold fty at h
 split at h
 ·rename_i h1
  have c1:=hC _ hc (kw_kind h1)
  split at h
  ·rename_i h2
   have c2:=hC _ c1 (sg_kind h2)
   split at h
   ·rename_i h3
    have c3:=hC _ c2 (by rw [h3]; decide)
    split at h
    ·cases h
    ·obtain ⟨_,r3,h5,h⟩:=qb_inv h
     cases h
     exact cl_need hC c3 h5
   ·cases h
  ·cases h
   exact c1
 ·obtain ⟨ty,r3,h5,h⟩:=qb_inv h
  cases h
  exact cl_name hC hc h5
theorem cl_stm:∀ k:Nat,(∀ d ts s r,C ts→fstm k d ts=.ok (s,r)→C r)∧(∀ d ts l r,C ts→fblk k d ts=.ok (l,r)→C r)∧(∀ d l0 ts l r,C ts→fsts k d l0 ts=.ok (l,r)→C r)
 | 0=>⟨fun _ _ _ _ _ h=>(by rw [fstm] at h; cases h),fun _ _ _ _ _ h=>(by rw [fblk] at h; cases h),fun _ _ _ _ _ _ h=>(by rw [fsts] at h; cases h)⟩
 | k + 1=>by
  obtain ⟨i1,i2,i3⟩:=cl_stm k
  refine ⟨fun d ts s r G h=>?_,fun d ts l r G h=>?_,fun d l0 ts l r G h=>?_⟩
  ·by_cases hb:begS (hd ts)=true
   rotate_left
   ·rw [fstm,if_neg hb] at h
    cases h
   by_cases h8:8 < d
   ·rw [fstm,if_pos hb,if_pos h8] at h
    cases h
   rw [fstm_pos hb h8] at h
   split at h
   ·rename_i c1
    rw [fdecl_eq] at h
    have l1:=hC _ G (kw_kind c1)
    obtain ⟨x,r1,h1,h⟩:=qb_inv h
    obtain ⟨n,r2,h2,h1⟩:=qb_inv h1
    obtain ⟨_,r3,h3,h1⟩:=qb_inv h1
    obtain ⟨p,r4,h4,h1⟩:=qb_inv h1
    obtain ⟨_,r5,h5,h1⟩:=qb_inv h1
    cases h1
    cases h
    exact cl_need hC (cl_ty hC (cl_need hC (cl_name hC l1 h2) h3) h4) h5
   split at h
   ·rename_i c1
    have l1:=hC _ G (kw_kind c1)
    obtain ⟨x,r1,h1,h⟩:=qb_inv h
    obtain ⟨b,r2,h2,h⟩:=qb_inv h
    have l2:=i2 _ _ _ _ (cl_qx hC l1 h1) h2
    split at h
    ·rename_i c2
     obtain ⟨e,r3,h3,h⟩:=qb_inv h
     cases h
     exact i2 _ _ _ _ (hC _ l2 (kw_kind c2)) h3
    ·cases h
     exact l2
   split at h
   ·rename_i c1
    have l1:=hC _ G (kw_kind c1)
    obtain ⟨x,r1,h1,h⟩:=qb_inv h
    obtain ⟨b,r2,h2,h⟩:=qb_inv h
    cases h
    exact i2 _ _ _ _ (cl_qx hC l1 h1) h2
   split at h
   ·rename_i c1
    have l1:=hC _ G (kw_kind c1)
    obtain ⟨b,r1,h1,h⟩:=qb_inv h
    have l2:=i2 _ _ _ _ l1 h1
    obtain ⟨_,r2,h2,h⟩:=qb_inv h
    have l3:C r2:=by
     unfold fcatch at h2
     split at h2
     ·rename_i hq
      cases h2
      exact hC _ l2 (kw_kind hq)
     ·cases h2
    obtain ⟨n,r3,h3,h⟩:=qb_inv h
    obtain ⟨e,r4,h4,h⟩:=qb_inv h
    cases h
    exact i2 _ _ _ _ (cl_name hC l3 h3) h4
   split at h
   ·rename_i c1
    have l1:=hC _ G (kw_kind c1)
    obtain ⟨c,r1,h1,h⟩:=qb_inv h
    obtain ⟨_,r2,h2,h⟩:=qb_inv h
    cases h
    exact cl_need hC (cl_val hC l1 h1) h2
   split at h
   ·rename_i c1
    have l1:=hC _ G (kw_kind c1)
    obtain ⟨c,r1,h1,h⟩:=qb_inv h
    obtain ⟨_,r2,h2,h⟩:=qb_inv h
    cases h
    exact cl_need hC (cl_val hC l1 h1) h2
   split at h
   ·rename_i c1
    have l1:=hC _ G (kw_kind c1)
    obtain ⟨c,r1,h1,h⟩:=qb_inv h
    obtain ⟨_,r2,h2,h⟩:=qb_inv h
    cases h
    exact cl_need hC (cl_val hC l1 h1) h2
   obtain ⟨m,r1,h1,h⟩:=qb_inv h
   obtain ⟨_,r2,h2,h⟩:=qb_inv h
   cases h
   exact cl_need hC (cl_eff hC G h1) h2
  ·rw [fblk] at h
   obtain ⟨_,r1,h1,h⟩:=qb_inv h
   exact i3 d [] r1 l r (cl_need hC G h1) h
  ·rw [fsts] at h
   split at h
   ·rename_i hs
    cases h
    exact hC _ G (sg_kind hs)
   ·obtain ⟨s,r1,h1,h⟩:=qb_inv h
    exact i3 d _ r1 l r (i1 d ts s r1 G h1) h
theorem cl_more:∀ (k:Nat) (l:Names) (ts:List Tk) (m:Names) (r:List Tk),C ts→fmore k l ts=.ok (m,r)→C r
 | 0,l,ts,m,r,_,h=>by rw [fmore] at h; cases h
 | k + 1,l,ts,m,r,hc,h=>by
  rw [fmore_eq] at h
  split at h
  ·rename_i hs
   obtain ⟨x,r1,h1,h⟩:=qb_inv h
   exact cl_more k _ r1 m r (cl_name hC (hC _ hc (sg_kind hs)) h1) h
  ·cases h
   exact hc
theorem cl_names {ts r:List Tk} {m:Names} (hc:C ts) (h:fnames ts=.ok (m,r)):C r:=by
 rw [fnames_eq] at h
 obtain ⟨n,r1,h1,h⟩:=qb_inv h
 exact cl_more hC _ _ _ _ _ (cl_name hC hc h1) h
theorem cl_record {ts r:List Tk} {x:Rec} (hc:C ts) (h:frecord ts=.ok (x,r)):C r:=by
 unfold frecord at h
 obtain ⟨n,r1,h1,h⟩:=qb_inv h
 obtain ⟨_,r2,h2,h⟩:=qb_inv h
 obtain ⟨l,r3,h3,h⟩:=qb_inv h
 obtain ⟨_,r4,h4,h⟩:=qb_inv h
 cases h
 exact cl_need hC (cl_names hC (cl_need hC (cl_name hC hc h1) h2) h3) h4
theorem cl_func {ts r:List Tk} {x:Fn} (hc:C ts) (hk:(hd ts).kind≠0) (h:ffunc ts=.ok (x,r)):C r:=by
 unfold ffunc at h
 obtain ⟨n,r1,h1,h⟩:=qb_inv h
 obtain ⟨_,r2,h2,h⟩:=qb_inv h
 obtain ⟨ps,r3,h3,h⟩:=qb_inv h
 have c2:=cl_need hC (cl_name hC (hC _ hc hk) h1) h2
 have c3:C r3:=by
  unfold fpar at h3
  split at h3
  ·cases h3
   exact c2
  ·exact cl_names hC c2 h3
 obtain ⟨_,r4,h4,h⟩:=qb_inv h
 obtain ⟨b,r5,h5,h⟩:=qb_inv h
 cases h
 exact (cl_stm hC _).2.1 _ _ _ _ (cl_need hC c3 h4) h5
theorem cl_recs:∀ (k:Nat) (l:List Rec) (ts:List Tk) (m:List Rec) (r:List Tk),C ts→frecs k l ts=.ok (m,r)→C r
 | 0,l,ts,m,r,_,h=>by rw [frecs] at h; cases h
 | k + 1,l,ts,m,r,hc,h=>by
  rw [frecs] at h
  split at h
  ·rename_i hs
   obtain ⟨x,r1,h1,h⟩:=qb_inv h
   exact cl_recs k _ r1 m r (cl_record hC (hC _ hc (kw_kind hs)) h1) h
  ·cases h
   exact hc
theorem cl_funs:∀ (k:Nat) (l:List Fn) (ts:List Tk) (m:List Fn) (r:List Tk),C ts→ffuns k l ts=.ok (m,r)→C r
 | 0,l,ts,m,r,_,h=>by rw [ffuns] at h; cases h
 | k + 1,l,ts,m,r,hc,h=>by
  rw [ffuns] at h
  split at h
  ·rename_i hs
   obtain ⟨x,r1,h1,h⟩:=qb_inv h
   exact cl_funs k _ r1 m r (cl_func hC hc (kw_kind hs) h1) h
  ·cases h
   exact hc
theorem cl_prog {ts r:List Tk} {p:Prg} (hc:C ts) (h:fprog ts=.ok (p,r)):C r:=by
 unfold fprog at h
 obtain ⟨R,r1,h1,h⟩:=qb_inv h
 obtain ⟨F,r2,h2,h⟩:=qb_inv h
 have:=cl_funs hC _ _ _ _ _ (cl_recs hC _ _ _ _ _ hc h1) h2
 split at h
 ·cases h
  exact this
 ·cases h
end
def LastZ (ts:List Tk):Prop:=∃ l e,ts=l++[e]∧e.kind=0∧∀ t ∈ l,t.kind≠0
theorem LastZ.tail (ts:List Tk) (h:LastZ ts) (hk:(hd ts).kind≠0):LastZ ts.tail:=by
 obtain ⟨l,e,rfl,he,hl⟩:=h
 cases l with
 | nil=>exact absurd he hk
 | cons a r=>exact ⟨r,e,rfl,he,fun t ht=>hl t (List.mem_cons_of_mem _ ht)⟩
theorem scan_LastZ {s:List UInt8} (he:(scan s).2.2=0):LastZ (scan s).1:=by
 obtain ⟨ts,l,e,_,_,_,hk⟩:=scan_tok s he
 rw [e]
 exact ⟨ts,_,rfl,rfl,hk⟩
end Go.Proofs
namespace Go.Proofs
open Go.AM

structure PRc (r:Rec):Prop where
 name:Nm r.name
 some_:r.fields≠[]
 all:∀ n ∈ r.fields,Nm n
 len:r.fields.length≤100000
structure PF (f:Fn):Prop where
 name:Nm f.name
 all:∀ n ∈ f.params,Nm n
 len:f.params.length≤100000
 body:PL 1 f.body
 blen:f.body.length < 100000
structure PP (p:Prg):Prop where
 r:∀ r ∈ p.1,PRc r
 f:∀ f ∈ p.2,PF f
 rl:p.1.length≤100000
 fl:p.2.length≤100000
def ntk:Names→List Tk
 | []=>[]
 | [a]=>[tN a]
 | a::b::r=>tN a::tS [44]::ntk (b::r)
def rtk (r:Rec):List Tk:=tK wRecord::tN r.name::tS [123]::(ntk r.fields++[tS [125]])
def ftk (f:Fn):List Tk:=tK wFunc::tN f.name::tS [40]::(ntk f.params++tS [41]::tS [123]::(stks f.body++[tS [125]]))
def ptk (p:Prg):List Tk:=(p.1.map rtk).flatten++(p.2.map ftk).flatten
theorem ntk_snoc:∀ (l:Names) (x:List UInt8),l≠[]→ntk (l++[x])=ntk l++[tS [44],tN x]
 | [],x,h=>absurd rfl h
 | [a],x,_=>rfl
 | a::b::r,x,_=>by
  rw [List.cons_append,List.cons_append,ntk,ntk,← List.cons_append,ntk_snoc (b::r) x (by simp)]
  simp
theorem fmore_wf:∀ (k:Nat) (l:Names) (ts:List Tk) (m:Names) (r:List Tk),GTn ts→(∀ x ∈ l,Nm x)→l≠[]→fmore k l ts=.ok (m,r)→(∀ x ∈ m,Nm x)∧m≠[]∧GTn r∧(ntk m).length + r.length≤(ntk l).length + ts.length∧m.length + r.length≤l.length + ts.length
 | 0,l,ts,m,r,_,_,_,h=>by rw [fmore] at h; cases h
 | k + 1,l,ts,m,r,G,hl,h0,h=>by
  rw [fmore_eq] at h
  split at h
  ·rename_i hs
   obtain ⟨x,r1,h1,h⟩:=qb_inv h
   obtain ⟨e1,e2,e3⟩:=GT_name (GT_tail G) h1
   have h9:=len_tail (ts:=ts) (sg_kind hs)
   obtain ⟨q1,q2,q3,q4,q5⟩:=fmore_wf k (l++[x]) r1 m r e2 (fun z hz=>by
    rcases List.mem_append.1 hz with hz|hz
    ·exact hl z hz
    ·rw [List.mem_singleton.1 hz]; exact e1) (by simp) h
   refine ⟨q1,q2,q3,?_,?_⟩
   ·rw [ntk_snoc l x h0] at q4
    simp only [List.length_append,List.length_cons,List.length_nil] at q4
    omega
   ·simp only [List.length_append,List.length_cons,List.length_nil] at q5
    omega
  ·cases h
   exact ⟨hl,h0,G,Nat.le_refl _,Nat.le_refl _⟩
theorem fnames_wf {ts r:List Tk} {m:Names} (G:GTn ts) (h:fnames ts=.ok (m,r)):(∀ x ∈ m,Nm x)∧m≠[]∧GTn r∧(ntk m).length + r.length≤ts.length∧m.length + r.length≤ts.length:=by
 rw [fnames_eq] at h
 obtain ⟨n,r1,h1,h⟩:=qb_inv h
 obtain ⟨e1,e2,e3⟩:=GT_name G h1
 obtain ⟨q1,q2,q3,q4,q5⟩:=fmore_wf _ _ _ _ _ e2 (fun z hz=>by rw [List.mem_singleton.1 hz]; exact e1) (by simp) h
 have h1:(ntk [n]).length=1:=rfl
 rw [h1] at q4
 simp only [List.length_cons,List.length_nil] at q5
 exact ⟨q1,q2,q3,by omega,by omega⟩
theorem frecord_wf {ts r:List Tk} {x:Rec} (G:GTn ts) (hn:ts.length≤100000) (h:frecord ts=.ok (x,r)):PRc x∧GTn r∧(rtk x).length + r.length≤1 + ts.length:=by
 unfold frecord at h
 obtain ⟨n,r1,h1,h⟩:=qb_inv h
 obtain ⟨g1,g2,g3⟩:=GT_name G h1
 obtain ⟨_,r2,h2,h⟩:=qb_inv h
 obtain ⟨k1,k2⟩:=GT_need g2 h2
 obtain ⟨l,r3,h3,h⟩:=qb_inv h
 obtain ⟨q1,q2,q3,q4,q5⟩:=fnames_wf k1 h3
 obtain ⟨_,r4,h4,h⟩:=qb_inv h
 obtain ⟨k3,k4⟩:=GT_need q3 h4
 cases h
 refine ⟨⟨g1,q2,q1,by simp only; omega⟩,k3,?_⟩
 unfold rtk
 simp only [List.length_cons,List.length_append,List.length_nil]
 omega
theorem ffunc_wf {ts r:List Tk} {x:Fn} (G:GTn ts) (hn:ts.length≤100000) (hk:(hd ts).kind≠0) (h:ffunc ts=.ok (x,r)):PF x∧GTn r∧(ftk x).length + r.length≤ts.length:=by
 unfold ffunc at h
 have l1:=len_tail (ts:=ts) hk
 obtain ⟨n,r1,h1,h⟩:=qb_inv h
 obtain ⟨g1,g2,g3⟩:=GT_name (GT_tail G) h1
 obtain ⟨_,r2,h2,h⟩:=qb_inv h
 obtain ⟨k1,k2⟩:=GT_need g2 h2
 obtain ⟨ps,r3,h3,h⟩:=qb_inv h
 have hp:(∀ x ∈ ps,Nm x)∧GTn r3∧(ntk ps).length + r3.length≤r2.length∧ps.length≤r2.length:=by
  unfold fpar at h3
  split at h3
  ·cases h3
   exact ⟨fun x h=>(by cases h),k1,by show 0 + _≤_; omega,Nat.zero_le _⟩
  ·obtain ⟨q1,_,q3,q4,q5⟩:=fnames_wf k1 h3
   exact ⟨q1,q3,q4,by omega⟩
 obtain ⟨p1,p2,p3,p4⟩:=hp
 obtain ⟨_,r4,h4,h⟩:=qb_inv h
 obtain ⟨k3,k4⟩:=GT_need p2 h4
 obtain ⟨b,r5,h5,h⟩:=qb_inv h
 obtain ⟨b1,b2,b3,b4⟩:=(wf_all _).2.1 _ _ _ _ k3 (by omega) h5
 cases h
 refine ⟨⟨g1,p1,by simp only; omega,b1,by simp only; omega⟩,b2,?_⟩
 unfold ftk
 simp only [List.length_cons,List.length_append,List.length_nil]
 omega
theorem frecs_wf:∀ (k:Nat) (l:List Rec) (ts:List Tk) (m:List Rec) (r:List Tk),GTn ts→ts.length≤100000→(∀ x ∈ l,PRc x)→frecs k l ts=.ok (m,r)→(∀ x ∈ m,PRc x)∧GTn r∧((m.map rtk).flatten).length + r.length≤((l.map rtk).flatten).length + ts.length∧m.length + r.length≤l.length + ts.length
 | 0,l,ts,m,r,_,_,_,h=>by rw [frecs] at h; cases h
 | k + 1,l,ts,m,r,G,hn,hl,h=>by
  rw [frecs] at h
  split at h
  ·rename_i hs
   obtain ⟨x,r1,h1,h⟩:=qb_inv h
   have h9:=len_tail (ts:=ts) (kw_kind hs)
   obtain ⟨e1,e2,e3⟩:=frecord_wf (GT_tail G) (by omega) h1
   have h8:1≤(rtk x).length:=by unfold rtk; simp
   obtain ⟨q1,q2,q3,q4⟩:=frecs_wf k (l++[x]) r1 m r e2 (by omega) (fun z hz=>by
    rcases List.mem_append.1 hz with hz|hz
    ·exact hl z hz
    ·rw [List.mem_singleton.1 hz]; exact e1) h
   simp only [List.map_append,List.map_cons,List.map_nil,List.flatten_append,List.flatten_cons,List.flatten_nil,List.append_nil,List.length_append,List.length_cons,List.length_nil] at q3 q4
   exact ⟨q1,q2,by omega,by omega⟩
  ·cases h
   exact ⟨hl,G,Nat.le_refl _,Nat.le_refl _⟩
theorem ffuns_wf:∀ (k:Nat) (l:List Fn) (ts:List Tk) (m:List Fn) (r:List Tk),GTn ts→ts.length≤100000→(∀ x ∈ l,PF x)→ffuns k l ts=.ok (m,r)→(∀ x ∈ m,PF x)∧GTn r∧((m.map ftk).flatten).length + r.length≤((l.map ftk).flatten).length + ts.length∧m.length + r.length≤l.length + ts.length
 | 0,l,ts,m,r,_,_,_,h=>by rw [ffuns] at h; cases h
 | k + 1,l,ts,m,r,G,hn,hl,h=>by
  rw [ffuns] at h
  split at h
  ·rename_i hs
   obtain ⟨x,r1,h1,h⟩:=qb_inv h
   obtain ⟨e1,e2,e3⟩:=ffunc_wf G hn (kw_kind hs) h1
   have h8:1≤(ftk x).length:=by unfold ftk; simp
   obtain ⟨q1,q2,q3,q4⟩:=ffuns_wf k (l++[x]) r1 m r e2 (by omega) (fun z hz=>by
    rcases List.mem_append.1 hz with hz|hz
    ·exact hl z hz
    ·rw [List.mem_singleton.1 hz]; exact e1) h
   simp only [List.map_append,List.map_cons,List.map_nil,List.flatten_append,List.flatten_cons,List.flatten_nil,List.append_nil,List.length_append,List.length_cons,List.length_nil] at q3 q4
   exact ⟨q1,q2,by omega,by omega⟩
  ·cases h
   exact ⟨hl,G,Nat.le_refl _,Nat.le_refl _⟩
theorem fprog_wf {ts r:List Tk} {p:Prg} (G:GTn ts) (hn:ts.length≤100000) (h:fprog ts=.ok (p,r)):PP p∧(ptk p).length + r.length≤ts.length∧(hd r).kind=0:=by
 unfold fprog at h
 obtain ⟨R,r1,h1,h⟩:=qb_inv h
 obtain ⟨a1,a2,a3,a4⟩:=frecs_wf _ _ _ _ _ G hn (fun x h=>by cases h) h1
 obtain ⟨F,r2,h2,h⟩:=qb_inv h
 simp only [List.map_nil,List.flatten_nil,List.length_nil] at a3 a4
 obtain ⟨b1,b2,b3,b4⟩:=ffuns_wf _ _ _ _ _ a2 (by omega) (fun x h=>by cases h) h2
 simp only [List.map_nil,List.flatten_nil,List.length_nil] at b3 b4
 split at h
 ·rename_i hk
  cases h
  refine ⟨⟨a1,b1,by simp only; omega,by simp only; omega⟩,?_,hk⟩
  unfold ptk
  rw [List.length_append]
  show (R.map rtk).flatten.length + (F.map ftk).flatten.length + _≤_
  omega
 ·cases h
theorem scan_GT {s:List UInt8} (he:(scan s).2.2=0):GTn (scan s).1:=by
 obtain ⟨ts,l,e,g,_,_,_⟩:=scan_tok s he
 rw [e]
 intro t ht
 rcases List.mem_append.1 ht with h|h
 ·exact g t h
 ·rw [List.mem_singleton.1 h]
  exact ⟨fun h=>(by cases h),fun h=>(by cases h)⟩
theorem pparse_wf {s:List UInt8} {p:Prg} (h:pparse s=.ok p):PP p∧(ptk p).length + 1≤(scan s).1.length:=by
 by_cases he:(scan s).2.2=0
 ·rw [pparse_of he] at h
  obtain ⟨H,_⟩:=scan_RdH he
  obtain ⟨ts,l,e,_,_,_,hk⟩:=scan_tok s he
  cases hf:fprog (scan s).1 with
  | error e=>rw [hf] at h; cases h
  | ok q =>
   rw [hf] at h
   cases h
   obtain ⟨h1,h2,h3⟩:=fprog_wf (scan_GT he) H.len (show fprog (scan s).1=.ok (q.1,q.2) from hf)
   refine ⟨h1,?_⟩
   obtain ⟨l,e,hq,_,_⟩:=cl_prog LastZ.tail (scan_LastZ he) (show fprog (scan s).1=.ok (q.1,q.2) from hf)
   have:1≤q.2.length:=by rw [hq]; simp
   omega
 ·rw [pparse_err he] at h
  cases h
theorem WX_mono {P P':List UInt8→Prop} {Q Q':Nat→Prop} (hP:∀ s,P s→P' s) (hQ:∀ n,Q n→Q' n):∀ x:Xp,WX P Q x→WX P' Q' x
 | .lit _,h=>hQ _ h
 | .var _,h=>hP _ h
 | .fld _ _,h=>⟨hP _ h.1,hP _ h.2⟩
 | .elt _ a,h=>⟨hP _ h.1,WX_mono hP hQ a h.2⟩
 | .una _ a,h=>WX_mono hP hQ a h
 | .bin _ a b,h=>⟨WX_mono hP hQ a h.1,WX_mono hP hQ b h.2⟩
theorem EX.w1 {x:Xp} (h:EX x):WX1 x:=⟨h.1,WX_mono (fun _ _=>trivial) (fun _ h=>h) x h.2.1⟩
mutual
theorem PS_WS:∀ (d:Nat) (s:Sp),PS d s→WSp s
 | d,.mk k l nm ty len tg fn ar bd el,h=>by
  rw [PS] at h
  obtain ⟨_,h2,h3,h4,h5,h6,h7,h8,h9⟩:=h
  rw [WSp]
  refine ⟨fun x hx=>(h2 x hx).w1,fun x hx=>(h3 x hx).w1,?_,h4,?_,PL_WS _ bd h8,PL_WS _ el h9,h5,h6⟩
  ·cases h7 <;> simp
  ·cases h7 <;> omega
theorem PL_WS:∀ (d:Nat) (l:List Sp),PL d l→WSps l
 | d,[],_=>by rw [WSps]; trivial
 | d,s::r,h=>by
  rw [PL] at h
  rw [WSps]
  exact ⟨PS_WS d s h.1,PL_WS d r h.2⟩
end
theorem PP.wp {p:Prg} (h:PP p):WP p:=⟨h.rl,h.fl,fun f hf=>⟨PL_WS _ _ (h.f f hf).body,(h.f f hf).blen⟩⟩
end Go.Proofs
namespace Go.Proofs
open Go.AM

def t1 (t:Tk):Tk:=⟨t.kind,1,t.text,t.num⟩
def ul (ts:List Tk):List Tk:=ts.map t1
theorem ul_tail (ts:List Tk):(ul ts).tail=ul ts.tail:=by cases ts <;> rfl
theorem ul_len (ts:List Tk):(ul ts).length=ts.length:=List.length_map ..
theorem ul_k (ts:List Tk):(hd (ul ts)).kind=(hd ts).kind:=by cases ts <;> rfl
theorem ul_t (ts:List Tk):(hd (ul ts)).text=(hd ts).text:=by cases ts <;> rfl
theorem ul_n (ts:List Tk):(hd (ul ts)).num=(hd ts).num:=by cases ts <;> rfl
theorem ul_l {ts:List Tk} (h:(hd ts).kind≠0):(hd (ul ts)).line=1:=by
 cases ts with
 | nil=>exact absurd rfl h
 | cons a r=>rfl
theorem ul_sg (ts:List Tk) (s:List UInt8):sg (hd (ul ts)) s=sg (hd ts) s:=by unfold sg; rw [ul_k,ul_t]
theorem ul_kw (ts:List Tk) (s:List UInt8):kw (hd (ul ts)) s=kw (hd ts) s:=by unfold kw; rw [ul_k,ul_t]
theorem ul_beg (ts:List Tk):beg (hd (ul ts))=beg (hd ts):=by unfold beg; rw [ul_k,ul_sg,ul_sg,ul_sg]
theorem ul_bin (ts:List Tk):bin (hd (ul ts))=bin (hd ts):=by cases ts <;> rfl
theorem ul_begS (ts:List Tk):begS (hd (ul ts))=begS (hd ts):=by unfold begS; rw [ul_k,ul_t]
theorem ul_seesC (ts:List Tk):seesC (ul ts)=seesC ts:=by unfold seesC; rw [ul_k,ul_tail,ul_sg]
def UR {α:Type} (f:α→α):QR α→QR α
 | .ok (x,r)=>.ok (f x,ul r)
 | .error (e,r)=>.error (e,ul r)
theorem UR.qb {α β:Type} {f:α→α} {g:β→β} {r r':QR α} {F F':α→List Tk→QR β} (h:r'=UR f r) (hF:∀ x t,r=.ok (x,t)→F' (f x) (ul t)=UR g (F x t)):qb r' F'=UR g (qb r F):=by
 subst h
 rcases r with ⟨e,t⟩|⟨x,t⟩
 ·rfl
 ·exact hF x t rfl
theorem UR.qb0 {α β:Type} {g:β→β} {r r':QR α} {F F':α→List Tk→QR β} (h:r'=UR id r) (hF:∀ x t,F' x (ul t)=UR g (F x t)):Go.Proofs.qb r' F'=UR g (Go.Proofs.qb r F):=UR.qb h fun x t _=>hF x t
theorem ur_ite {α:Type} {f:α→α} {c:Prop} [Decidable c] {a b a' b':QR α} (h1:c→a'=UR f a) (h2:¬ c→b'=UR f b):(if c then a' else b')=UR f (if c then a else b):=by
 by_cases h:c
 ·rw [if_pos h,if_pos h]; exact h1 h
 ·rw [if_neg h,if_neg h]; exact h2 h
theorem ul_fe:∀ k:Nat,(∀ lv d ts,fe k lv d (ul ts)=UR id (fe k lv d ts))∧(∀ lv d x ts,fl k lv d x (ul ts)=UR id (fl k lv d x ts))∧(∀ d ts,fo k d (ul ts)=UR id (fo k d ts))
 | 0=>⟨fun _ _ _=>by rw [fe,fe]; rfl,fun _ _ _ _=>by rw [fl,fl]; rfl,fun _ _=>by rw [fo,fo]; rfl⟩
 | k + 1=>by
  obtain ⟨i1,i2,i3⟩:=ul_fe k
  refine ⟨fun lv d ts=>?_,fun lv d x ts=>?_,fun d ts=>?_⟩
  ·rw [fe,fe,i1]
   refine ur_ite (fun _=>i3 d ts) fun _=>?_
   rcases fe k (lv + 1) d ts with ⟨e,t⟩|⟨x,t⟩
   ·rfl
   ·exact i2 lv d x t
  ·rw [fl,fl,ul_bin,ul_tail,i1]
   refine ur_ite (fun _=>?_) fun _=>rfl
   rcases fe k (lv + 1) d ts.tail with ⟨e,t⟩|⟨y,t⟩
   ·rfl
   ·exact ur_ite (fun _=>rfl) fun _=>i2 lv d _ t
  ·rw [fo,fo,ul_beg]
   simp only [ul_k,ul_t,ul_n,ul_tail,ul_sg,i1,i3]
   refine ur_ite (fun _=>?_) fun _=>rfl
   refine ur_ite (fun _=>rfl) fun _=>?_
   refine ur_ite (fun _=>rfl) fun _=>?_
   refine ur_ite (fun _=>?_) fun _=>?_
   ·refine ur_ite (fun _=>ur_ite (fun _=>rfl) fun _=>rfl) fun _=>?_
    refine ur_ite (fun _=>?_) fun _=>rfl
    rcases fe k 1 (d + 1) ts.tail.tail with ⟨e,t⟩|⟨y,t⟩
    ·rfl
    ·show (if sg (hd (ul t)) [93]=true then _ else _)=UR id (if sg (hd t) [93]=true then _ else _)
     rw [ul_sg,ul_tail]
     exact ur_ite (fun _=>rfl) fun _=>rfl
   refine ur_ite (fun _=>?_) fun _=>?_
   ·rcases fe k 1 (d + 1) ts.tail with ⟨e,t⟩|⟨y,t⟩
    ·rfl
    ·show (if sg (hd (ul t)) [41]=true then _ else _)=UR id (if sg (hd t) [41]=true then _ else _)
     rw [ul_sg,ul_tail]
     exact ur_ite (fun _=>rfl) fun _=>rfl
   ·rcases fo k (d + 1) ts.tail with ⟨e,t⟩|⟨y,t⟩ <;> rfl
theorem ul_need (s:List UInt8) (ts:List Tk):fneed s (ul ts)=UR id (fneed s ts):=by
 unfold fneed
 rw [ul_sg,ul_tail]
 exact ur_ite (fun _=>rfl) fun _=>rfl
theorem ul_name (ts:List Tk):fname (ul ts)=UR id (fname ts):=by
 unfold fname
 rw [ul_k,ul_t,ul_tail]
 exact ur_ite (fun _=>rfl) fun _=>rfl
theorem ul_qx (ts:List Tk):qx (ul ts)=UR id (qx ts):=by
 unfold qx
 rw [ul_len]
 exact (ul_fe _).1 _ _ _
theorem ul_qt (ts:List Tk):qt (ul ts)=UR id (qt ts):=by
 unfold qt ftg
 rw [ul_len]
 refine UR.qb0 (ul_name ts) fun n r=>?_
 rw [ul_sg,ul_sg,ul_tail]
 refine ur_ite (fun _=>UR.qb0 (ul_name _) fun f t=>rfl) fun _=>?_
 exact ur_ite (fun _=>UR.qb0 ((ul_fe _).1 _ _ _) fun x t=>UR.qb0 (ul_need _ _) fun _ u=>rfl) fun _=>rfl
theorem ul_args:∀ (k:Nat) (l:List Xp) (ts:List Tk),fargs k l (ul ts)=UR id (fargs k l ts)
 | 0,l,ts=>by rw [fargs,fargs]; rfl
 | k + 1,l,ts=>by
  rw [fargs,fargs,ul_sg,ul_tail]
  exact ur_ite (fun _=>UR.qb0 (ul_qx _) fun x r=>ul_args k _ r) fun _=>rfl
theorem ul_call (ts:List Tk):fcall (ul ts)=UR id (fcall ts):=by
 unfold fcall
 refine UR.qb0 (ul_name ts) fun n r=>UR.qb0 (ul_need _ r) fun _ r2=>?_
 rw [ul_sg,ul_tail]
 refine ur_ite (fun _=>rfl) fun _=>UR.qb0 (ul_qx _) fun x r3=>?_
 rw [ul_len]
 exact UR.qb0 (ul_args _ _ _) fun l r4=>UR.qb0 (ul_need _ _) fun _ r5=>rfl
theorem ul_val (b:Bool) (ts:List Tk):fval b (ul ts)=UR id (fval b ts):=by
 unfold fval
 rw [ul_seesC]
 exact ur_ite (fun _=>ul_call ts) fun _=>UR.qb0 (ul_qx _) fun x r=>rfl
theorem ul_eff (ts:List Tk):feff (ul ts)=UR id (feff ts):=by
 unfold feff
 rw [ul_seesC]
 refine ur_ite (fun _=>UR.qb0 (ul_call ts) fun c r=>rfl) fun _=>UR.qb0 (ul_qt ts) fun y r=>UR.qb0 (ul_need _ r) fun _ r2=>?_
 rw [ul_seesC]
 exact ur_ite (fun _=>UR.qb0 (ul_call _) fun c r=>rfl) fun _=>UR.qb0 (ul_qx _) fun c r=>rfl
theorem ul_ty (ts:List Tk):fty (ul ts)=UR id (fty ts):=by
 unfold fty
 simp only [ul_tail,ul_kw,ul_sg,ul_k,ul_n]
 refine ur_ite (fun _=>?_) fun _=>UR.qb0 (ul_name ts) fun c r=>rfl
 refine ur_ite (fun _=>?_) fun _=>rfl
 refine ur_ite (fun _=>?_) fun _=>rfl
 exact ur_ite (fun _=>rfl) fun _=>UR.qb0 (ul_need _ _) fun _ r=>rfl
theorem ul_decl (ts:List Tk):fdecl (ul ts)=UR id (fdecl ts):=by
 rw [fdecl_eq,fdecl_eq]
 exact UR.qb0 (ul_name ts) fun n r=>UR.qb0 (ul_need _ _) fun _ r2=>UR.qb0 (ul_ty _) fun p r3=>UR.qb0 (ul_need _ _) fun _ r4=>rfl
theorem ul_catch (ts:List Tk):fcatch (ul ts)=UR id (fcatch ts):=by
 unfold fcatch
 rw [ul_kw,ul_tail]
 exact ur_ite (fun _=>rfl) fun _=>rfl
mutual
def l1:Sp→Sp
 | .mk k _ nm ty len tg fn ar bd el=>.mk k 1 nm ty len tg fn ar (l1s bd) (l1s el)
def l1s:List Sp→List Sp
 | []=>[]
 | s::r=>l1 s::l1s r
end
theorem l1s_append:∀ (l m:List Sp),l1s (l++m)=l1s l++l1s m
 | [],m=>by rw [l1s]; rfl
 | s::l,m=>by rw [List.cons_append,l1s,l1s,l1s_append l m]; rfl
theorem l1s_nil:l1s []=[]:=by rw [l1s]
theorem begS_kind {t:Tk} (h:begS t=true):t.kind≠0:=by
 intro e
 unfold begS at h
 rw [e] at h
 cases h
theorem ul_stm:∀ k:Nat,(∀ d ts,fstm k d (ul ts)=UR l1 (fstm k d ts))∧(∀ d ts,fblk k d (ul ts)=UR l1s (fblk k d ts))∧(∀ d l ts,fsts k d (l1s l) (ul ts)=UR l1s (fsts k d l ts))
 | 0=>⟨fun _ _=>by rw [fstm,fstm]; rfl,fun _ _=>by rw [fblk,fblk]; rfl,fun _ _ _=>by rw [fsts,fsts]; rfl⟩
 | k + 1=>by
  obtain ⟨i1,i2,i3⟩:=ul_stm k
  refine ⟨fun d ts=>?_,fun d ts=>?_,fun d l ts=>?_⟩
  ·by_cases hb:begS (hd ts)=true
   rotate_left
   ·rw [fstm,fstm,ul_begS,if_neg hb,if_neg hb]
    rfl
   by_cases h8:8 < d
   ·rw [fstm,fstm,ul_begS,if_pos hb,if_pos hb,if_pos h8,if_pos h8]
    rfl
   have hb':begS (hd (ul ts))=true:=by rw [ul_begS]; exact hb
   rw [fstm_pos hb h8,fstm_pos hb' h8,ul_l (begS_kind hb),ul_tail]
   simp only [ul_kw]
   refine ur_ite (fun _=>UR.qb0 (ul_decl _) fun x r=>by simp only [UR,l1,l1s]) fun _=>?_
   refine ur_ite (fun _=>UR.qb0 (ul_qx _) fun x r=>UR.qb (i2 _ _) fun b r2 _=>?_) fun _=>?_
   ·rw [ul_kw,ul_tail]
    exact ur_ite (fun _=>UR.qb (i2 _ _) fun e r3 _=>by simp only [UR,l1]) fun _=>by simp only [UR,l1,l1s]
   refine ur_ite (fun _=>UR.qb0 (ul_qx _) fun x r=>UR.qb (i2 _ _) fun b r2 _=>by simp only [UR,l1,l1s]) fun _=>?_
   refine ur_ite (fun _=>UR.qb (i2 _ _) fun b r _=>UR.qb0 (ul_catch _) fun _ r1=>UR.qb0 (ul_name _) fun n r2=>UR.qb (i2 _ _) fun e r3 _=>by simp only [UR,l1]) fun _=>?_
   refine ur_ite (fun _=>UR.qb0 (ul_val _ _) fun x r=>UR.qb0 (ul_need _ _) fun _ r2=>by simp only [UR,l1,l1s]) fun _=>?_
   refine ur_ite (fun _=>UR.qb0 (ul_val _ _) fun x r=>UR.qb0 (ul_need _ _) fun _ r2=>by simp only [UR,l1,l1s]) fun _=>?_
   refine ur_ite (fun _=>UR.qb0 (ul_val _ _) fun x r=>UR.qb0 (ul_need _ _) fun _ r2=>by simp only [UR,l1,l1s]) fun _=>?_
   exact UR.qb0 (ul_eff _) fun x r=>UR.qb0 (ul_need _ _) fun _ r2=>by simp only [UR,l1,l1s]
  ·rw [fblk,fblk]
   refine UR.qb0 (ul_need _ _) fun _ r=>?_
   have:=i3 d [] r
   rw [l1s_nil] at this
   exact this
  ·rw [fsts,fsts,ul_sg,ul_tail]
   refine ur_ite (fun _=>rfl) fun _=>UR.qb (i1 d ts) fun s r _=>?_
   have:=i3 d (l++[s]) r
   rw [l1s_append,l1s,l1s_nil] at this
   exact this
theorem ul_more:∀ (k:Nat) (l:Names) (ts:List Tk),fmore k l (ul ts)=UR id (fmore k l ts)
 | 0,l,ts=>by rw [fmore,fmore]; rfl
 | k + 1,l,ts=>by
  rw [fmore_eq,fmore_eq,ul_sg,ul_tail]
  exact ur_ite (fun _=>UR.qb0 (ul_name _) fun n r=>ul_more k _ r) fun _=>rfl
theorem ul_names (ts:List Tk):fnames (ul ts)=UR id (fnames ts):=by
 rw [fnames_eq,fnames_eq,ul_len]
 exact UR.qb0 (ul_name ts) fun n r=>ul_more _ _ r
theorem ul_record (ts:List Tk):frecord (ul ts)=UR id (frecord ts):=by
 unfold frecord
 exact UR.qb0 (ul_name ts) fun n r=>UR.qb0 (ul_need _ _) fun _ r2=>UR.qb0 (ul_names _) fun l r3=>UR.qb0 (ul_need _ _) fun _ r4=>rfl
def l1F (f:Fn):Fn:=⟨1,f.name,f.params,l1s f.body,1⟩
theorem ul_par (ts:List Tk):fpar (ul ts)=UR id (fpar ts):=by
 unfold fpar
 rw [ul_sg]
 exact ur_ite (fun _=>rfl) fun _=>ul_names ts
theorem ul_drop (ts:List Tk) (n:Nat):(ul ts).drop n=ul (ts.drop n):=by unfold ul; rw [List.map_drop]
theorem ul_func {ts:List Tk} (hk:(hd ts).kind≠0):ffunc (ul ts)=UR l1F (ffunc ts):=by
 unfold ffunc
 rw [ul_tail]
 refine UR.qb0 (ul_name _) fun n r1=>UR.qb0 (ul_need _ _) fun _ r2=>UR.qb0 (ul_par _) fun ps r3=>UR.qb0 (ul_need _ _) fun _ r4=>?_
 rw [ul_len]
 refine UR.qb ((ul_stm _).2.1 _ _) fun b r5 _=>?_
 have ha:(ahead (ul ts) (ul r5)).line=1:=by
  unfold ahead
  rw [ul_len,ul_len,ul_drop]
  have hn:ts.drop (ts.length - r5.length - 1)≠[]:=by
   cases ts with
   | nil=>exact absurd rfl hk
   | cons a r =>
    intro e
    have:=congrArg List.length e
    rw [List.length_drop] at this
    simp only [List.length_cons,List.length_nil] at this
    omega
  generalize ts.drop (ts.length - r5.length - 1)=q at hn
  cases q with
  | nil=>exact absurd rfl hn
  | cons a r=>rfl
 rw [ha,ul_l hk]
 rfl
theorem ul_recs:∀ (k:Nat) (l:List Rec) (ts:List Tk),frecs k l (ul ts)=UR id (frecs k l ts)
 | 0,l,ts=>by rw [frecs,frecs]; rfl
 | k + 1,l,ts=>by
  rw [frecs,frecs,ul_kw,ul_tail]
  exact ur_ite (fun _=>UR.qb0 (ul_record _) fun n r=>ul_recs k _ r) fun _=>rfl
theorem ul_funs:∀ (k:Nat) (l:List Fn) (ts:List Tk),ffuns k (l.map l1F) (ul ts)=UR (List.map l1F) (ffuns k l ts)
 | 0,l,ts=>by rw [ffuns,ffuns]; rfl
 | k + 1,l,ts=>by
  rw [ffuns,ffuns,ul_kw]
  refine ur_ite (fun h=>UR.qb (ul_func (kw_kind h)) fun f r _=>?_) fun _=>rfl
  have:=ul_funs k (l++[f]) r
  rw [List.map_append,List.map_cons,List.map_nil] at this
  exact this
def l1P (p:Prg):Prg:=(p.1,p.2.map l1F)
theorem ul_prog (ts:List Tk):fprog (ul ts)=UR l1P (fprog ts):=by
 unfold fprog
 rw [ul_len]
 refine UR.qb0 (ul_recs _ _ _) fun R r=>?_
 rw [ul_len]
 refine UR.qb (f:=List.map l1F) (ul_funs _ [] _) fun F r2 _=>?_
 rw [ul_k]
 exact ur_ite (fun _=>rfl) fun _=>rfl
theorem fprog_ul {ts t:List Tk} {p:Prg} (h:fprog (ul ts)=.ok (p,t)):∃ q r,fprog ts=.ok (q,r)∧l1P q=p:=by
 rw [ul_prog] at h
 cases hf:fprog ts with
 | error e=>rw [hf] at h; cases h
 | ok q =>
  rw [hf] at h
  obtain ⟨q,r⟩:=q
  cases h
  exact ⟨q,r,rfl,rfl⟩
end Go.Proofs
namespace Go.Proofs
open Go.AM

theorem sg_S (s r:List UInt8):sg (tS s) r=decide (s=r):=by simp [sg,tS]
theorem need_T (s:List UInt8) (r:List Tk):fneed s (tS s::r)=.ok ((),r):=by
 unfold fneed
 rw [hd_cons,if_pos (by rw [sg_S]; simp),List.tail_cons]
theorem name_T (s:List UInt8) (r:List Tk):fname (tN s::r)=.ok (s,r):=by
 unfold fname
 rw [hd_cons,if_pos (show (tN s).kind=1 from rfl)]
 rfl
def Stp (r:List Tk):Prop:=(bin (hd r)).1=0∧St0 r
theorem Stp_S {c:UInt8} (hc:c=59∨c=123∨c=44∨c=41∨c=93) (r:List Tk):Stp (tS [c]::r):=by
 unfold Stp St0
 rw [hd_cons]
 rcases hc with rfl|rfl|rfl|rfl|rfl <;> decide
theorem qx_T {x:Xp} (h:EX x) {r:List Tk} (hr:Stp r):qx (xtk x++r)=.ok (x,r) :=
 qx_qe.2 ((rt x h.1).top (lvX_pos h.1) (by have:=h.2.2; omega) hr.1 hr.2)
theorem qt_T {y:Xp} (hy:isTg y) (h:EX y) (r:List Tk):qt (xtk y++tS [61]::r)=.ok (y,tS [61]::r):=by
 unfold qt
 generalize hk:7 * (xtk y++tS [61]::r).length + 7=k
 cases y with
 | var s =>
  show ftg k 0 (tN s::tS [61]::r)=_
  unfold ftg
  rw [name_T,qb_ret,hd_cons,if_neg (by decide),if_neg (by decide)]
 | fld s f =>
  show ftg k 0 (tN s::tS [46]::tN f::tS [61]::r)=_
  unfold ftg
  rw [name_T,qb_ret,hd_cons,if_pos (by decide),List.tail_cons,name_T,qb_ret]
 | elt s a =>
  obtain ⟨w1,_,w3⟩:=h
  have w1:Wop a:=w1
  have w3:nd a + 1≤8:=w3
  have e:xtk (.elt s a)++tS [61]::r=tN s::tS [91]::(xtk a++(tS [93]::tS [61]::r)):=by simp [xtk]
  have ht:qe 1 1 (xtk a++(tS [93]::tS [61]::r))=.ok (a,tS [93]::tS [61]::r):=(rt a w1).top (lvX_pos w1) (by omega) (by rw [hd_cons]; decide) ⟨by rw [hd_cons]; decide,by rw [hd_cons]; decide⟩
  have hf:fe k 1 1 (xtk a++(tS [93]::tS [61]::r))=.ok (a,tS [93]::tS [61]::r):=by
   rw [← er_ok,(er_fe _).1,pe_q (by decide) (by decide),ht]
   rw [e] at hk
   simp only [List.length_cons] at hk
   omega
  rw [e]
  unfold ftg
  rw [name_T,qb_ret,hd_cons,if_neg (by decide),if_pos (by decide),List.tail_cons,hf,qb_ret,need_T,qb_ret]
 | _=>exact hy.elim
theorem xtk_beg:∀ x:Xp,Wop x→∃ t r,xtk x=t::r∧beg t=true
 | .lit n,_=>⟨_,_,rfl,by rfl⟩
 | .var s,_=>⟨_,_,rfl,by rfl⟩
 | .fld s f,_=>⟨_,_,rfl,by rfl⟩
 | .elt s a,_=>⟨_,_,rfl,by rfl⟩
 | .una op a,h=>⟨_,_,rfl,by rcases h.1 with rfl|rfl <;> rfl⟩
 | .bin op a b,h=>by
  obtain ⟨t,r,e,hb⟩:=xtk_beg a h.2.2.1
  have e2:xtk (.bin op a b)=par (lpar op a) (xtk a)++tS (sgO op)::par (rpar op b) (xtk b):=rfl
  rw [e2]
  cases lpar op a with
  | true=>exact ⟨_,_,rfl,by rfl⟩
  | false=>rw [show par false (xtk a)=xtk a from rfl,e]; exact ⟨_,_,rfl,hb⟩
theorem beg_no {t:Tk} (h:beg t=true):sg t [41]=false∧sg t [125]=false:=by
 rcases beg_cases h with q|q|⟨q,q2⟩
 ·constructor <;> simp [sg,q]
 ·constructor <;> simp [sg,q]
 ·rcases q2 with q2|q2|q2 <;> constructor <;> simp [sg,q,q2]
theorem xtk_sees:∀ (x:Xp) (r:List Tk),Wop x→sg (hd r) [40]=false→seesC (xtk x++r)=false
 | .lit n,r,_,_=>rfl
 | .var s,r,_,h=>by
  show (true && sg (hd r) [40])=false
  rw [h]
  rfl
 | .fld s f,r,_,_=>by rfl
 | .elt s a,r,_,_=>by rfl
 | .una op a,r,_,_=>by rfl
 | .bin op a b,r,h,_=>by
  have e2:xtk (.bin op a b)++r=par (lpar op a) (xtk a)++(tS (sgO op)::(par (rpar op b) (xtk b)++r)):=by
   show (_++_::_)++r=_
   rw [List.append_assoc,List.cons_append]
  rw [e2]
  cases lpar op a with
  | true=>rfl
  | false =>
   refine xtk_sees a _ h.2.2.1 ?_
   rw [hd_cons]
   have:op=6∨op=7∨op=8∨op=9∨op=10∨op=11∨op=12∨op=13∨op=14∨op=15∨op=16∨op=17:=by have:=h.1; have:=h.2.1; omega
   rcases this with rfl|rfl|rfl|rfl|rfl|rfl|rfl|rfl|rfl|rfl|rfl|rfl <;> decide
def moreT (l:List Xp):List Tk:=(l.map fun x=>tS [44]::xtk x).flatten
theorem xstk_cons:∀ (x:Xp) (l:List Xp),xstk (x::l)=xtk x++moreT l
 | x,[]=>by simp [xstk,moreT]
 | x,y::l=>by
  rw [xstk,xstk_cons y l]
  simp [moreT]
theorem moreT_Stp (l:List Xp) (r:List Tk):Stp (moreT l++tS [41]::r):=by
 cases l with
 | nil=>exact Stp_S (by simp) r
 | cons x l=>exact Stp_S (by simp) _
theorem args_T:∀ (l:List Xp) (k:Nat) (acc:List Xp) (r:List Tk),(∀ x ∈ l,EX x)→l.length < k→fargs k acc (moreT l++tS [41]::r)=.ok (acc++l,tS [41]::r)
 | [],k + 1,acc,r,_,_=>by
  rw [fargs,show moreT []++tS [41]::r=tS [41]::r from rfl,hd_cons,if_neg (by decide),List.append_nil]
 | x::l,k + 1,acc,r,h,hk=>by
  have e:moreT (x::l)++tS [41]::r=tS [44]::(xtk x++(moreT l++tS [41]::r)):=by simp [moreT]
  rw [e,fargs,hd_cons,if_pos (by decide),List.tail_cons,qx_T (h x (List.mem_cons_self ..)) (moreT_Stp l r),qb_ret,args_T l k _ r (fun y hy=>h y (List.mem_cons_of_mem _ hy)) (by simp only [List.length_cons] at hk; omega)]
  simp
theorem moreT_len:∀ l:List Xp,l.length≤(moreT l).length
 | []=>Nat.le_refl _
 | a::l=>by
  have:=moreT_len l
  have e:moreT (a::l)=tS [44]::(xtk a++moreT l):=by simp [moreT]
  rw [e]
  simp only [List.length_cons,List.length_append]
  omega
theorem call_T {fn:List UInt8} {ar:List Xp} (h:∀ x ∈ ar,EX x) (r:List Tk):fcall (tN fn::tS [40]::(xstk ar++tS [41]::r))=.ok ((fn,ar),r):=by
 unfold fcall
 rw [name_T,qb_ret,need_T,qb_ret]
 cases ar with
 | nil =>
  rw [show xstk []++tS [41]::r=tS [41]::r from rfl,hd_cons,if_pos (by decide),List.tail_cons]
 | cons x l =>
  have hx:=h x (List.mem_cons_self ..)
  obtain ⟨t,q,e,hb⟩:=xtk_beg x hx.1
  have hs:¬ sg (hd (xstk (x::l)++tS [41]::r)) [41]=true:=by
   rw [xstk_cons,e,List.cons_append,List.cons_append,hd_cons,(beg_no hb).1]
   decide
  rw [if_neg hs,xstk_cons,List.append_assoc,qx_T hx (moreT_Stp l r),qb_ret,args_T l _ _ _ (fun y hy=>h y (List.mem_cons_of_mem _ hy)),qb_ret,need_T,qb_ret]
  ·rfl
  ·have:=moreT_len l
   simp only [List.length_append,List.length_cons]
   omega
theorem val_T {c:Bool} {fn:List UInt8} {ar:List Xp} (h:∀ x ∈ ar,EX x) (hv:(c=true∧Nm fn)∨(fn=[]∧∃ x,ar=[x])) (r:List Tk):fval c (smvtk fn ar++tS [59]::r)=.ok ((fn,ar),tS [59]::r):=by
 unfold fval
 rcases hv with ⟨rfl,hn⟩|⟨rfl,x,rfl⟩
 ·have e:smvtk fn ar++tS [59]::r=tN fn::tS [40]::(xstk ar++tS [41]::tS [59]::r):=by
   unfold smvtk
   rw [if_neg (Nm_ne hn)]
   simp
  rw [e,if_pos (by rfl),call_T h]
 ·have hx:=h x (List.mem_cons_self ..)
  have e:smvtk [] [x]++tS [59]::r=xtk x++tS [59]::r:=rfl
  rw [e,xtk_sees x _ hx.1 (by rw [hd_cons]; decide),Bool.and_false,if_neg (by decide),qx_T hx (Stp_S (by simp) r),qb_ret]
theorem tg_sees {y:Xp} (hy:isTg y) (r:List Tk):seesC (xtk y++tS [61]::r)=false:=by
 cases y with
 | var s=>rfl
 | fld s f=>rfl
 | elt s a=>rfl
 | _=>exact hy.elim
theorem tg_name {y:Xp} (hy:isTg y):∃ s r,xtk y=tN s::r:=by
 cases y with
 | var s=>exact ⟨_,_,rfl⟩
 | fld s f=>exact ⟨_,_,rfl⟩
 | elt s a=>exact ⟨_,_,rfl⟩
 | _=>exact hy.elim
theorem eff_T {k:Nat} {tg:List Xp} {fn:List UInt8} {ar:List Xp} (h2:k=2∨k=3) (hs:Shp k [] [] 0 tg fn ar [] []) (ht:∀ x ∈ tg,EX x) (h:∀ x ∈ ar,EX x) (r:List Tk) :
  feff (smhtk k tg++(smvtk fn ar++tS [59]::r))=.ok (⟨k,tg,fn,ar⟩,tS [59]::r)∧∃ s q,smhtk k tg++(smvtk fn ar++tS [59]::r)=tN s::q:=by
 have hcall:∀ {fn:List UInt8} {q:List Tk},Nm fn→smvtk fn ar++q=tN fn::tS [40]::(xstk ar++tS [41]::q):=fun hn=>by
  unfold smvtk
  rw [if_neg (Nm_ne hn)]
  simp
 have hsh:∀ {j:Nat} {y:Xp} {q:List Tk},j=2∨j=3→smhtk j [y]++q=xtk y++tS [61]::q:=fun hj=>by
  unfold smhtk
  rw [if_neg (by omega),if_neg (by omega),if_neg (by omega),if_neg (by simp),xstk_one]
  simp
 cases hs with
 | asg y hy x =>
  obtain ⟨s,q,e⟩:=tg_name hy
  have hx:=h x (List.mem_cons_self ..)
  rw [hsh (.inl rfl)]
  refine ⟨?_,s,_,by rw [e]; rfl⟩
  unfold feff
  rw [tg_sees hy,if_neg (by decide),qt_T hy (ht y (List.mem_cons_self ..)),qb_ret,need_T,qb_ret,show smvtk [] [x]=xtk x from rfl,xtk_sees x _ hx.1 (by rw [hd_cons]; decide),if_neg (by decide),qx_T hx (Stp_S (by simp) r),qb_ret]
 | cal fn hn ar =>
  rw [show smhtk 3 []=[] from rfl,List.nil_append,hcall hn]
  refine ⟨?_,_,_,rfl⟩
  unfold feff
  rw [if_pos (by rfl),call_T h,qb_ret]
 | cat y hy fn hn ar =>
  obtain ⟨s,q,e⟩:=tg_name hy
  rw [hsh (.inr rfl),hcall hn]
  refine ⟨?_,s,_,by rw [e]; rfl⟩
  unfold feff
  rw [tg_sees hy,if_neg (by decide),qt_T hy (ht y (List.mem_cons_self ..)),qb_ret,need_T,qb_ret,if_pos (by rfl),call_T h,qb_ret]
 | _=>omega
theorem ty_T {ty:List UInt8} {len:Nat} (h:(ty=[]∧len≤8)∨(Nm ty∧len=0)) (r:List Tk):fty (tytk ty len++tS [59]::r)=.ok ((ty,len),tS [59]::r):=by
 unfold fty tytk
 rcases h with ⟨rfl,h8⟩|⟨hn,rfl⟩
 ·rw [if_pos rfl]
  by_cases h0:len=0
  ·subst h0
   rw [if_pos rfl,show [tK wInt]++tS [59]::r=tK wInt::tS [59]::r from rfl,hd_cons,if_pos (by decide),List.tail_cons,hd_cons,if_neg (by decide)]
  ·rw [if_neg h0,show [tK wInt,tS [91],(⟨2,1,[],len⟩:Tk),tS [93]]++tS [59]::r=tK wInt::tS [91]::(⟨2,1,[],len⟩:Tk)::tS [93]::tS [59]::r from rfl,hd_cons,if_pos (by decide),List.tail_cons,hd_cons,if_pos (by decide),List.tail_cons,hd_cons,if_pos rfl,if_neg (by show ¬ (len < 1∨8 < len); omega),List.tail_cons,need_T,qb_ret]
 ·rw [if_neg (Nm_ne hn),show [tN ty]++tS [59]::r=tN ty::tS [59]::r from rfl,hd_cons,if_neg (by simp [kw,tN]),name_T,qb_ret]
theorem kw_N (s w:List UInt8):kw (tN s) w=false:=by simp [kw,tN]
theorem begS_no {t:Tk} (h:begS t=true):kw t wElse=false∧sg t [125]=false:=by
 unfold begS at h
 rw [Bool.or_eq_true] at h
 rcases h with h|h
 ·have h:=of_decide_eq_true h
  constructor <;> simp [kw,sg,h]
 ·rw [Bool.and_eq_true] at h
  obtain ⟨h1,h2⟩:=h
  have h1:=of_decide_eq_true h1
  refine ⟨?_,by simp [sg,h1]⟩
  unfold kw
  refine decide_eq_false fun ⟨_,h4⟩=>?_
  rw [h4] at h2
  exact absurd h2 (by decide)
theorem stk_beg {d:Nat} {s:Sp} (h:PS d s):∃ t r,stk s=t::r∧begS t=true:=by
 obtain ⟨k,l,nm,ty,len,tg,fn,ar,bd,el⟩:=s
 rw [PS] at h
 obtain ⟨_,h2,h3,_,_,_,h7,_,_⟩:=h
 rw [stk]
 have he:k=2∨k=3→Shp k nm ty len tg fn ar bd el→∃ t r,smhtk k tg++(smvtk fn ar++[tS [59]])=t::r∧begS t=true:=fun hk hs=>by
  have hs2:Shp k [] [] 0 tg fn ar [] []:=by
   cases hs
   all_goals first|omega|(constructor; assumption)|(constructor <;> assumption)
  obtain ⟨_,s,q,e⟩:=eff_T hk hs2 h2 h3 []
  exact ⟨_,_,e,rfl⟩
 cases h7 with
 | asg y hy x=>exact he (.inl rfl) (.asg y hy x)
 | cal fn hn ar=>exact he (.inr rfl) (.cal fn hn ar)
 | cat y hy fn hn ar=>exact he (.inr rfl) (.cat y hy fn hn ar)
 | _=>exact ⟨_,_,rfl,by decide⟩
theorem fsts_end {k d:Nat} {acc:List Sp} {r:List Tk}:fsts (k + 1) d acc (tS [125]::r)=.ok (acc,r):=by
 rw [fsts,hd_cons,if_pos (by decide),List.tail_cons]
theorem stks_hd {d:Nat} {l:List Sp} (h:PL d l) (r:List Tk):kw (hd (stks l++tS [125]::r)) wElse=false:=by
 cases l with
 | nil=>rw [stks]; rfl
 | cons s l =>
  rw [PL] at h
  obtain ⟨t,q,e,hb⟩:=stk_beg h.1
  rw [stks,e,List.cons_append,List.cons_append,hd_cons]
  exact (begS_no hb).1
theorem eff_stm {k d K l:Nat} {tg:List Xp} {fn:List UInt8} {ar:List Xp} (hk:k=2∨k=3) (hs:Shp k [] [] 0 tg fn ar [] []) (h2:∀ x ∈ tg,EX x) (h3:∀ x ∈ ar,EX x) (h8:¬ 8 < d) (r:List Tk) :
  fstm (K + 1) d (stk (.mk k l [] [] 0 tg fn ar [] [])++r)=.ok (l1 (.mk k l [] [] 0 tg fn ar [] []),r):=by
 rw [stk,if_neg (by omega),if_neg (by omega),if_neg (by omega),if_neg (by omega)]
 obtain ⟨h,s,q,e⟩:=eff_T hk hs h2 h3 r
 have e2:smhtk k tg++(smvtk fn ar++[tS [59]])++r=smhtk k tg++(smvtk fn ar++tS [59]::r):=by simp
 have hw:∀ w,kw (hd (smhtk k tg++(smvtk fn ar++tS [59]::r))) w=false:=fun w=>by rw [e]; exact kw_N s w
 have hl:(hd (smhtk k tg++(smvtk fn ar++tS [59]::r))).line=1:=by rw [e]; rfl
 rw [e2,fstm_pos (by rw [e]; rfl) h8]
 simp only [hw,Bool.false_eq_true,if_false]
 rw [h,qb_ret,need_T,qb_ret,hl,l1,l1s]
mutual
theorem stm_T:∀ (s:Sp) (d K:Nat) (r:List Tk),PS d s→3 * (stk s).length≤K→kw (hd r) wElse=false→fstm K d (stk s++r)=.ok (l1 s,r)
 | .mk k l nm ty len tg fn ar bd el,d,K,r,h,hK,hr=>by
  obtain ⟨t,q,e,hb⟩:=stk_beg h
  rw [PS] at h
  obtain ⟨hd8,h2,h3,_,_,_,h7,hbd,hel⟩:=h
  have hK1:3≤K:=by rw [e] at hK; simp only [List.length_cons] at hK; omega
  obtain ⟨K,rfl⟩:∃ j,K=j + 1:=⟨K - 1,by omega⟩
  by_cases hk:k=2∨k=3
  ·cases h7 with
   | asg y hy x=>exact eff_stm hk (.asg y hy x) h2 h3 (by omega) r
   | cal fn hn ar=>exact eff_stm hk (.cal fn hn ar) h2 h3 (by omega) r
   | cat y hy fn hn ar=>exact eff_stm hk (.cat y hy fn hn ar) h2 h3 (by omega) r
   | _=>omega
  have hB:∀ u,3 * (stks bd).length + 2≤K→fblk K (d + 1) (tS [123]::(stks bd++tS [125]::u))=.ok (l1s bd,u):=fun u hk=>blk_T bd (d + 1) K u hbd hk
  have hE:∀ u,3 * (stks el).length + 2≤K→fblk K (d + 1) (tS [123]::(stks el++tS [125]::u))=.ok (l1s el,u):=fun u hk=>blk_T el (d + 1) K u hel hk
  have h8:¬ 8 < d:=by omega
  cases h7 with
  | dcl nm hn len hl8 =>
   have e:stk (.mk 1 l nm [] len [] [] [] [] [])++r=tK wVar::tN nm::tS [58]::(tytk [] len++tS [59]::r):=by rw [stk]; simp
   rw [e,fstm_pos (by rfl) h8,hd_cons,if_pos (by decide),List.tail_cons,fdecl_eq,name_T,qb_ret,need_T,qb_ret,ty_T (.inl ⟨rfl,hl8⟩),qb_ret,need_T,qb_ret,qb_ret,l1,l1s]
   rfl
  | dct nm hn ty ht =>
   have e:stk (.mk 1 l nm ty 0 [] [] [] [] [])++r=tK wVar::tN nm::tS [58]::(tytk ty 0++tS [59]::r):=by rw [stk]; simp
   rw [e,fstm_pos (by rfl) h8,hd_cons,if_pos (by decide),List.tail_cons,fdecl_eq,name_T,qb_ret,need_T,qb_ret,ty_T (.inr ⟨ht,rfl⟩),qb_ret,need_T,qb_ret,qb_ret,l1,l1s]
   rfl
  | iff x bd el =>
   rw [stk,if_pos rfl,xstk_one] at hK
   have hx:=h3 x (List.mem_cons_self ..)
   cases el with
   | nil =>
    have e:stk (.mk 4 l [] [] 0 [] [] [x] bd [])++r=tK wIf::(xtk x++tS [123]::(stks bd++tS [125]::r)):=by rw [stk]; simp [xstk_one]
    simp only [List.length_cons,List.length_append] at hK
    rw [e,fstm_pos (by rfl) h8,hd_cons,if_neg (by decide),if_pos (by decide),List.tail_cons,qx_T hx (Stp_S (by simp) _),qb_ret,hB r (by omega),qb_ret,hr,if_neg (by decide),l1,l1s]
    rfl
   | cons a m =>
    have e:stk (.mk 4 l [] [] 0 [] [] [x] bd (a::m))++r=tK wIf::(xtk x++tS [123]::(stks bd++tS [125]::tK wElse::tS [123]::(stks (a::m)++tS [125]::r))):=by rw [stk]; simp [xstk_one]
    simp only [List.length_cons,List.length_append,List.isEmpty_cons,Bool.false_eq_true,if_false] at hK
    rw [e,fstm_pos (by rfl) h8,hd_cons,if_neg (by decide),if_pos (by decide),List.tail_cons,qx_T hx (Stp_S (by simp) _),qb_ret,hB _ (by omega),qb_ret,hd_cons,if_pos (by decide),List.tail_cons,hE r (by omega),qb_ret,l1]
    rfl
  | whl x bd =>
   rw [stk,if_neg (by decide),if_pos rfl,xstk_one] at hK
   have hx:=h3 x (List.mem_cons_self ..)
   have e:stk (.mk 5 l [] [] 0 [] [] [x] bd [])++r=tK wWhile::(xtk x++tS [123]::(stks bd++tS [125]::r)):=by rw [stk]; simp [xstk_one]
   simp only [List.length_cons,List.length_append] at hK
   rw [e,fstm_pos (by rfl) h8,hd_cons,if_neg (by decide),if_neg (by decide),if_pos (by decide),List.tail_cons,qx_T hx (Stp_S (by simp) _),qb_ret,hB r (by omega),qb_ret,l1,l1s]
   rfl
  | tri nm hn bd el =>
   rw [stk,if_neg (by decide),if_neg (by decide),if_pos rfl] at hK
   have e:stk (.mk 8 l nm [] 0 [] [] [] bd el)++r=tK wTry::tS [123]::(stks bd++tS [125]::tK wCatch::tN nm::tS [123]::(stks el++tS [125]::r)):=by rw [stk]; simp
   simp only [List.length_cons,List.length_append] at hK
   have hc:∀ u,fcatch (tK wCatch::u)=.ok ((),u):=fun u=>by
    unfold fcatch
    rw [hd_cons,if_pos (by decide),List.tail_cons]
   rw [e,fstm_pos (by rfl) h8,hd_cons,if_neg (by decide),if_neg (by decide),if_neg (by decide),if_pos (by decide),List.tail_cons,hB _ (by omega),qb_ret,hc,qb_ret,name_T,qb_ret,hE r (by omega),qb_ret,l1]
   rfl
  | ret x =>
   have e:stk (.mk 6 l [] [] 0 [] [] [x] [] [])++r=tK wReturn::(smvtk [] [x]++tS [59]::r):=by rw [stk]; simp [smhtk]
   rw [e,fstm_pos (by rfl) h8,hd_cons,if_neg (by decide),if_neg (by decide),if_neg (by decide),if_neg (by decide),if_pos (by decide),List.tail_cons,val_T h3 (.inr ⟨rfl,x,rfl⟩),qb_ret,need_T,qb_ret,l1,l1s]
   rfl
  | rtc fn hn ar =>
   have e:stk (.mk 6 l [] [] 0 [] fn ar [] [])++r=tK wReturn::(smvtk fn ar++tS [59]::r):=by rw [stk]; simp [smhtk]
   rw [e,fstm_pos (by rfl) h8,hd_cons,if_neg (by decide),if_neg (by decide),if_neg (by decide),if_neg (by decide),if_pos (by decide),List.tail_cons,val_T h3 (.inl ⟨rfl,hn⟩),qb_ret,need_T,qb_ret,l1,l1s]
   rfl
  | thr x =>
   have e:stk (.mk 7 l [] [] 0 [] [] [x] [] [])++r=tK wThrow::(smvtk [] [x]++tS [59]::r):=by rw [stk]; simp [smhtk]
   rw [e,fstm_pos (by rfl) h8,hd_cons,if_neg (by decide),if_neg (by decide),if_neg (by decide),if_neg (by decide),if_neg (by decide),if_pos (by decide),List.tail_cons,val_T h3 (.inr ⟨rfl,x,rfl⟩),qb_ret,need_T,qb_ret,l1,l1s]
   rfl
  | prt x =>
   have e:stk (.mk 9 l [] [] 0 [] [] [x] [] [])++r=tK wPrint::(smvtk [] [x]++tS [59]::r):=by rw [stk]; simp [smhtk]
   rw [e,fstm_pos (by rfl) h8,hd_cons,if_neg (by decide),if_neg (by decide),if_neg (by decide),if_neg (by decide),if_neg (by decide),if_neg (by decide),if_pos (by decide),List.tail_cons,val_T h3 (.inr ⟨rfl,x,rfl⟩),qb_ret,need_T,qb_ret,l1,l1s]
   rfl
  | _=>exact absurd (by decide) hk
theorem blk_T:∀ (l:List Sp) (d K:Nat) (u:List Tk),PL d l→3 * (stks l).length + 2≤K→fblk K d (tS [123]::(stks l++tS [125]::u))=.ok (l1s l,u)
 | l,d,K,u,h,hK=>by
  obtain ⟨K,rfl⟩:∃ j,K=j + 1:=⟨K - 1,by omega⟩
  rw [fblk,need_T,qb_ret,sts_T l d K [] u h (by omega),List.nil_append]
theorem sts_T:∀ (l:List Sp) (d K:Nat) (acc:List Sp) (u:List Tk),PL d l→3 * (stks l).length + 1≤K→fsts K d acc (stks l++tS [125]::u)=.ok (acc++l1s l,u)
 | [],d,K,acc,u,_,hK=>by
  obtain ⟨K,rfl⟩:∃ j,K=j + 1:=⟨K - 1,by omega⟩
  rw [stks,List.nil_append,fsts_end,l1s,List.append_nil]
 | s::l,d,K,acc,u,h,hK=>by
  obtain ⟨K,rfl⟩:∃ j,K=j + 1:=⟨K - 1,by omega⟩
  rw [PL] at h
  obtain ⟨t,q,e,hb⟩:=stk_beg h.1
  rw [stks,List.length_append] at hK
  have h1:1≤(stk s).length:=by rw [e]; simp
  have hn:¬ sg (hd (stk s++(stks l++tS [125]::u))) [125]=true:=by
   rw [e,List.cons_append,hd_cons,(begS_no hb).2]
   decide
  rw [stks,List.append_assoc,fsts,if_neg hn,stm_T s d K _ h.1 (by omega) (stks_hd h.2 u),qb_ret,sts_T l d K _ u h.2 (by omega),l1s]
  simp
end
end Go.Proofs
namespace Go.Proofs
open Go.AM

def moreN (l:Names):List Tk:=(l.map fun n=>[tS [44],tN n]).flatten
theorem ntk_cons:∀ (a:List UInt8) (l:Names),ntk (a::l)=tN a::moreN l
 | a,[]=>rfl
 | a,b::l=>by
  rw [ntk,ntk_cons b l]
  simp [moreN]
theorem more_T:∀ (l:Names) (k:Nat) (acc:Names) (r:List Tk),l.length < k→sg (hd r) [44]=false→fmore k acc (moreN l++r)=.ok (acc++l,r)
 | [],k + 1,acc,r,_,h=>by
  rw [fmore_eq,show moreN []++r=r from rfl,h,if_neg (by decide),List.append_nil]
 | a::l,k + 1,acc,r,hk,h=>by
  have e:moreN (a::l)++r=tS [44]::tN a::(moreN l++r):=by simp [moreN]
  rw [e,fmore_eq,hd_cons,if_pos (by decide),List.tail_cons,name_T,qb_ret,more_T l k _ r (by simp only [List.length_cons] at hk; omega) h]
  simp
theorem moreN_len:∀ l:Names,l.length≤(moreN l).length
 | []=>Nat.le_refl _
 | a::l=>by
  have:=moreN_len l
  have e:moreN (a::l)=tS [44]::tN a::moreN l:=by simp [moreN]
  rw [e]
  simp only [List.length_cons]
  omega
theorem names_T {l:Names} (h0:l≠[]) {r:List Tk} (h:sg (hd r) [44]=false):fnames (ntk l++r)=.ok (l,r):=by
 cases l with
 | nil=>exact absurd rfl h0
 | cons a l =>
  have:=moreN_len l
  rw [ntk_cons,List.cons_append,fnames_eq,name_T,qb_ret,more_T l _ _ r (by simp only [List.length_cons,List.length_append]; omega) h]
  rfl
theorem record_T {x:Rec} (h:PRc x) (u:List Tk):frecord (tN x.name::tS [123]::(ntk x.fields++tS [125]::u))=.ok (x,u):=by
 unfold frecord
 rw [name_T,qb_ret,need_T,qb_ret,names_T h.some_ (by rw [hd_cons]; decide),qb_ret,need_T,qb_ret]
theorem recs_T:∀ (l:List Rec) (k:Nat) (acc:List Rec) (u:List Tk),(∀ r ∈ l,PRc r)→l.length < k→kw (hd u) wRecord=false→frecs k acc ((l.map rtk).flatten++u)=.ok (acc++l,u)
 | [],k + 1,acc,u,_,_,h=>by
  rw [List.map_nil,List.flatten_nil,List.nil_append,frecs,h,if_neg (by decide),List.append_nil]
 | x::l,k + 1,acc,u,hl,hk,h=>by
  have e:((x::l).map rtk).flatten++u=tK wRecord::(tN x.name::tS [123]::(ntk x.fields++tS [125]::((l.map rtk).flatten++u))):=by simp [rtk]
  rw [e,frecs,hd_cons,if_pos (by decide),List.tail_cons,record_T (hl x (List.mem_cons_self ..)),qb_ret,recs_T l k _ u (fun r hr=>hl r (List.mem_cons_of_mem _ hr)) (by simp only [List.length_cons] at hk; omega) h]
  simp
theorem ahead_T (p:List Tk) (t:Tk) (u:List Tk):ahead (p++t::u) u=t:=by
 unfold ahead
 have:(p++t::u).length - u.length - 1=p.length:=by simp only [List.length_append,List.length_cons]; omega
 rw [this,List.drop_left,hd_cons]
theorem func_T {f:Fn} (h:PF f) (u:List Tk):ffunc (ftk f++u)=.ok (l1F f,u):=by
 have e:ftk f++u=tK wFunc::tN f.name::tS [40]::(ntk f.params++tS [41]::tS [123]::(stks f.body++tS [125]::u)):=by simp [ftk]
 have ea:(ahead (tK wFunc::tN f.name::tS [40]::(ntk f.params++tS [41]::tS [123]::(stks f.body++tS [125]::u))) u).line=1:=by
  have e3:tK wFunc::tN f.name::tS [40]::(ntk f.params++tS [41]::tS [123]::(stks f.body++tS [125]::u))=(tK wFunc::tN f.name::tS [40]::(ntk f.params++tS [41]::tS [123]::stks f.body))++tS [125]::u:=by simp
  rw [e3,ahead_T]
  rfl
 have hp:fpar (ntk f.params++tS [41]::tS [123]::(stks f.body++tS [125]::u))=.ok (f.params,tS [41]::tS [123]::(stks f.body++tS [125]::u)):=by
  unfold fpar
  cases hps:f.params with
  | nil=>rw [show ntk []++tS [41]::tS [123]::(stks f.body++tS [125]::u)=tS [41]::tS [123]::(stks f.body++tS [125]::u) from rfl,hd_cons,if_pos (by decide)]
  | cons a l =>
   have hn:¬ sg (hd (ntk (a::l)++tS [41]::tS [123]::(stks f.body++tS [125]::u))) [41]=true:=by
    rw [ntk_cons,List.cons_append,hd_cons]
    simp [sg,tN]
   rw [if_neg hn,names_T (by simp) (by rw [hd_cons]; decide)]
 rw [e]
 unfold ffunc
 rw [List.tail_cons,name_T,qb_ret,need_T,qb_ret,hp,qb_ret,need_T,qb_ret,blk_T f.body 1 _ u h.body (by simp only [List.length_cons,List.length_append]; omega),qb_ret,ea]
 rfl
theorem funs_T:∀ (l:List Fn) (k:Nat) (acc:List Fn) (u:List Tk),(∀ r ∈ l,PF r)→l.length < k→kw (hd u) wFunc=false→ffuns k acc ((l.map ftk).flatten++u)=.ok (acc++l.map l1F,u)
 | [],k + 1,acc,u,_,_,h=>by
  rw [List.map_nil,List.flatten_nil,List.nil_append,ffuns,h,if_neg (by decide),List.map_nil,List.append_nil]
 | x::l,k + 1,acc,u,hl,hk,h=>by
  have e:((x::l).map ftk).flatten++u=ftk x++((l.map ftk).flatten++u):=by simp
  have hw:kw (hd (ftk x++((l.map ftk).flatten++u))) wFunc=true:=by rfl
  rw [e,ffuns,if_pos hw,func_T (hl x (List.mem_cons_self ..)),qb_ret,funs_T l k _ u (fun r hr=>hl r (List.mem_cons_of_mem _ hr)) (by simp only [List.length_cons] at hk; omega) h]
  simp
theorem rtks_len (l:List Rec):l.length≤((l.map rtk).flatten).length:=by
 induction l with
 | nil=>exact Nat.le_refl _
 | cons a l ih =>
  have h8:1≤(rtk a).length:=by unfold rtk; simp
  simp only [List.map_cons,List.flatten_cons,List.length_cons,List.length_append]
  omega
theorem ftks_len (l:List Fn):l.length≤((l.map ftk).flatten).length:=by
 induction l with
 | nil=>exact Nat.le_refl _
 | cons a l ih =>
  have h8:1≤(ftk a).length:=by unfold ftk; simp
  simp only [List.map_cons,List.flatten_cons,List.length_cons,List.length_append]
  omega
theorem prog_T {p:Prg} (h:PP p):fprog (ptk p++[⟨0,1,[],0⟩])=.ok (l1P p,[⟨0,1,[],0⟩]):=by
 obtain ⟨R,F⟩:=p
 obtain ⟨h1,h2,_,_⟩:=h
 simp only at h1 h2
 have e:ptk (R,F)++[(⟨0,1,[],0⟩:Tk)]=(R.map rtk).flatten++((F.map ftk).flatten++[⟨0,1,[],0⟩]):=by simp [ptk]
 have l1:=rtks_len R
 have l2:=ftks_len F
 have hr:kw (hd ((F.map ftk).flatten++[(⟨0,1,[],0⟩:Tk)])) wRecord=false:=by
  cases F with
  | nil=>rfl
  | cons f F=>rfl
 unfold fprog
 rw [e,recs_T R _ [] _ h1 (by simp only [List.length_append]; omega) hr,qb_ret,funs_T F _ [] _ h2 (by simp only [List.length_append]; omega) (by rfl),qb_ret,hd_cons,if_pos rfl]
 rfl
end Go.Proofs
namespace Go.Proofs
open Go.AM
attribute [local irreducible] AWP AOps ACalls AAny

def SameX (l:List Xp):Prop:=∀ st,ACalls Tryz.prog 64 [.view 6 (xrows l) .shared,.view 6 (xrows l) .shared] st (fun v st'=>v=.bool true∧st'=st) (fun _ _=>False)
def argsX:Xp→List Xp
 | .elt _ a=>[a]
 | .una _ a=>[a]
 | .bin _ a b=>[a,b]
 | _=>[]
theorem xrow_args (x:Xp):∃ (op num:Int) (name field:List UInt8),xrow x=exRow op num name field (.view 6 (xrows (argsX x)) .shared):=by
 cases x <;> exact ⟨_,_,_,_,rfl⟩
set_option maxHeartbeats 2000000 in
theorem sameX_of {l:List Xp} (hl:l.length≤100000) (h:∀ x ∈ l,SameX (argsX x)):SameX l:=by
 intro st
 refine ACalls.ofBody Tryz.func64 rfl Tryz.ntmps64 rfl ?_
 have hnl:=xrows_len l
 refine goD ?_
 refine AWP.loop (α:=Nat) (fun i=>[(5,.int .i64 (i:Int)),(1,.view 6 (xrows l) .shared),(0,.view 6 (xrows l) .shared)]) (fun _=>st) (fun i=>i≤l.length) (fun i=>l.length - i) 0 (Nat.zero_le _) (tl3 rfl rfl rfl) (.refl _) ?_
 intro i hi
 refine AWP.weaken (T':=[(5,.int .i64 (i:Int)),(1,.view 6 (xrows l) .shared),(0,.view 6 (xrows l) .shared)]) (tl3 rfl rfl rfl) (.refl _) ?_
 by_cases hlt:i < l.length
 ·obtain ⟨x,hs⟩:∃ x,l[i]?=some x:=⟨_,List.getElem?_eq_getElem hlt⟩
  have hx:=h x (List.mem_of_getElem? hs)
  obtain ⟨op,num,name,field,hxr⟩:=xrow_args x
  generalize hargs:xrows (argsX x)=args at hxr
  unfold SameX at hx
  rw [hargs] at hx
  have hr:(xrows l)[i]?=some (exRow op num name field (.view 6 args .shared)):=by unfold xrows; rw [List.getElem?_map,hs,← hxr]; rfl
  have hir:i < (xrows l).length:=by omega
  refine goD ?_
  refine AWP.any rfl ?_
  apply AAny.segX (X:=fun _ _=>False) (hX:=fun _ _ h=>h.elim) (k':=12) (Es:=[8,9,10,11]) (J:=Al2J st 95 6 (exRow 0 0 [] [] nilV) (exRow op num name field (.view 6 args .shared)) (exRow op num name field (.view 6 args .shared))) (base:=st) (hok:=by decide +kernel) (hJ:=rfl) (hb:=.refl _)
  repeat (first|apply dsP (hi:=rfl) (hs:=rfl)|apply dqP (hi:=rfl) (hd:=rfl) (hw:=rfl) (h:=fun _ _=>ZD (z:=nz))|apply dqP (hi:=rfl) (hd:=rfl) (hw:=rfl) (h:=fun _ _=>ZM (z:=nz)))
  apply deP0 (Q:=fun v=>∃ o,v=.cptr o 6 0 0) (L:=[[false,false,false,false],[false,true,false,false]]) (hL:=rfl) (hd:=rfl) (hw:=rfl) (hex:=⟨_,0,rfl⟩) (h:=by
   refine ⟨?_,?_,trivial⟩
   ·intro vs hvs _ s hJ _
    match vs,hvs,hJ with
    | [none,none,none,none],_,hJ =>
     have hJ:s=st:=hJ
     subst hJ
     exact al rfl rfl fun o ho=>nl ⟨_,rfl,⟨o,rfl⟩,⟨o,rfl,ho,rfl⟩,StLe.new ho (.refl _)⟩
   ·intro vs hvs _ s hJ _
    match vs,hvs,hJ with
    | [none,some w,none,none],_,hJ =>
     obtain ⟨p,hp1,hp2,rfl⟩:=hJ
     exact al rfl rfl fun o ho=>nl ⟨_,rfl,⟨o,rfl⟩,⟨o,p,rfl,hp1,(new_ne ho).2,hp2,(new_ne ho).1.symm,set_swap _ _ (new_ne ho).1⟩,StLe.new ho (StLe.new hp2 (.refl _))⟩)
  rintro v ⟨oA,rfl⟩
  apply deP0 (Q:=fun v=>∃ o,v=.cptr o 6 0 0) (L:=[[false,false,false,false],[true,false,false,false]]) (hL:=rfl) (hd:=rfl) (hw:=rfl) (hex:=⟨_,0,rfl⟩) (h:=by
   refine ⟨?_,?_,trivial⟩
   ·intro vs hvs _ s hJ _
    match vs,hvs,hJ with
    | [none,none,none,none],_,hJ =>
     have hJ:s=st:=hJ
     subst hJ
     exact al rfl rfl fun o ho=>nl ⟨_,rfl,⟨o,rfl⟩,⟨o,rfl,ho,rfl⟩,StLe.new ho (.refl _)⟩
   ·intro vs hvs _ s hJ _
    match vs,hvs,hJ with
    | [some v,none,none,none],_,hJ =>
     obtain ⟨p,hp1,hp2,rfl⟩:=hJ
     exact al rfl rfl fun o ho=>nl ⟨_,rfl,⟨o,rfl⟩,⟨p,o,hp1,rfl,hp2,(new_ne ho).2,(new_ne ho).1,rfl⟩,StLe.new ho (StLe.new hp2 (.refl _))⟩)
  rintro v ⟨oB,rfl⟩
  apply dnWP (L:=[[true,true,false,false]]) (hL:=rfl) (hd:=rfl) (hw:=rfl) (h:=by
   refine ⟨?_,trivial⟩
   ·intro vs hvs hlk s hJ hle
    match vs,hvs,hlk,hJ with
    | [some v,some w,none,none],_,hlk,hJ =>
     obtain rfl:v=.cptr oA 6 0 0:=hlk (8,some v) (by simp) (by exact Nat.le_of_ble_eq_true rfl) v rfl
     obtain ⟨o,p,ho1,hp1,ho2,hp2,hne,rfl⟩:=hJ
     cases ho1
     exact soU rfl hne.symm rfl rfl rfl rfl rfl (nl ⟨rfl,fun _=>⟨oA,p,rfl,hp1,ho2,hp2,hne,rfl⟩,StLe.new2 ho2 hp2 hne⟩))
  intro _
  apply dnWP (L:=[[true,true,true,false]]) (hL:=rfl) (hd:=rfl) (hw:=rfl) (h:=by
   refine ⟨?_,trivial⟩
   ·intro vs hvs hlk s hJ hle
    match vs,hvs,hlk,hJ with
    | [some v,some w,some _,none],_,hlk,hJ =>
     obtain rfl:v=.cptr oA 6 0 0:=hlk (8,some v) (by simp) (by exact Nat.le_of_ble_eq_true rfl) v rfl
     obtain rfl:w=.cptr oB 6 0 0:=hlk (9,some w) (by simp) (by exact Nat.le_of_ble_eq_true rfl) w rfl
     obtain ⟨o,p,ho1,hp1,ho2,hp2,hne,rfl⟩:=hJ
     cases ho1
     cases hp1
     exact soV rfl rfl rfl rfl rfl rfl (nl ⟨rfl,fun _=>⟨oA,oB,rfl,rfl,ho2,hp2,hne,rfl⟩,StLe.new2 ho2 hp2 hne⟩))
  intro _
  refine dnP fun s hs=>?_
  obtain ⟨o,p,ho1,hp1,ho2,hp2,hne,rfl⟩:=hs
  cases ho1
  cases hp1
  refine AAny.text rfl ?_
  refine nl ?_
  have hA:((st.set oA (.cells 95 6 [(exRow op num name field (.view 6 args .shared))])).set oB (.cells 95 6 [(exRow op num name field (.view 6 args .shared))])).obj oA=some (.cells 95 6 [(exRow op num name field (.view 6 args .shared))]):=by rw [St.obj_set_ne hne]; exact St.obj_set _ _ _
  have hB:((st.set oA (.cells 95 6 [(exRow op num name field (.view 6 args .shared))])).set oB (.cells 95 6 [(exRow op num name field (.view 6 args .shared))])).obj oB=some (.cells 95 6 [(exRow op num name field (.view 6 args .shared))]):=St.obj_set _ _ _
  have kn:¬ (name≠name):=fun h=>h rfl
  have kf:¬ (field≠field):=fun h=>h rfl
  refine goD ?_
  refine cle rfl rfl (hx _) ?_
  refine goD ?_
  exact ⟨i + 1,by omega,by omega,(tl3 rfl rfl rfl),StLe.new2 ho2 hp2 hne⟩
 ·have hil:i=l.length:=by omega
  subst hil
  refine goD ?_
  refine AWP.exit (blk_hit ?_)
  refine goD ?_
  exact AWP.ret (rets rfl (.refl _) (.refl _) ⟨rfl,rfl⟩)
theorem sameX:∀ (n:Nat) (l:List Xp),l.length≤100000→(∀ x ∈ l,SizeOf.sizeOf x≤n)→SameX l
 | 0,l,hl,h=>by
  cases l with
  | nil=>exact sameX_of (by decide) (fun x hx=>by cases hx)
  | cons a r=>have:=h a (by simp); cases a <;> simp at this
 | n + 1,l,hl,h=>sameX_of hl fun x hx=>sameX n (argsX x) (by cases x <;> simp [argsX]) fun y hy=>by
  have h1:=h x hx
  cases x with
  | lit n=>cases hy
  | var s=>cases hy
  | fld s f=>cases hy
  | elt s a=>simp only [argsX,List.mem_singleton] at hy; subst hy; simp at h1; omega
  | una op a=>simp only [argsX,List.mem_singleton] at hy; subst hy; simp at h1; omega
  | bin op a b =>
   simp only [argsX,List.mem_cons,List.not_mem_nil,or_false] at hy
   rcases hy with rfl|rfl <;> simp at h1 <;> omega
theorem sameX_all {l:List Xp} (hl:l.length≤100000):SameX l:=by
 have key:∀ l:List Xp,∃ n,∀ x ∈ l,SizeOf.sizeOf x≤n:=by
  intro l
  induction l with
  | nil=>exact ⟨0,fun x h=>by cases h⟩
  | cons a r ih =>
   obtain ⟨n,hn⟩:=ih
   exact ⟨max n (SizeOf.sizeOf a),fun x hx=>by
    rcases List.mem_cons.1 hx with h|h
    ·rw [h]; omega
    ·have:=hn x h; omega⟩
 obtain ⟨n,hn⟩:=key l
 exact sameX n l hl hn
set_option maxHeartbeats 1000000 in
theorem sameN {l:Names} (hl:l.length≤100000) (st:St):ACalls Tryz.prog 35 [.view 1 (nrow l) .shared,.view 1 (nrow l) .shared] st (fun v st'=>v=.bool true∧st'=st) (fun _ _=>False):=by
 refine ACalls.ofBody Tryz.func35 rfl Tryz.ntmps35 rfl ?_
 have hnl:=nrow_len l
 refine goD ?_
 refine AWP.loop (α:=Nat) (fun i=>[(5,.int .i64 (i:Int)),(1,.view 1 (nrow l) .shared),(0,.view 1 (nrow l) .shared)]) (fun _=>st) (fun i=>i≤l.length) (fun i=>l.length - i) 0 (Nat.zero_le _) (tl3 rfl rfl rfl) (.refl _) ?_
 intro i hi
 refine AWP.weaken (T':=[(5,.int .i64 (i:Int)),(1,.view 1 (nrow l) .shared),(0,.view 1 (nrow l) .shared)]) (tl3 rfl rfl rfl) (.refl _) ?_
 by_cases hlt:i < l.length
 ·obtain ⟨s,hs⟩:∃ x,l[i]?=some x:=⟨_,List.getElem?_eq_getElem hlt⟩
  have hr:(nrow l)[i]?=some [.str s]:=by unfold nrow; rw [List.getElem?_map,hs]; rfl
  have hir:i < (nrow l).length:=by omega
  have kn:¬ (s≠s):=fun h=>h rfl
  refine goD ?_
  refine AWP.any rfl ?_
  apply AAny.segQ (k':=9) (hok:=by decide +kernel)
  repeat (first|apply dsY (hi:=rfl) (hs:=rfl)|apply dqY (hi:=rfl) (hd:=rfl) (hw:=rfl) (h:=fun _ _=>ZF (z:=nz))|apply dqY (hi:=rfl) (hd:=rfl) (hw:=rfl) (h:=fun _ _=>ZM (z:=nz)))
  refine dnQ ?_
  refine AAny.text rfl ?_
  refine nl ?_
  refine goD ?_
  exact ⟨i + 1,by omega,by omega,(tl3 rfl rfl rfl),.refl _⟩
 ·have hil:i=l.length:=by omega
  subst hil
  refine goD ?_
  refine AWP.exit (blk_hit ?_)
  refine goD ?_
  exact AWP.ret (rets rfl (.refl _) (.refl _) ⟨rfl,rfl⟩)
end Go.Proofs
namespace Go.Proofs
open Go.AM

mutual
def LS:Sp→Prop
 | .mk _ _ _ _ _ tg _ ar bd el=>tg.length≤100000∧ar.length≤100000∧bd.length≤100000∧el.length≤100000∧LSs bd∧LSs el
def LSs:List Sp→Prop
 | []=>True
 | s::r=>LS s∧LSs r
end
theorem LSs_get:∀ (l:List Sp) (i:Nat) (s:Sp),LSs l→l[i]?=some s→LS s
 | [],i,s,_,h=>by simp at h
 | a::l,0,s,hw,h=>by rw [LSs] at hw; cases h; exact hw.1
 | a::l,i + 1,s,hw,h=>by rw [LSs] at hw; exact LSs_get l i s hw.2 (by simpa using h)
theorem LSs.app:∀ {l:List Sp} {s:Sp},LSs l→LS s→LSs (l++[s])
 | [],s,_,h=>by rw [List.nil_append,LSs,LSs]; exact ⟨h,trivial⟩
 | a::l,s,h1,h2=>by
  rw [LSs] at h1
  rw [List.cons_append,LSs]
  exact ⟨h1.1,LSs.app h1.2 h2⟩
theorem LSs_nil:LSs []:=by rw [LSs]; trivial
theorem LS_end (n:Nat):LS (endSp n):=by
 rw [endSp,LS]
 exact ⟨Nat.zero_le _,Nat.zero_le _,Nat.zero_le _,Nat.zero_le _,LSs_nil,LSs_nil⟩
structure LnP (p:Prg):Prop where
 rl:p.1.length≤100000
 fl:p.2.length≤100000
 r:∀ r ∈ p.1,r.fields.length≤100000
 f:∀ f ∈ p.2,f.params.length≤100000∧LSs f.body∧f.body.length < 100000
theorem sprow_at:∀ (l:List Sp) (i:Nat) (s:Sp),l[i]?=some s→(spRows l)[i]?=some (spRow s)
 | [],i,s,h=>by simp at h
 | a::l,0,s,h=>by rw [spRows]; cases h; rfl
 | a::l,i + 1,s,h=>by rw [spRows,List.getElem?_cons_succ]; exact sprow_at l i s (by simpa using h)
theorem recr_at (l:List Rec) (i:Nat) (r:Rec) (h:l[i]?=some r):(l.map recRow)[i]?=some [.str r.name,.view 1 (nrow r.fields) .shared]:=by rw [List.getElem?_map,h]; rfl
theorem fnr_at (l:List Fn) (i:Nat) (f:Fn) (h:l[i]?=some f):(l.map fnRow)[i]?=some [.str f.name,.int .i64 (f.line:Int),.view 1 (nrow f.params) .shared,.view 13 (spRows (f.body++[endSp f.stop])) .shared]:=by rw [List.getElem?_map,h]; rfl
theorem qbi {α β:Type} {r:QR α} {f:α→List Tk→QR β} {y:β} {t:List Tk} (h:qb r f=.ok (y,t)):∃ x r',r=.ok (x,r')∧f x r'=.ok (y,t):=by
 cases r with
 | error e=>cases h
 | ok p=>exact ⟨p.1,p.2,rfl,h⟩
theorem fargs_ln:∀ (k:Nat) (l:List Xp) (ts:List Tk) (m:List Xp) (r:List Tk),fargs k l ts=.ok (m,r)→m.length + r.length≤l.length + ts.length
 | 0,l,ts,m,r,h=>by rw [fargs] at h; cases h
 | k + 1,l,ts,m,r,h=>by
  rw [fargs] at h
  split at h
  ·obtain ⟨x,r1,h1,h⟩:=qbi h
   have h2:=qx_lt h1
   have h3:=tail_le ts
   have h4:=fargs_ln k _ r1 m r h
   rw [List.length_append,List.length_cons,List.length_nil] at h4
   omega
  ·cases h
   omega
theorem fcall_ln {ts r:List Tk} {c:List UInt8 × List Xp} (h:fcall ts=.ok (c,r)):c.2.length≤ts.length:=by
 unfold fcall at h
 obtain ⟨n,r1,h1,h⟩:=qbi h
 have l1:=fname_le ts _ _ h1
 obtain ⟨_,r2,h2,h⟩:=qbi h
 have l2:=fneed_le _ _ _ _ h2
 split at h
 ·cases h
  exact Nat.zero_le _
 ·obtain ⟨x,r3,h3,h⟩:=qbi h
  have l3:=qx_lt h3
  obtain ⟨l,r4,h4,h⟩:=qbi h
  have l4:=fargs_ln _ _ _ _ _ h4
  rw [List.length_cons,List.length_nil] at l4
  obtain ⟨_,r5,h5,h⟩:=qbi h
  cases h
  show l.length≤_
  omega
theorem fval_ln {b:Bool} {ts r:List Tk} {c:List UInt8 × List Xp} (h:fval b ts=.ok (c,r)) (hn:ts.length≤100000):c.2.length≤100000:=by
 unfold fval at h
 split at h
 ·exact Nat.le_trans (fcall_ln h) hn
 ·obtain ⟨x,r1,h1,h⟩:=qbi h
  cases h
  show 1≤_
  omega
theorem feff_ln {ts r:List Tk} {m:Sm} (h:feff ts=.ok (m,r)) (hn:ts.length≤100000):m.target.length≤100000∧m.args.length≤100000:=by
 unfold feff at h
 split at h
 ·obtain ⟨c,r1,h1,h⟩:=qbi h
  cases h
  exact ⟨Nat.zero_le _,Nat.le_trans (fcall_ln h1) hn⟩
 ·obtain ⟨y,r1,h1,h⟩:=qbi h
  have l1:=qt_le ts _ _ h1
  obtain ⟨_,r2,h2,h⟩:=qbi h
  have l2:=fneed_le _ _ _ _ h2
  split at h
  ·obtain ⟨c,r3,h3,h⟩:=qbi h
   cases h
   exact ⟨(by show 1≤_; omega),Nat.le_trans (fcall_ln h3) (by omega)⟩
  ·obtain ⟨x,r3,h3,h⟩:=qbi h
   cases h
   exact ⟨(by show 1≤_; omega),(by show 1≤_; omega)⟩
theorem ln_stm:∀ k:Nat,(∀ d ts s r,ts.length≤100000→fstm k d ts=.ok (s,r)→LS s∧(ts≠[]→r.length < ts.length))∧(∀ d ts l r,ts.length≤100000→fblk k d ts=.ok (l,r)→LSs l∧l.length + r.length≤ts.length) ∧
  (∀ d l0 ts l r,LSs l0→ts.length≤100000→fsts k d l0 ts=.ok (l,r)→LSs l∧l.length + r.length≤l0.length + ts.length)
 | 0=>⟨fun _ _ _ _ _ h=>(by rw [fstm] at h; cases h),fun _ _ _ _ _ h=>(by rw [fblk] at h; cases h),fun _ _ _ _ _ _ _ h=>(by rw [fsts] at h; cases h)⟩
 | k + 1=>by
  obtain ⟨i1,i2,i3⟩:=ln_stm k
  have one:(1:Nat)≤100000:=by decide
  have zero:(0:Nat)≤100000:=by decide
  refine ⟨fun d ts s r hn h=>⟨?_,fun h0=>?_⟩,fun d ts l r hn h=>?_,fun d l0 ts l r hl hn h=>?_⟩
  ·by_cases hb:begS (hd ts)=true
   rotate_left
   ·rw [fstm,if_neg hb] at h
    cases h
   by_cases h8:8 < d
   ·rw [fstm,if_pos hb,if_pos h8] at h
    cases h
   rw [fstm_pos hb h8] at h
   have t1:=tail_le ts
   split at h
   ·obtain ⟨x,r1,h1,h⟩:=qbi h
    cases h
    rw [LS]
    exact ⟨zero,zero,zero,zero,LSs_nil,LSs_nil⟩
   split at h
   ·obtain ⟨x,r1,h1,h⟩:=qbi h
    have l1:=qx_lt h1
    obtain ⟨b,r2,h2,h⟩:=qbi h
    have l2:=i2 _ _ _ _ (by omega) h2
    split at h
    ·obtain ⟨e,r3,h3,h⟩:=qbi h
     have t2:=tail_le r2
     have l3:=i2 _ _ _ _ (by omega) h3
     cases h
     rw [LS]
     exact ⟨zero,one,by omega,by omega,l2.1,l3.1⟩
    ·cases h
     rw [LS]
     exact ⟨zero,one,by omega,zero,l2.1,LSs_nil⟩
   split at h
   ·obtain ⟨x,r1,h1,h⟩:=qbi h
    have l1:=qx_lt h1
    obtain ⟨b,r2,h2,h⟩:=qbi h
    have l2:=i2 _ _ _ _ (by omega) h2
    cases h
    rw [LS]
    exact ⟨zero,one,by omega,zero,l2.1,LSs_nil⟩
   split at h
   ·obtain ⟨b,r1,h1,h⟩:=qbi h
    have l1:=i2 _ _ _ _ (by omega) h1
    obtain ⟨_,r2,h2,h⟩:=qbi h
    have l2:r2.length≤r1.length:=by
     unfold fcatch at h2
     split at h2
     ·cases h2
      exact tail_le r1
     ·cases h2
    obtain ⟨n,r3,h3,h⟩:=qbi h
    have l3:=fname_le _ _ _ h3
    obtain ⟨e,r4,h4,h⟩:=qbi h
    have l4:=i2 _ _ _ _ (by omega) h4
    cases h
    rw [LS]
    exact ⟨zero,zero,by omega,by omega,l1.1,l4.1⟩
   split at h
   ·obtain ⟨c,r1,h1,h⟩:=qbi h
    obtain ⟨_,r2,h2,h⟩:=qbi h
    cases h
    rw [LS]
    exact ⟨zero,fval_ln h1 (by omega),zero,zero,LSs_nil,LSs_nil⟩
   split at h
   ·obtain ⟨c,r1,h1,h⟩:=qbi h
    obtain ⟨_,r2,h2,h⟩:=qbi h
    cases h
    rw [LS]
    exact ⟨zero,fval_ln h1 (by omega),zero,zero,LSs_nil,LSs_nil⟩
   split at h
   ·obtain ⟨c,r1,h1,h⟩:=qbi h
    obtain ⟨_,r2,h2,h⟩:=qbi h
    cases h
    rw [LS]
    exact ⟨zero,fval_ln h1 (by omega),zero,zero,LSs_nil,LSs_nil⟩
   obtain ⟨m,r1,h1,h⟩:=qbi h
   obtain ⟨_,r2,h2,h⟩:=qbi h
   cases h
   rw [LS]
   obtain ⟨q1,q2⟩:=feff_ln h1 hn
   exact ⟨q1,q2,zero,zero,LSs_nil,LSs_nil⟩
  ·have:=(fstm_all (k + 1)).1 d ts s r h
   have:=List.length_pos_iff.2 h0
   omega
  ·rw [fblk] at h
   obtain ⟨_,r1,h1,h⟩:=qbi h
   have l1:=fneed_le _ _ _ _ h1
   obtain ⟨q1,q2⟩:=i3 d [] r1 l r LSs_nil (by omega) h
   rw [List.length_nil] at q2
   exact ⟨q1,by omega⟩
  ·rw [fsts] at h
   split at h
   ·cases h
    have:=tail_le ts
    exact ⟨hl,by omega⟩
   ·obtain ⟨s,r1,h1,h⟩:=qbi h
    obtain ⟨s1,s2⟩:=i1 d ts s r1 hn h1
    have h0:ts≠[]:=fun e=>by
     subst e
     cases k with
     | zero=>rw [fstm] at h1; cases h1
     | succ k=>rw [fstm,if_neg (by decide)] at h1; cases h1
    have s3:=s2 h0
    obtain ⟨q1,q2⟩:=i3 d (l0++[s]) r1 l r (hl.app s1) (by omega) h
    rw [List.length_append,List.length_cons,List.length_nil] at q2
    exact ⟨q1,by omega⟩
theorem fmore_ln:∀ (k:Nat) (l:Names) (ts:List Tk) (m:Names) (r:List Tk),fmore k l ts=.ok (m,r)→m.length + r.length≤l.length + ts.length
 | 0,l,ts,m,r,h=>by rw [fmore] at h; cases h
 | k + 1,l,ts,m,r,h=>by
  rw [fmore_eq] at h
  split at h
  ·rename_i hs
   obtain ⟨x,r1,h1,h⟩:=qbi h
   have h2:=fname_le _ _ _ h1
   have h3:ts.tail.length + 1≤ts.length:=by
    cases ts with
    | nil=>exact absurd hs (by decide)
    | cons a b=>exact Nat.le_refl _
   have h4:=fmore_ln k _ r1 m r h
   rw [List.length_append,List.length_cons,List.length_nil] at h4
   omega
  ·cases h
   omega
theorem fnames_ln {ts r:List Tk} {m:Names} (h:fnames ts=.ok (m,r)):m.length≤1 + ts.length:=by
 rw [fnames_eq] at h
 obtain ⟨n,r1,h1,h⟩:=qbi h
 have l1:=fname_le _ _ _ h1
 have l2:=fmore_ln _ _ _ _ _ h
 rw [List.length_cons,List.length_nil] at l2
 omega
theorem frecord_ln {ts r:List Tk} {x:Rec} (h:frecord ts=.ok (x,r)) (hn:ts.length≤90000):x.fields.length≤100000:=by
 unfold frecord at h
 obtain ⟨n,r1,h1,h⟩:=qbi h
 have l1:=fname_le _ _ _ h1
 obtain ⟨_,r2,h2,h⟩:=qbi h
 have l2:=fneed_le _ _ _ _ h2
 obtain ⟨l,r3,h3,h⟩:=qbi h
 have l3:=fnames_ln h3
 obtain ⟨_,r4,h4,h⟩:=qbi h
 cases h
 show l.length≤_
 omega
theorem ffunc_ln {ts r:List Tk} {x:Fn} (h:ffunc ts=.ok (x,r)) (hn:ts.length≤90000):x.params.length≤100000∧LSs x.body∧x.body.length < 100000:=by
 unfold ffunc at h
 have l0:=tail_le ts
 obtain ⟨n,r1,h1,h⟩:=qbi h
 have l1:=fname_le _ _ _ h1
 obtain ⟨_,r2,h2,h⟩:=qbi h
 have l2:=fneed_le _ _ _ _ h2
 obtain ⟨ps,r3,h3,h⟩:=qbi h
 have l3:=fpar_le _ _ _ h3
 have l4:ps.length≤1 + r2.length:=by
  unfold fpar at h3
  split at h3
  ·cases h3
   exact Nat.zero_le _
  ·exact fnames_ln h3
 obtain ⟨_,r4,h4,h⟩:=qbi h
 have l5:=fneed_le _ _ _ _ h4
 obtain ⟨b,r5,h5,h⟩:=qbi h
 have l6:=(ln_stm _).2.1 _ _ _ _ (by omega) h5
 cases h
 exact ⟨(by show ps.length≤_; omega),l6.1,(by show b.length < _; omega)⟩
theorem frecs_ln:∀ (k:Nat) (l:List Rec) (ts:List Tk) (m:List Rec) (r:List Tk),ts.length≤90000→(∀ x ∈ l,x.fields.length≤100000)→frecs k l ts=.ok (m,r)→(∀ x ∈ m,x.fields.length≤100000)∧m.length + r.length≤l.length + ts.length
 | 0,l,ts,m,r,_,_,h=>by rw [frecs] at h; cases h
 | k + 1,l,ts,m,r,hn,hl,h=>by
  rw [frecs] at h
  split at h
  ·rename_i hs
   obtain ⟨x,r1,h1,h⟩:=qbi h
   have h3:ts.tail.length + 1≤ts.length:=by
    cases ts with
    | nil=>exact absurd hs (by decide)
    | cons a b=>exact Nat.le_refl _
   have h2:=frecord_l1 _ _ _ h1
   obtain ⟨q1,q2⟩:=frecs_ln k (l++[x]) r1 m r (by omega) (fun z hz=>by
    rcases List.mem_append.1 hz with hz|hz
    ·exact hl z hz
    ·rw [List.mem_singleton.1 hz]; exact frecord_ln h1 (by omega)) h
   rw [List.length_append,List.length_cons,List.length_nil] at q2
   exact ⟨q1,by omega⟩
  ·cases h
   exact ⟨hl,Nat.le_refl _⟩
theorem ffuns_ln:∀ (k:Nat) (l:List Fn) (ts:List Tk) (m:List Fn) (r:List Tk),ts.length≤90000→(∀ x ∈ l,x.params.length≤100000∧LSs x.body∧x.body.length < 100000)→ffuns k l ts=.ok (m,r)→(∀ x ∈ m,x.params.length≤100000∧LSs x.body∧x.body.length < 100000)∧m.length + r.length≤l.length + ts.length
 | 0,l,ts,m,r,_,_,h=>by rw [ffuns] at h; cases h
 | k + 1,l,ts,m,r,hn,hl,h=>by
  rw [ffuns] at h
  split at h
  ·rename_i hs
   obtain ⟨x,r1,h1,h⟩:=qbi h
   have h3:1≤ts.length:=by
    cases ts with
    | nil=>exact absurd hs (by decide)
    | cons a b=>exact Nat.succ_pos _
   have h2:=ffunc_l1 _ _ _ h1
   obtain ⟨q1,q2⟩:=ffuns_ln k (l++[x]) r1 m r (by omega) (fun z hz=>by
    rcases List.mem_append.1 hz with hz|hz
    ·exact hl z hz
    ·rw [List.mem_singleton.1 hz]; exact ffunc_ln h1 hn) h
   rw [List.length_append,List.length_cons,List.length_nil] at q2
   exact ⟨q1,by omega⟩
  ·cases h
   exact ⟨hl,Nat.le_refl _⟩
theorem pparse_ln {s:List UInt8} {p:Prg} (h:pparse s=.ok p):LnP p:=by
 by_cases he:(scan s).2.2=0
 ·rw [pparse_of he] at h
  have hs:=scan_small s
  cases hf:fprog (scan s).1 with
  | error e=>rw [hf] at h; cases h
  | ok q =>
   rw [hf] at h
   cases h
   obtain ⟨q,r⟩:=q
   unfold fprog at hf
   obtain ⟨R,r1,h1,hf⟩:=qbi hf
   obtain ⟨a1,a2⟩:=frecs_ln _ _ _ _ _ (by omega) (fun x h=>by cases h) h1
   obtain ⟨F,r2,h2,hf⟩:=qbi hf
   rw [List.length_nil] at a2
   obtain ⟨b1,b2⟩:=ffuns_ln _ _ _ _ _ (by omega) (fun x h=>by cases h) h2
   rw [List.length_nil] at b2
   split at hf
   ·cases hf
    exact ⟨(by show R.length≤_; omega),(by show F.length≤_; omega),a1,b1⟩
   ·cases hf
 ·rw [pparse_err he] at h
  cases h
end Go.Proofs
namespace Go.Proofs
open Go.AM
attribute [local irreducible] AWP AOps ACalls AAny

mutual
def stS:Sp→Sp
 | .mk k _ nm ty len tg fn ar bd el=>.mk k 0 nm ty len tg fn ar (stL bd) (stL el)
def stL:List Sp→List Sp
 | []=>[]
 | s::r=>stS s::stL r
end
theorem stL_len:∀ l:List Sp,(stL l).length=l.length
 | []=>by rw [stL]
 | s::r=>by rw [stL,List.length_cons,List.length_cons,stL_len r]
theorem stL_get:∀ (l:List Sp) (i:Nat) (s:Sp),l[i]?=some s→(stL l)[i]?=some (stS s)
 | [],i,s,h=>by simp at h
 | a::l,0,s,h=>by rw [stL]; cases h; rfl
 | a::l,i + 1,s,h=>by rw [stL,List.getElem?_cons_succ]; exact stL_get l i s (by simpa using h)
def EqL (b:Bool) (l m:List Sp):Prop:=stL l=stL m∧(b=true→l=m)
def SameS (b:Bool) (l m:List Sp):Prop:=∀ st,ACalls Tryz.prog 36 [.view 13 (spRows l) .shared,.view 13 (spRows m) .shared,.bool b] st (fun v st'=>v=.bool true∧st'=st) (fun _ _=>False)
def bdS:Sp→List Sp
 | .mk _ _ _ _ _ _ _ _ bd _=>bd
def elS:Sp→List Sp
 | .mk _ _ _ _ _ _ _ _ _ el=>el
set_option maxHeartbeats 4000000 in
theorem sameS_of {b:Bool} {l m:List Sp} (hw:LSs l) (hl:l.length≤100000) (he:EqL b l m) (h:∀ (i:Nat) (s t:Sp),l[i]?=some s→m[i]?=some t→EqL b (bdS s) (bdS t)→EqL b (elS s) (elS t)→SameS b (bdS s) (bdS t)∧SameS b (elS s) (elS t)):SameS b l m:=by
 intro st
 obtain ⟨he1,he2⟩:=he
 have hlm:l.length=m.length:=by rw [← stL_len l,← stL_len m,he1]
 have hnl:=spRows_len l
 have hnm:=spRows_len m
 refine ACalls.ofBody Tryz.func36 rfl Tryz.ntmps36 rfl ?_
 have klen:¬ ((((spRows l).length:Nat):Int)≠(((spRows m).length:Nat):Int)):=by rw [hnl,hnm,hlm]; exact fun h=>h rfl
 refine goD ?_
 refine AWP.loop (α:=Nat) (fun i=>[(7,.int .i64 (i:Int)),(2,.bool b),(1,.view 13 (spRows m) .shared),(0,.view 13 (spRows l) .shared)]) (fun _=>st) (fun i=>i≤l.length) (fun i=>l.length - i) 0 (Nat.zero_le _) (tl4 rfl rfl rfl rfl) (.refl _) ?_
 intro i hi
 refine AWP.weaken (T':=[(7,.int .i64 (i:Int)),(2,.bool b),(1,.view 13 (spRows m) .shared),(0,.view 13 (spRows l) .shared)]) (tl4 rfl rfl rfl rfl) (.refl _) ?_
 by_cases hlt:i < l.length
 ·obtain ⟨s,hs⟩:∃ x,l[i]?=some x:=⟨_,List.getElem?_eq_getElem hlt⟩
  obtain ⟨t,ht⟩:∃ x,m[i]?=some x:=⟨_,List.getElem?_eq_getElem (by omega:i < m.length)⟩
  have hst:stS s=stS t:=by
   have q1:=stL_get l i s hs
   have q2:=stL_get m i t ht
   rw [he1,q2] at q1
   exact (Option.some.inj q1).symm
  have hbt:b=true→s=t:=fun hb=>by
   rw [he2 hb,ht] at hs
   exact (Option.some.inj hs).symm
  have hws:=LSs_get l i s hw hs
  have hrow1:=sprow_at l i s hs
  have hrow2:=sprow_at m i t ht
  have hrec:=h i s t hs ht
  clear h
  obtain ⟨k,ln,nm,ty,len,tg,fn,ar,bd,el⟩:=s
  obtain ⟨k2,ln2,nm2,ty2,len2,tg2,fn2,ar2,bd2,el2⟩:=t
  rw [stS,stS] at hst
  simp only [Sp.mk.injEq,true_and] at hst
  obtain ⟨rfl,rfl,rfl,rfl,rfl,rfl,rfl,hbd,hel⟩:=hst
  rw [LS] at hws
  obtain ⟨w3,w4,_,_,_,_⟩:=hws
  obtain ⟨hS1,hS2⟩:=hrec ⟨hbd,fun hb=>by have:=hbt hb; cases this; rfl⟩ ⟨hel,fun hb=>by have:=hbt hb; cases this; rfl⟩
  have hS1:SameS b bd bd2:=hS1
  have hS2:SameS b el el2:=hS2
  have hX1:=sameX_all w3
  have hX2:=sameX_all w4
  rw [spRow] at hrow1 hrow2
  have hir:i < (spRows l).length:=by omega
  have hir2:i < (spRows m).length:=by omega
  have kn:¬ (nm≠nm):=fun h=>h rfl
  have kt:¬ (ty≠ty):=fun h=>h rfl
  have kf:¬ (fn≠fn):=fun h=>h rfl
  refine goD ?_
  refine AWP.any rfl ?_
  apply AAny.segX (X:=fun _ _=>False) (hX:=fun _ _ h=>h.elim) (k':=12) (Es:=[8,9,10,11]) (J:=Al2J st 41 13 (sRow 0 0 [] [] 0 nilV [] nilV nilV nilV) (sRow k ln nm ty len (.view 6 (xrows tg) .shared) fn (.view 6 (xrows ar) .shared) (.view 13 (spRows bd) .shared) (.view 13 (spRows el) .shared)) (sRow k ln2 nm ty len (.view 6 (xrows tg) .shared) fn (.view 6 (xrows ar) .shared) (.view 13 (spRows bd2) .shared) (.view 13 (spRows el2) .shared))) (base:=st) (hok:=by decide +kernel) (hJ:=rfl) (hb:=.refl _)
  repeat (first|apply dsP (hi:=rfl) (hs:=rfl)|apply dqP (hi:=rfl) (hd:=rfl) (hw:=rfl) (h:=fun _ _=>ZD (z:=nz))|apply dqP (hi:=rfl) (hd:=rfl) (hw:=rfl) (h:=fun _ _=>ZM (z:=nz)))
  apply deP0 (Q:=fun v=>∃ o,v=.cptr o 13 0 0) (L:=[[false,false,false,false],[false,true,false,false]]) (hL:=rfl) (hd:=rfl) (hw:=rfl) (hex:=⟨_,0,rfl⟩) (h:=by
   refine ⟨?_,?_,trivial⟩
   ·intro vs hvs _ s hJ _
    match vs,hvs,hJ with
    | [none,none,none,none],_,hJ =>
     have hJ:s=st:=hJ
     subst hJ
     exact al rfl rfl fun o ho=>nl ⟨_,rfl,⟨o,rfl⟩,⟨o,rfl,ho,rfl⟩,StLe.new ho (.refl _)⟩
   ·intro vs hvs _ s hJ _
    match vs,hvs,hJ with
    | [none,some w,none,none],_,hJ =>
     obtain ⟨p,hp1,hp2,rfl⟩:=hJ
     exact al rfl rfl fun o ho=>nl ⟨_,rfl,⟨o,rfl⟩,⟨o,p,rfl,hp1,(new_ne ho).2,hp2,(new_ne ho).1.symm,set_swap _ _ (new_ne ho).1⟩,StLe.new ho (StLe.new hp2 (.refl _))⟩)
  rintro v ⟨oA,rfl⟩
  apply deP0 (Q:=fun v=>∃ o,v=.cptr o 13 0 0) (L:=[[false,false,false,false],[true,false,false,false]]) (hL:=rfl) (hd:=rfl) (hw:=rfl) (hex:=⟨_,0,rfl⟩) (h:=by
   refine ⟨?_,?_,trivial⟩
   ·intro vs hvs _ s hJ _
    match vs,hvs,hJ with
    | [none,none,none,none],_,hJ =>
     have hJ:s=st:=hJ
     subst hJ
     exact al rfl rfl fun o ho=>nl ⟨_,rfl,⟨o,rfl⟩,⟨o,rfl,ho,rfl⟩,StLe.new ho (.refl _)⟩
   ·intro vs hvs _ s hJ _
    match vs,hvs,hJ with
    | [some v,none,none,none],_,hJ =>
     obtain ⟨p,hp1,hp2,rfl⟩:=hJ
     exact al rfl rfl fun o ho=>nl ⟨_,rfl,⟨o,rfl⟩,⟨p,o,hp1,rfl,hp2,(new_ne ho).2,(new_ne ho).1,rfl⟩,StLe.new ho (StLe.new hp2 (.refl _))⟩)
  rintro v ⟨oB,rfl⟩
  apply dnWP (L:=[[true,true,false,false]]) (hL:=rfl) (hd:=rfl) (hw:=rfl) (h:=by
   refine ⟨?_,trivial⟩
   ·intro vs hvs hlk s hJ hle
    match vs,hvs,hlk,hJ with
    | [some v,some w,none,none],_,hlk,hJ =>
     obtain rfl:v=.cptr oA 13 0 0:=hlk (8,some v) (by simp) (by exact Nat.le_of_ble_eq_true rfl) v rfl
     obtain ⟨o,p,ho1,hp1,ho2,hp2,hne,rfl⟩:=hJ
     cases ho1
     exact soU rfl hne.symm rfl rfl rfl rfl rfl (nl ⟨rfl,fun _=>⟨oA,p,rfl,hp1,ho2,hp2,hne,rfl⟩,StLe.new2 ho2 hp2 hne⟩))
  intro _
  apply dnWP (L:=[[true,true,true,false]]) (hL:=rfl) (hd:=rfl) (hw:=rfl) (h:=by
   refine ⟨?_,trivial⟩
   ·intro vs hvs hlk s hJ hle
    match vs,hvs,hlk,hJ with
    | [some v,some w,some _,none],_,hlk,hJ =>
     obtain rfl:v=.cptr oA 13 0 0:=hlk (8,some v) (by simp) (by exact Nat.le_of_ble_eq_true rfl) v rfl
     obtain rfl:w=.cptr oB 13 0 0:=hlk (9,some w) (by simp) (by exact Nat.le_of_ble_eq_true rfl) w rfl
     obtain ⟨o,p,ho1,hp1,ho2,hp2,hne,rfl⟩:=hJ
     cases ho1
     cases hp1
     exact soV rfl rfl rfl rfl rfl rfl (nl ⟨rfl,fun _=>⟨oA,oB,rfl,rfl,ho2,hp2,hne,rfl⟩,StLe.new2 ho2 hp2 hne⟩))
  intro _
  refine dnP fun s hs=>?_
  obtain ⟨o,p,ho1,hp1,ho2,hp2,hne,rfl⟩:=hs
  cases ho1
  cases hp1
  refine AAny.text rfl ?_
  refine nl ?_
  have hA:((st.set oA (.cells 41 13 [(sRow k ln nm ty len (.view 6 (xrows tg) .shared) fn (.view 6 (xrows ar) .shared) (.view 13 (spRows bd) .shared) (.view 13 (spRows el) .shared))])).set oB (.cells 41 13 [(sRow k ln2 nm ty len (.view 6 (xrows tg) .shared) fn (.view 6 (xrows ar) .shared) (.view 13 (spRows bd2) .shared) (.view 13 (spRows el2) .shared))])).obj oA=some (.cells 41 13 [(sRow k ln nm ty len (.view 6 (xrows tg) .shared) fn (.view 6 (xrows ar) .shared) (.view 13 (spRows bd) .shared) (.view 13 (spRows el) .shared))]):=by rw [St.obj_set_ne hne]; exact St.obj_set _ _ _
  have hB:((st.set oA (.cells 41 13 [(sRow k ln nm ty len (.view 6 (xrows tg) .shared) fn (.view 6 (xrows ar) .shared) (.view 13 (spRows bd) .shared) (.view 13 (spRows el) .shared))])).set oB (.cells 41 13 [(sRow k ln2 nm ty len (.view 6 (xrows tg) .shared) fn (.view 6 (xrows ar) .shared) (.view 13 (spRows bd2) .shared) (.view 13 (spRows el2) .shared))])).obj oB=some (.cells 41 13 [(sRow k ln2 nm ty len (.view 6 (xrows tg) .shared) fn (.view 6 (xrows ar) .shared) (.view 13 (spRows bd2) .shared) (.view 13 (spRows el2) .shared))]):=St.obj_set _ _ _
  refine AWP.weaken (T':=[(9,.cptr oB 13 0 0),(8,.cptr oA 13 0 0),(7,.int .i64 (i:Int)),(2,.bool b),(1,.view 13 (spRows m) .shared),(0,.view 13 (spRows l) .shared)]) (tl6 rfl rfl rfl rfl rfl rfl) (.refl _) ?_
  refine AWP.seq ?_
  refine midk [(9,.cptr oB 13 0 0),(8,.cptr oA 13 0 0),(7,.int .i64 (i:Int)),(2,.bool b),(1,.view 13 (spRows m) .shared),(0,.view 13 (spRows l) .shared)] ((st.set oA (.cells 41 13 [(sRow k ln nm ty len (.view 6 (xrows tg) .shared) fn (.view 6 (xrows ar) .shared) (.view 13 (spRows bd) .shared) (.view 13 (spRows el) .shared))])).set oB (.cells 41 13 [(sRow k ln2 nm ty len (.view 6 (xrows tg) .shared) fn (.view 6 (xrows ar) .shared) (.view 13 (spRows bd2) .shared) (.view 13 (spRows el2) .shared))])) ?_ ?_
  rotate_left
  ·refine goD ?_
   refine cle rfl rfl (hX1 _) ?_
   refine goD ?_
   refine cle rfl rfl (hX2 _) ?_
   refine goD ?_
   refine cle rfl rfl (hS1 _) ?_
   refine goD ?_
   refine cle rfl rfl (hS2 _) ?_
   refine goD ?_
   exact ⟨i + 1,by omega,by omega,(tl4 rfl rfl rfl rfl),StLe.new2 ho2 hp2 hne⟩
  ·cases b with
   | true =>
    have hE:=hbt rfl
    cases hE
    refine goD ?_
    exact ⟨(tl6 rfl rfl rfl rfl rfl rfl),.refl _⟩
   | false =>
    refine goD ?_
    exact ⟨(tl6 rfl rfl rfl rfl rfl rfl),.refl _⟩
 ·have hil:i=l.length:=by omega
  subst hil
  refine goD ?_
  refine AWP.exit (blk_hit ?_)
  refine goD ?_
  exact AWP.ret (rets rfl (.refl _) (.refl _) ⟨rfl,rfl⟩)
end Go.Proofs
namespace Go.Proofs
open Go.AM
attribute [local irreducible] AWP AOps ACalls AAny

theorem sameS_all {b:Bool}:∀ (n:Nat) (l m:List Sp),SizeOf.sizeOf l≤n→LSs l→l.length≤100000→EqL b l m→SameS b l m
 | 0,l,m,hn,_,_,_=>by cases l <;> simp at hn
 | n + 1,l,m,hn,hw,hl,he=>sameS_of hw hl he fun i s t hs _ h1 h2=>by
  have hws:=LSs_get l i s hw hs
  have hsz:=List.sizeOf_lt_of_mem (List.mem_of_getElem? hs)
  obtain ⟨k,ln,nm,ty,len,tg,fn,ar,bd,el⟩:=s
  rw [LS] at hws
  obtain ⟨_,_,w8,w9,w6,w7⟩:=hws
  simp only [Sp.mk.sizeOf_spec] at hsz
  exact ⟨sameS_all n bd _ (by omega) w6 w8 h1,sameS_all n el _ (by omega) w7 w9 h2⟩
structure EqP (b:Bool) (p q:Prg):Prop where
 r:p.1=q.1
 fl:p.2.length=q.2.length
 f:∀ (i:Nat) (f g:Fn),p.2[i]?=some f→q.2[i]?=some g→f.name=g.name∧f.params=g.params∧EqL b (f.body++[endSp f.stop]) (g.body++[endSp g.stop])∧(b=true→f.line=g.line)
set_option maxHeartbeats 4000000 in
theorem sameProgram {b:Bool} {p q:Prg} (hw:LnP p) (he:EqP b p q) (st:St) :
  ACalls Tryz.prog 18 [.agg (pgRow p),.agg (pgRow q),.bool b] st (fun v st'=>v=.bool true∧st'=st) (fun _ _=>False):=by
 refine ACalls.ofBody Tryz.func18 rfl Tryz.ntmps18 rfl ?_
 obtain ⟨R,F⟩:=p
 obtain ⟨R2,G⟩:=q
 obtain ⟨e1,e2,e3⟩:=he
 simp only at e1 e2 e3
 subst e1
 obtain ⟨w1,w2,l1,w3⟩:=hw
 simp only at w1 w2 w3 l1
 have hRl:(R.map recRow).length=R.length:=List.length_map ..
 have hFl:(F.map fnRow).length=F.length:=List.length_map ..
 have hGl:(G.map fnRow).length=G.length:=List.length_map ..
 have kR:¬ ((((R.map recRow).length:Nat):Int)≠(((R.map recRow).length:Nat):Int)):=fun h=>h rfl
 have kF:¬ ((((F.map fnRow).length:Nat):Int)≠(((G.map fnRow).length:Nat):Int)):=by rw [hFl,hGl,e2]; exact fun h=>h rfl
 unfold pgRow
 refine goD ?_
 refine AWP.loop (α:=Nat) (fun i=>[(7,.int .i64 (i:Int)),(4,.eptr 2 [[.view 2 (R.map recRow) .shared,.view 4 (G.map fnRow) .shared]] 0 0),(3,.eptr 2 [[.view 2 (R.map recRow) .shared,.view 4 (F.map fnRow) .shared]] 0 0),(2,.bool b)]) (fun _=>st) (fun i=>i≤R.length) (fun i=>R.length - i) 0 (Nat.zero_le _) (tl4 rfl rfl rfl rfl) (.refl _) ?_
 intro i hi
 refine AWP.weaken (T':=[(7,.int .i64 (i:Int)),(4,.eptr 2 [[.view 2 (R.map recRow) .shared,.view 4 (G.map fnRow) .shared]] 0 0),(3,.eptr 2 [[.view 2 (R.map recRow) .shared,.view 4 (F.map fnRow) .shared]] 0 0),(2,.bool b)]) (tl4 rfl rfl rfl rfl) (.refl _) ?_
 by_cases hlt:i < R.length
 ·obtain ⟨r,hr⟩:∃ x,R[i]?=some x:=⟨_,List.getElem?_eq_getElem hlt⟩
  have hrr:=recr_at R i r hr
  have hir:i < (R.map recRow).length:=by omega
  have kn:¬ (r.name≠r.name):=fun h=>h rfl
  have hN:=sameN (l1 r (List.mem_of_getElem? hr))
  refine goD ?_
  refine AWP.any rfl ?_
  apply AAny.segQ (k':=29) (hok:=by decide +kernel)
  repeat (first|apply dqY (v:=.bool false) (hi:=rfl) (hd:=rfl) (hw:=rfl) (h:=fun st1 hle=>sm rfl (nl ⟨_,rfl,congrArg AV.bool (by (fail_if_success rfl); first|assumption|exact decide_eq_true (by assumption)|exact decide_eq_false (by assumption)|exact decide_eq_true rfl|exact decide_eq_true (by omega)|exact decide_eq_false (by omega)),rfl⟩))|apply dsY (hi:=rfl) (hs:=rfl)|apply dqY (hi:=rfl) (hd:=rfl) (hw:=rfl) (h:=fun _ _=>ZF (z:=nz))|apply dqY (hi:=rfl) (hd:=rfl) (hw:=rfl) (h:=fun _ _=>ZC (z:=nz))|apply dqY (hi:=rfl) (hd:=rfl) (hw:=rfl) (h:=fun _ _=>ZM (z:=nz)))
  apply dqY (hi:=rfl) (hd:=rfl) (hw:=rfl) (h:=fun st' hle=>cle rfl rfl (hN st') nz)
  repeat (apply dsY (hi:=rfl) (hs:=rfl))
  refine dnQ ?_
  refine AAny.text rfl ?_
  refine goD ?_
  exact ⟨i + 1,by omega,by omega,(tl4 rfl rfl rfl rfl),.refl _⟩
 ·have hil:i=R.length:=by omega
  subst hil
  refine goD ?_
  refine AWP.exit (blk_hit ?_)
  refine goD ?_
  refine AWP.loop (α:=Nat) (fun i=>[(8,.int .i64 (i:Int)),(4,.eptr 2 [[.view 2 (R.map recRow) .shared,.view 4 (G.map fnRow) .shared]] 0 0),(3,.eptr 2 [[.view 2 (R.map recRow) .shared,.view 4 (F.map fnRow) .shared]] 0 0),(2,.bool b)]) (fun _=>st) (fun i=>i≤F.length) (fun i=>F.length - i) 0 (Nat.zero_le _) (tl4 rfl rfl rfl rfl) (.refl _) ?_
  clear hi hlt
  intro i hi
  refine AWP.weaken (T':=[(8,.int .i64 (i:Int)),(4,.eptr 2 [[.view 2 (R.map recRow) .shared,.view 4 (G.map fnRow) .shared]] 0 0),(3,.eptr 2 [[.view 2 (R.map recRow) .shared,.view 4 (F.map fnRow) .shared]] 0 0),(2,.bool b)]) (tl4 rfl rfl rfl rfl) (.refl _) ?_
  by_cases hlt:i < F.length
  ·obtain ⟨f,hf⟩:∃ x,F[i]?=some x:=⟨_,List.getElem?_eq_getElem hlt⟩
   obtain ⟨g,hg⟩:∃ x,G[i]?=some x:=⟨_,List.getElem?_eq_getElem (by omega:i < G.length)⟩
   have hrf:=fnr_at F i f hf
   have hrg:=fnr_at G i g hg
   have hif:i < (F.map fnRow).length:=by omega
   have hig:i < (G.map fnRow).length:=by omega
   obtain ⟨q1,q2,q3,q4⟩:=e3 i f g hf hg
   obtain ⟨wp,wb,wl⟩:=w3 f (List.mem_of_getElem? hf)
   have hN:=sameN wp
   have hS:=sameS_all (b:=b) _ _ _ (Nat.le_refl _) (wb.app (LS_end f.stop)) (by rw [List.length_append,List.length_cons,List.length_nil]; omega) q3
   unfold SameS at hS
   rw [← q1,← q2] at hrg
   have kn:¬ (f.name≠f.name):=fun h=>h rfl
   refine goD ?_
   refine AWP.any rfl ?_
   apply AAny.segX (X:=fun _ _=>False) (hX:=fun _ _ h=>h.elim) (k':=14) (Es:=[10,11,12,13]) (J:=Al2J st 36 4 [.str [],.int .i64 0,nilV,nilV] [.str f.name,.int .i64 (f.line:Int),.view 1 (nrow f.params) .shared,.view 13 (spRows (f.body++[endSp f.stop])) .shared] [.str f.name,.int .i64 (g.line:Int),.view 1 (nrow f.params) .shared,.view 13 (spRows (g.body++[endSp g.stop])) .shared]) (base:=st) (hok:=by decide +kernel) (hJ:=rfl) (hb:=.refl _)
   repeat (first|apply dsP (hi:=rfl) (hs:=rfl)|apply dqP (hi:=rfl) (hd:=rfl) (hw:=rfl) (h:=fun _ _=>ZD (z:=nz))|apply dqP (hi:=rfl) (hd:=rfl) (hw:=rfl) (h:=fun _ _=>ZF (z:=nz))|apply dqP (hi:=rfl) (hd:=rfl) (hw:=rfl) (h:=fun _ _=>ZC (z:=nz))|apply dqP (hi:=rfl) (hd:=rfl) (hw:=rfl) (h:=fun _ _=>ZM (z:=nz)))
   apply deP0 (Q:=fun v=>∃ o,v=.cptr o 4 0 0) (L:=[[false,false,false,false],[false,true,false,false]]) (hL:=rfl) (hd:=rfl) (hw:=rfl) (hex:=⟨_,0,rfl⟩) (h:=by
    refine ⟨?_,?_,trivial⟩
    ·intro vs hvs _ s hJ _
     match vs,hvs,hJ with
     | [none,none,none,none],_,hJ =>
      have hJ:s=st:=hJ
      subst hJ
      exact al rfl rfl fun o ho=>nl ⟨_,rfl,⟨o,rfl⟩,⟨o,rfl,ho,rfl⟩,StLe.new ho (.refl _)⟩
    ·intro vs hvs _ s hJ _
     match vs,hvs,hJ with
     | [none,some w,none,none],_,hJ =>
      obtain ⟨p,hp1,hp2,rfl⟩:=hJ
      exact al rfl rfl fun o ho=>nl ⟨_,rfl,⟨o,rfl⟩,⟨o,p,rfl,hp1,(new_ne ho).2,hp2,(new_ne ho).1.symm,set_swap _ _ (new_ne ho).1⟩,StLe.new ho (StLe.new hp2 (.refl _))⟩)
   rintro v ⟨oA,rfl⟩
   apply deP0 (Q:=fun v=>∃ o,v=.cptr o 4 0 0) (L:=[[false,false,false,false],[true,false,false,false]]) (hL:=rfl) (hd:=rfl) (hw:=rfl) (hex:=⟨_,0,rfl⟩) (h:=by
    refine ⟨?_,?_,trivial⟩
    ·intro vs hvs _ s hJ _
     match vs,hvs,hJ with
     | [none,none,none,none],_,hJ =>
      have hJ:s=st:=hJ
      subst hJ
      exact al rfl rfl fun o ho=>nl ⟨_,rfl,⟨o,rfl⟩,⟨o,rfl,ho,rfl⟩,StLe.new ho (.refl _)⟩
    ·intro vs hvs _ s hJ _
     match vs,hvs,hJ with
     | [some v,none,none,none],_,hJ =>
      obtain ⟨p,hp1,hp2,rfl⟩:=hJ
      exact al rfl rfl fun o ho=>nl ⟨_,rfl,⟨o,rfl⟩,⟨p,o,hp1,rfl,hp2,(new_ne ho).2,(new_ne ho).1,rfl⟩,StLe.new ho (StLe.new hp2 (.refl _))⟩)
   rintro v ⟨oB,rfl⟩
   apply dnWP (L:=[[true,true,false,false]]) (hL:=rfl) (hd:=rfl) (hw:=rfl) (h:=by
    refine ⟨?_,trivial⟩
    ·intro vs hvs hlk s hJ hle
     match vs,hvs,hlk,hJ with
     | [some v,some w,none,none],_,hlk,hJ =>
      obtain rfl:v=.cptr oA 4 0 0:=hlk (10,some v) (by simp) (by exact Nat.le_of_ble_eq_true rfl) v rfl
      obtain ⟨o,p,ho1,hp1,ho2,hp2,hne,rfl⟩:=hJ
      cases ho1
      exact soU rfl hne.symm rfl rfl rfl rfl rfl (nl ⟨rfl,fun _=>⟨oA,p,rfl,hp1,ho2,hp2,hne,rfl⟩,StLe.new2 ho2 hp2 hne⟩))
   intro _
   apply dnWP (L:=[[true,true,true,false]]) (hL:=rfl) (hd:=rfl) (hw:=rfl) (h:=by
    refine ⟨?_,trivial⟩
    ·intro vs hvs hlk s hJ hle
     match vs,hvs,hlk,hJ with
     | [some v,some w,some _,none],_,hlk,hJ =>
      obtain rfl:v=.cptr oA 4 0 0:=hlk (10,some v) (by simp) (by exact Nat.le_of_ble_eq_true rfl) v rfl
      obtain rfl:w=.cptr oB 4 0 0:=hlk (11,some w) (by simp) (by exact Nat.le_of_ble_eq_true rfl) w rfl
      obtain ⟨o,p,ho1,hp1,ho2,hp2,hne,rfl⟩:=hJ
      cases ho1
      cases hp1
      exact soV rfl rfl rfl rfl rfl rfl (nl ⟨rfl,fun _=>⟨oA,oB,rfl,rfl,ho2,hp2,hne,rfl⟩,StLe.new2 ho2 hp2 hne⟩))
   intro _
   refine dnP fun s hs=>?_
   obtain ⟨o,p,ho1,hp1,ho2,hp2,hne,rfl⟩:=hs
   cases ho1
   cases hp1
   refine AAny.text rfl ?_
   refine nl ?_
   have hA:((st.set oA (.cells 36 4 [[.str f.name,.int .i64 (f.line:Int),.view 1 (nrow f.params) .shared,.view 13 (spRows (f.body++[endSp f.stop])) .shared]])).set oB (.cells 36 4 [[.str f.name,.int .i64 (g.line:Int),.view 1 (nrow f.params) .shared,.view 13 (spRows (g.body++[endSp g.stop])) .shared]])).obj oA=some (.cells 36 4 [[.str f.name,.int .i64 (f.line:Int),.view 1 (nrow f.params) .shared,.view 13 (spRows (f.body++[endSp f.stop])) .shared]]):=by rw [St.obj_set_ne hne]; exact St.obj_set _ _ _
   have hB:((st.set oA (.cells 36 4 [[.str f.name,.int .i64 (f.line:Int),.view 1 (nrow f.params) .shared,.view 13 (spRows (f.body++[endSp f.stop])) .shared]])).set oB (.cells 36 4 [[.str f.name,.int .i64 (g.line:Int),.view 1 (nrow f.params) .shared,.view 13 (spRows (g.body++[endSp g.stop])) .shared]])).obj oB=some (.cells 36 4 [[.str f.name,.int .i64 (g.line:Int),.view 1 (nrow f.params) .shared,.view 13 (spRows (g.body++[endSp g.stop])) .shared]]):=St.obj_set _ _ _
   refine goD ?_
   cases b with
   | true =>
    have kl:¬ ((f.line:Int)≠(g.line:Int)):=by rw [q4 rfl]; exact fun h=>h rfl
    refine goD ?_
    refine cle rfl rfl (hN _) ?_
    refine goD ?_
    refine cle rfl rfl (hS _) ?_
    refine goD ?_
    exact ⟨i + 1,by omega,by omega,(tl4 rfl rfl rfl rfl),StLe.new2 ho2 hp2 hne⟩
   | false =>
    refine goD ?_
    refine cle rfl rfl (hN _) ?_
    refine goD ?_
    refine cle rfl rfl (hS _) ?_
    refine goD ?_
    exact ⟨i + 1,by omega,by omega,(tl4 rfl rfl rfl rfl),StLe.new2 ho2 hp2 hne⟩
  ·have hil:i=F.length:=by omega
   subst hil
   refine goD ?_
   refine AWP.exit (blk_hit ?_)
   refine goD ?_
   exact AWP.ret (rets rfl (.refl _) (.refl _) ⟨rfl,rfl⟩)
end Go.Proofs
namespace Go.Proofs

theorem scanL_good:∀ (k:Nat) (s:List UInt8) (line:Nat) (out:List Tk),s.length < k→(∀ t ∈ out,Good t)→out.length≤2000→(scanL k s line out).2.2=0 →
  ∃ ts l,scanL k s line out=(ts++[⟨0,l,[],0⟩],0,0)∧(∀ t ∈ ts,Good t)∧ts.length≤2000
 | k + 1,[],line,out,_,h,hl,_=>⟨out,line,rfl,h,hl⟩
 | k + 1,c::r,line,out,hk,h,hl,he=>by
  cases ho:one (c::r) line with
  | error e =>
   have h1:=one_err ho
   rw [scanL,ho] at he
   simp only at he
   omega
  | ok p =>
   obtain ⟨t,m⟩:=p
   have hr:=rest_lt ho line
   rw [scanL,ho] at he ⊢
   simp only at he ⊢
   split
   ·rename_i h2
    rw [if_pos h2] at he
    cases he
   ·rename_i h2
    rw [if_neg h2] at he
    exact scanL_good k _ _ _ (by omega) (fun u hu=>by
     rcases List.mem_append.1 hu with hu|hu
     ·exact h u hu
     ·rw [List.mem_singleton.1 hu]
      exact good_of_one ho) (by simp; omega) he

theorem scan_good (s:List UInt8) (he:(scan s).2.2=0):∃ ts l,scan s=(ts++[⟨0,l,[],0⟩],0,0)∧(∀ t ∈ ts,Good t)∧ts.length≤2000:=by
 unfold scan at he ⊢
 split at he
 ·cases he
 ·rename_i h
  rw [if_neg h]
  have h1:=skip_len s 1
  exact scanL_good _ _ _ _ (by omega) (fun t h=>by cases h) (by decide) he

end Go.Proofs
namespace Go.Proofs
open Go.AM

def LexW (C:List UInt8→Prop) (p:List UInt8) (T:List Tk):Prop:=∀ rest l,1≤l→C rest→∃ T' l',1≤l'∧ul T'=T∧lex (p++rest) l=(T'++(lex rest l').1,(lex rest l').2)
abbrev LexU:=LexW NF
abbrev LexF:=LexW fun _=>True
theorem ul_append (a b:List Tk):ul (a++b)=ul a++ul b:=by unfold ul; rw [List.map_append]
theorem LexW.app {C:List UInt8→Prop} {p q:List UInt8} {T U:List Tk} (h:LexF p T) (h2:LexW C q U):LexW C (p++q) (T++U):=by
 intro rest l hl hr
 obtain ⟨T1,l1,h1,e1,e2⟩:=h (q++rest) l hl trivial
 obtain ⟨T2,l2,k1,k2,k3⟩:=h2 rest l1 h1 hr
 refine ⟨T1++T2,l2,k1,by rw [ul_append,e1,k2],?_⟩
 rw [List.append_assoc,e2,k3,List.append_assoc]
theorem LexW.nxt {C:List UInt8→Prop} {p q:List UInt8} {T U:List Tk} (h:LexU p T) (hq:∀ r,NF (q++r)) (h2:LexW C q U):LexW C (p++q) (T++U):=by
 intro rest l hl hr
 obtain ⟨T1,l1,h1,e1,e2⟩:=h (q++rest) l hl (hq rest)
 obtain ⟨T2,l2,k1,k2,k3⟩:=h2 rest l1 h1 hr
 refine ⟨T1++T2,l2,k1,by rw [ul_append,e1,k2],?_⟩
 rw [List.append_assoc,e2,k3,List.append_assoc]
theorem LexW.u {p:List UInt8} {T:List Tk} (h:LexF p T):LexU p T:=fun rest l hl _=>h rest l hl trivial
theorem ul_sh (d:Nat) (T:List Tk):ul (T.map (shT d))=ul T:=by unfold ul; rw [List.map_map]; rfl
theorem lexW_at {C:List UInt8→Prop} {p:List UInt8} {T:List Tk} (h:∀ rest,C rest→lex (p++rest) 1=(T++(lex rest 1).1,(lex rest 1).2)) (hT:ul T=T):LexW C p T:=by
 intro rest l hl hr
 obtain ⟨d,rfl⟩:∃ d,l=1 + d:=⟨l - 1,by omega⟩
 refine ⟨T.map (shT d),1 + d,hl,by rw [ul_sh,hT],?_⟩
 rw [lex_shift,h rest hr,lex_shift]
 unfold shR
 rw [List.map_append]
theorem ul_idem {T:List Tk} (h:∀ t ∈ T,t.line=1):ul T=T:=by
 induction T with
 | nil=>rfl
 | cons t T ih =>
  show t1 t::ul T=_
  rw [ih fun t ht=>h t (List.mem_cons_of_mem _ ht)]
  have:=h t (List.mem_cons_self ..)
  obtain ⟨a,b,c,d⟩:=t
  cases this
  rfl
theorem lexU_name {s:List UInt8} (h:Nm s):LexU s [tN s]:=lexW_at (fun _ hr=>lex_name h hr) rfl
theorem lexU_kw {s:List UInt8} (h:s ∈ words):LexU s [tK s]:=lexW_at (fun _ hr=>lex_kw h hr) rfl
theorem lexU_num {n:Nat} (h:Nu n):LexU (dec n) [⟨2,1,[],n⟩]:=lexW_at (fun _ hr=>lex_num h hr) rfl
theorem lexF_solo {c:UInt8} (h:c ∈ solo):LexF [c] [tS [c]]:=lexW_at (fun rest _=>lex_solo h rest) rfl
theorem lexF_nil:LexF [] []:=lexW_at (fun _ _=>rfl) rfl
theorem lexF_blank:LexF [32] []:=lexW_at (fun rest _=>lex_blank rest) rfl
theorem lex_tab (rest:List UInt8):lex (9::rest) 1=lex rest 1:=by
 unfold lex
 rw [show skip false (9::rest) 1=skip false rest 1 from rfl]
 have h:=skip_len rest 1
 exact lx_fuel _ _ _ _ _ (Nat.le_refl _) (by simp only [List.length_cons]; omega) (by omega)
theorem lexF_tab:LexF [9] []:=lexW_at (fun rest _=>lex_tab rest) rfl
theorem lexF_tabs:∀ d:Nat,LexF (List.replicate d 9) []
 | 0=>lexF_nil
 | d + 1=>lexF_tab.app (lexF_tabs d)
theorem lexF_nl:LexF [10] []:=by
 intro rest l hl _
 refine ⟨[],l + 1,by omega,rfl,?_⟩
 show lex (10::rest) l=([]++_,_)
 rw [List.nil_append]
 unfold lex
 rw [show skip false (10::rest) l=skip false rest (l + 1) from by rw [skip_cons,if_pos rfl]]
 have h:=skip_len rest (l + 1)
 exact lx_fuel _ _ _ _ _ (Nat.le_refl _) (by simp only [List.length_cons]; omega) (by omega)
theorem lex_eq (rest:List UInt8):lex (61::32::rest) 1=(tS [61]::(lex (32::rest) 1).1,(lex (32::rest) 1).2):=by
 have hs:sign (61::32::rest)=[61]:=by
  unfold sign
  rw [if_neg (by show ¬ [61,32] ∈ signs2; decide)]
  rfl
 refine lex_tok (w:=[61]) (by simp) ?_ ?_
 ·show skip false (61::32::rest) 1=_
  rw [skip_cons,if_neg (by decide),cond_false,if_neg (by decide),if_neg (by simp)]
  rfl
 ·show (if sign (61::32::rest)=[] then Except.error 6 else Except.ok ((⟨4,1,sign (61::32::rest),0⟩:Tk),(sign (61::32::rest)).length))=_
  rw [hs]
  rfl
theorem lexF_eq:LexF [61,32] [tS [61]]:=lexW_at (fun rest _=>by
 show lex (61::32::rest) 1=_
 rw [lex_eq,lex_blank]
 rfl) rfl
theorem par_line (b:Bool) {l:List Tk} (h:∀ t ∈ l,t.line=1):∀ t ∈ par b l,t.line=1:=by
 intro t ht
 cases b with
 | false=>exact h t ht
 | true =>
  have ht:t ∈ tS [40]::(l++[tS [41]]):=ht
  simp only [List.mem_cons,List.mem_append,List.not_mem_nil,or_false] at ht
  rcases ht with rfl|ht|rfl
  ·rfl
  ·exact h t ht
  ·rfl
theorem xtk_line:∀ x:Xp,∀ t ∈ xtk x,t.line=1
 | .lit n,t,h=>by rw [List.mem_singleton.1 h]
 | .var s,t,h=>by rw [List.mem_singleton.1 h]; rfl
 | .fld s f,t,h=>by
  have h:t ∈ [tN s,tS [46],tN f]:=h
  simp only [List.mem_cons,List.not_mem_nil,or_false] at h
  rcases h with rfl|rfl|rfl <;> rfl
 | .elt s a,t,h=>by
  have h:t ∈ tN s::tS [91]::(xtk a++[tS [93]]):=h
  simp only [List.mem_cons,List.mem_append,List.not_mem_nil,or_false] at h
  rcases h with rfl|rfl|h|rfl
  ·rfl
  ·rfl
  ·exact xtk_line a t h
  ·rfl
 | .una op a,t,h=>by
  have h:t ∈ tS (if op=4 then [45] else [33])::par (decide (lvX a < 5)) (xtk a):=h
  rcases List.mem_cons.1 h with rfl|h
  ·rfl
  ·exact par_line _ (xtk_line a) t h
 | .bin op a b,t,h=>by
  have h:t ∈ par (lpar op a) (xtk a)++tS (sgO op)::par (rpar op b) (xtk b):=h
  rcases List.mem_append.1 h with h|h
  ·exact par_line _ (xtk_line a) t h
  ·rcases List.mem_cons.1 h with rfl|h
   ·rfl
   ·exact par_line _ (xtk_line b) t h
theorem lexU_x {x:Xp} (h:EX x):LexU (xby x) (xtk x):=lexW_at (fun rest hr=>lex_x x h.1 h.2.1 rest hr) (ul_idem (xtk_line x))
theorem NFd {c:UInt8} {q:List UInt8} (h:isNP c=false) (r:List UInt8):NF (c::q++r):=NFc h _
theorem lexU_xs:∀ l:List Xp,(∀ x ∈ l,EX x)→LexU (xsT l) (xstk l)
 | [],_=>lexF_nil.u
 | [x],h=>lexU_x (h x (List.mem_cons_self ..))
 | x::y::l,h=>by
  have h1:=lexU_x (h x (List.mem_cons_self ..))
  have h2:=lexU_xs (y::l) fun z hz=>h z (List.mem_cons_of_mem _ hz)
  rw [xsT,xstk,List.append_assoc]
  exact h1.nxt (q:=44::32::xsT (y::l)) (fun r=>NFd (by decide) r) ((lexF_solo (c:=44) (by decide)).app (lexF_blank.app h2))
theorem lexU_ns:∀ l:Names,(∀ x ∈ l,Nm x)→LexU (jnT l) (ntk l)
 | [],_=>lexF_nil.u
 | [x],h=>lexU_name (h x (List.mem_cons_self ..))
 | x::y::l,h=>by
  have h1:=lexU_name (h x (List.mem_cons_self ..))
  have h2:=lexU_ns (y::l) fun z hz=>h z (List.mem_cons_of_mem _ hz)
  rw [jnT,ntk,List.append_assoc]
  exact h1.nxt (q:=44::32::jnT (y::l)) (fun r=>NFd (by decide) r) ((lexF_solo (c:=44) (by decide)).app (lexF_blank.app h2))
theorem lexU_ty {ty:List UInt8} {len:Nat} (h:(ty=[]∧len≤8)∨(Nm ty∧len=0)):LexU (tyT ty len) (tytk ty len):=by
 unfold tyT tytk
 rcases h with ⟨rfl,h8⟩|⟨hn,rfl⟩
 ·rw [if_pos rfl,if_pos rfl]
  by_cases h0:len=0
  ·rw [if_pos h0,if_pos h0]
   exact lexU_kw (by decide)
  ·rw [if_neg h0,if_neg h0,List.append_assoc]
   have hnu:Nu len:=Nat.lt_of_le_of_lt h8 (by decide)
   exact ((lexU_kw (s:=wInt) (by decide)).nxt (q:=91::(dec len++[93])) (fun r=>NFd (by decide) r) ((lexF_solo (c:=91) (by decide)).app ((lexU_num hnu).nxt (q:=[93]) (fun r=>NFd (by decide) r) (lexF_solo (c:=93) (by decide))))).u
 ·rw [if_neg (Nm_ne hn),if_neg (Nm_ne hn)]
  exact lexU_name hn
theorem lexF_wb {w:List UInt8} (h:w ∈ words):LexF (w++[32]) [tK w]:=(lexU_kw h).nxt (q:=[32]) (fun r=>NFd (by decide) r) lexF_blank
theorem lexF_semi:LexF [59,10] [tS [59]]:=(lexF_solo (c:=59) (by decide)).app lexF_nl
theorem lexF_open:LexF [32,123,10] [tS [123]]:=lexF_blank.app ((lexF_solo (c:=123) (by decide)).app lexF_nl)
theorem lexF_close:LexF [125,10] [tS [125]]:=(lexF_solo (c:=125) (by decide)).app lexF_nl
theorem lexF_hd {w:List UInt8} (hw:w ∈ words) {ar:List Xp} (h:∀ x ∈ ar,EX x) (d:Nat) {q:List UInt8} {U:List Tk} (hq:LexF q U):LexF (hdT d (w++[32]) ar++q) (tK w::(xstk ar++tS [123]::U)):=by
 have e:hdT d (w++[32]) ar++q=List.replicate d 9++((w++[32])++(xsT ar++([32,123,10]++q))):=by simp [hdT]
 rw [e]
 exact (lexF_tabs d).app ((lexF_wb hw).app ((lexU_xs ar h).nxt (q:=[32,123,10]++q) (fun r=>NFd (by decide) r) (lexF_open.app hq)))
theorem lexF_end (d:Nat) {q:List UInt8} {U:List Tk} (hq:LexF q U):LexF (lnT d [[125]]++q) (tS [125]::U):=by
 have e:lnT d [[125]]++q=List.replicate d 9++([125,10]++q):=by simp [lnT]
 rw [e]
 exact (lexF_tabs d).app (lexF_close.app hq)
theorem lexU_v {fn:List UInt8} {ar:List Xp} (h:∀ x ∈ ar,EX x) (hf:fn=[]∨Nm fn):LexU (smV fn ar) (smvtk fn ar):=by
 unfold smV smvtk
 rcases hf with rfl|hf
 ·rw [if_pos rfl,if_pos rfl]
  exact lexU_xs ar h
 ·rw [if_neg (Nm_ne hf),if_neg (Nm_ne hf)]
  simp only [List.append_assoc]
  exact ((lexU_name hf).nxt (q:=40::(xsT ar++[41])) (fun r=>NFd (by decide) r) ((lexF_solo (c:=40) (by decide)).app ((lexU_xs ar h).nxt (q:=[41]) (fun r=>NFd (by decide) r) (lexF_solo (c:=41) (by decide))))).u
theorem lexF_h {k:Nat} {tg:List Xp} (h:∀ x ∈ tg,EX x):LexF (smH k tg) (smhtk k tg):=by
 unfold smH smhtk
 split
 ·exact lexF_wb (w:=wReturn) (by decide)
 split
 ·exact lexF_wb (w:=wThrow) (by decide)
 split
 ·exact lexF_wb (w:=wPrint) (by decide)
 split
 ·rename_i ht
  subst ht
  exact lexF_nil
 ·exact (lexU_xs tg h).nxt (q:=[32,61,32]) (fun r=>NFd (by decide) r) (lexF_blank.app lexF_eq)
mutual
theorem lexF_s:∀ (s:Sp) (d e:Nat),PS e s→LexF (prS d s) (stk s)
 | .mk k l nm ty len tg fn ar bd el,d,e,h=>by
  rw [PS] at h
  obtain ⟨_,h2,h3,_,_,_,h7,hbd,hel⟩:=h
  have hB:=lexF_l bd (d + 1) (e + 1) hbd
  have hE:=lexF_l el (d + 1) (e + 1) hel
  have hsm:(k=2∨k=3∨k=6∨k=7∨k=9)→(fn=[]∨Nm fn)→LexF (prS d (.mk k l nm ty len tg fn ar bd el)) (stk (.mk k l nm ty len tg fn ar bd el)):=fun hk hf=>by
   rw [prS,stk,if_neg (by omega),if_neg (by omega),if_neg (by omega),if_neg (by omega),if_pos hk,if_neg (by omega),if_neg (by omega),if_neg (by omega),if_neg (by omega)]
   unfold smT
   simp only [List.append_assoc]
   exact (lexF_tabs d).app ((lexF_h h2).app ((lexU_v h3 hf).nxt (q:=[59,10]) (fun r=>NFd (by decide) r) lexF_semi))
  have hvar:k=1→Nm nm→((ty=[]∧len≤8)∨(Nm ty∧len=0))→LexF (prS d (.mk k l nm ty len tg fn ar bd el)) (stk (.mk k l nm ty len tg fn ar bd el)):=fun hk hn ht=>by
   rw [prS,stk,if_neg (by omega),if_neg (by omega),if_neg (by omega),if_pos hk,if_neg (by omega),if_neg (by omega),if_neg (by omega),if_pos hk]
   have e:lnT d [[118,97,114,32],nm,[58,32],tyT ty len,[59]]=List.replicate d 9++((wVar++[32])++(nm++(58::32::(tyT ty len++[59,10])))):=by simp [lnT,wVar]
   rw [e]
   exact (lexF_tabs d).app ((lexF_wb (w:=wVar) (by decide)).app ((lexU_name hn).nxt (q:=58::32::(tyT ty len++[59,10])) (fun r=>NFd (by decide) r) ((lexF_solo (c:=58) (by decide)).app (lexF_blank.app ((lexU_ty ht).nxt (q:=[59,10]) (fun r=>NFd (by decide) r) lexF_semi)))))
  cases h7 with
  | dcl nm hn len h8=>exact hvar rfl hn (.inl ⟨rfl,h8⟩)
  | dct nm hn ty ht=>exact hvar rfl hn (.inr ⟨ht,rfl⟩)
  | asg y hy x=>exact hsm (by simp) (.inl rfl)
  | cal fn hn ar=>exact hsm (by simp) (.inr hn)
  | cat y hy fn hn ar=>exact hsm (by simp) (.inr hn)
  | ret x=>exact hsm (by simp) (.inl rfl)
  | rtc fn hn ar=>exact hsm (by simp) (.inr hn)
  | thr x=>exact hsm (by simp) (.inl rfl)
  | prt x=>exact hsm (by simp) (.inl rfl)
  | iff x bd el =>
   rw [prS,stk,if_pos rfl,if_pos rfl]
   simp only [List.append_assoc]
   refine lexF_hd (w:=wIf) (by decide) h3 d (hB.app ?_)
   have hend:LexF (lnT d [[125]]) [tS [125]]:=by
    have:=lexF_end d lexF_nil
    rwa [List.append_nil] at this
   cases el with
   | nil=>exact hend
   | cons a m =>
    simp only [List.isEmpty_cons,Bool.false_eq_true,if_false]
    have e:lnT d [[125,32,101,108,115,101,32,123]]++prL (d + 1) (a::m)++lnT d [[125]]=List.replicate d 9++(125::32::(wElse++([32,123,10]++(prL (d + 1) (a::m)++lnT d [[125]])))):=by simp [lnT,wElse]
    rw [e]
    exact (lexF_tabs d).app ((lexF_solo (c:=125) (by decide)).app (lexF_blank.app ((lexU_kw (s:=wElse) (by decide)).nxt (q:=[32,123,10]++(prL (d + 1) (a::m)++lnT d [[125]])) (fun r=>NFd (by decide) r) (lexF_open.app (hE.app hend)))))
  | whl x bd =>
   rw [prS,stk,if_neg (by decide),if_pos rfl,if_neg (by decide),if_pos rfl]
   simp only [List.append_assoc]
   refine lexF_hd (w:=wWhile) (by decide) h3 d (hB.app ?_)
   have:=lexF_end d lexF_nil
   rwa [List.append_nil] at this
  | tri nm hn bd el =>
   rw [prS,stk,if_neg (by decide),if_neg (by decide),if_pos rfl,if_neg (by decide),if_neg (by decide),if_pos rfl]
   have hend:LexF (lnT d [[125]]) [tS [125]]:=by
    have:=lexF_end d lexF_nil
    rwa [List.append_nil] at this
   have e:lnT d [[116,114,121,32,123]]++prL (d + 1) bd++lnT d [[125,32,99,97,116,99,104,32],nm,[32,123]]++prL (d + 1) el++lnT d [[125]] =
     List.replicate d 9++(wTry++([32,123,10]++(prL (d + 1) bd++(List.replicate d 9++(125::32::((wCatch++[32])++(nm++([32,123,10]++(prL (d + 1) el++lnT d [[125]]))))))))):=by simp [lnT,wTry,wCatch]
   rw [e]
   exact (lexF_tabs d).app ((lexU_kw (s:=wTry) (by decide)).nxt (q:=[32,123,10]++(prL (d + 1) bd++(List.replicate d 9++(125::32::((wCatch++[32])++(nm++([32,123,10]++(prL (d + 1) el++lnT d [[125]])))))))) (fun r=>NFd (by decide) r)
    (lexF_open.app (hB.app ((lexF_tabs d).app ((lexF_solo (c:=125) (by decide)).app (lexF_blank.app ((lexF_wb (w:=wCatch) (by decide)).app ((lexU_name hn).nxt (q:=[32,123,10]++(prL (d + 1) el++lnT d [[125]])) (fun r=>NFd (by decide) r) (lexF_open.app (hE.app hend))))))))))
theorem lexF_l:∀ (l:List Sp) (d e:Nat),PL e l→LexF (prL d l) (stks l)
 | [],d,e,_=>by rw [prL,stks]; exact lexF_nil
 | s::r,d,e,h=>by
  rw [PL] at h
  rw [prL,stks]
  exact (lexF_s s d e h.1).app (lexF_l r d e h.2)
end
theorem lexF_rec {r:Rec} (h:PRc r):LexF (recT r) (rtk r):=by
 have e:recT r=(wRecord++[32])++(r.name++(32::123::32::(jnT r.fields++(32::[125,10])))):=by simp [recT,recL,lnT,wRecord]
 rw [e]
 exact (lexF_wb (w:=wRecord) (by decide)).app ((lexU_name h.name).nxt (q:=32::123::32::(jnT r.fields++(32::[125,10]))) (fun r=>NFd (by decide) r) (lexF_blank.app ((lexF_solo (c:=123) (by decide)).app (lexF_blank.app ((lexU_ns _ h.all).nxt (q:=32::[125,10]) (fun r=>NFd (by decide) r) (lexF_blank.app lexF_close))))))
theorem prL_end (l:List Sp) (n:Nat):prL 1 (l++[endSp n])=prL 1 l:=by
 rw [prL_append,prL,prL,endSp,prS]
 simp
theorem lexF_fn {f:Fn} (h:PF f):LexF (fnT f) (ftk f):=by
 have e:fnT f=(wFunc++[32])++(f.name++(40::(jnT f.params++(41::([32,123,10]++(prL 1 f.body++lnT 0 [[125]])))))):=by
  rw [fnT,prL_end]
  simp [fnL,lnT,wFunc]
 rw [e]
 have hend:LexF (lnT 0 [[125]]) [tS [125]]:=by
  have:=lexF_end 0 lexF_nil
  rwa [List.append_nil] at this
 exact (lexF_wb (w:=wFunc) (by decide)).app ((lexU_name h.name).nxt (q:=40::(jnT f.params++(41::([32,123,10]++(prL 1 f.body++lnT 0 [[125]]))))) (fun r=>NFd (by decide) r) ((lexF_solo (c:=40) (by decide)).app ((lexU_ns _ h.all).nxt (q:=41::([32,123,10]++(prL 1 f.body++lnT 0 [[125]]))) (fun r=>NFd (by decide) r) ((lexF_solo (c:=41) (by decide)).app (lexF_open.app ((lexF_l _ 1 1 h.body).app hend))))))
theorem lexF_flat {α:Type} {f:α→List UInt8} {g:α→List Tk}:∀ l:List α,(∀ x ∈ l,LexF (f x) (g x))→LexF (l.map f).flatten (l.map g).flatten
 | [],_=>lexF_nil
 | x::l,h=>by
  rw [List.map_cons,List.map_cons,List.flatten_cons,List.flatten_cons]
  exact (h x (List.mem_cons_self ..)).app (lexF_flat l fun y hy=>h y (List.mem_cons_of_mem _ hy))
theorem lexF_p {p:Prg} (h:PP p):LexF (prT p) (ptk p):=(lexF_flat p.1 fun r hr=>lexF_rec (h.r r hr)).app (lexF_flat p.2 fun f hf=>lexF_fn (h.f f hf))
theorem scan_p {p:Prg} (h:PP p) (hb:(prT p).length≤4000) (ht:(ptk p).length≤2000):∃ T l,scan (prT p)=(T++[⟨0,l,[],0⟩],0,0)∧ul T=ptk p:=by
 obtain ⟨T,l,h1,h2,h3⟩:=lexF_p h [] 1 (Nat.le_refl _) trivial
 rw [List.append_nil,show lex [] l=([],l,0) from rfl,List.append_nil] at h3
 have hT:T.length=(ptk p).length:=by rw [← h2,ul_len]
 refine ⟨T,l,?_,h2⟩
 unfold scan
 rw [if_neg (by omega)]
 have h1:=skip_len (prT p) 1
 have h2:lx ((prT p).length + 1) (skip false (prT p) 1).1 (skip false (prT p) 1).2=(T,l,0):=h3
 rw [scanL_lx _ _ _ _ (by omega) (by rw [h2]; simp only [List.length_nil]; omega),h2]
 rfl
mutual
theorem stS_l1:∀ s:Sp,stS (l1 s)=stS s
 | .mk k l nm ty len tg fn ar bd el=>by rw [l1,stS,stS,stL_l1 bd,stL_l1 el]
theorem stL_l1:∀ l:List Sp,stL (l1s l)=stL l
 | []=>by rw [l1s]
 | s::r=>by rw [l1s,stL,stL,stS_l1 s,stL_l1 r]
end
mutual
theorem prS_l1:∀ (s:Sp) (d:Nat),prS d (l1 s)=prS d s
 | .mk k l nm ty len tg fn ar bd el,d=>by
  have he:(l1s el).isEmpty=el.isEmpty:=by cases el <;> rw [l1s] <;> rfl
  rw [l1,prS,prS,prL_l1 bd,prL_l1 el,he]
theorem prL_l1:∀ (l:List Sp) (d:Nat),prL d (l1s l)=prL d l
 | [],d=>by rw [l1s]
 | s::r,d=>by rw [l1s,prL,prL,prS_l1 s,prL_l1 r]
end
theorem fnT_l1 (f:Fn):fnT (l1F f)=fnT f:=by
 unfold fnT fnL
 rw [prL_end,prL_end]
 unfold l1F
 simp only
 rw [prL_l1]
theorem prT_l1 (p:Prg):prT (l1P p)=prT p:=by
 unfold prT l1P
 simp only [List.map_map]
 have:fnT ∘ l1F=fnT:=funext fnT_l1
 rw [this]
theorem stL_append:∀ (l m:List Sp),stL (l++m)=stL l++stL m
 | [],m=>by rw [stL]; rfl
 | s::l,m=>by rw [List.cons_append,stL,stL,stL_append l m]; rfl
theorem eqP_l1 {p q:Prg} (h:l1P q=l1P p):EqP false p q:=by
 obtain ⟨R,F⟩:=p
 obtain ⟨R',F'⟩:=q
 simp only [l1P,Prod.mk.injEq] at h
 obtain ⟨rfl,h2⟩:=h
 have hl:F.length=F'.length:=by
  have:=congrArg List.length h2
  rw [List.length_map,List.length_map] at this
  exact this.symm
 refine ⟨rfl,hl,fun i f g h3 h4=>?_⟩
 have h3:F[i]?=some f:=h3
 have h4:F'[i]?=some g:=h4
 have h5:(F'.map l1F)[i]?=(F.map l1F)[i]?:=by rw [h2]
 rw [List.getElem?_map,List.getElem?_map,h3,h4] at h5
 have h5:l1F g=l1F f:=Option.some.inj h5
 obtain ⟨a1,a2,a3,a4,a5⟩:=f
 obtain ⟨b1,b2,b3,b4,b5⟩:=g
 simp only [l1F,Fn.mk.injEq,true_and,and_true] at h5
 obtain ⟨rfl,rfl,h6⟩:=h5
 refine ⟨rfl,rfl,⟨?_,fun h=>(by cases h)⟩,fun h=>(by cases h)⟩
 have h7:=congrArg stL h6
 rw [stL_l1,stL_l1] at h7
 simp only [stL_append,h7]
 simp only [endSp,stL,stS]
theorem pparse_back {s:List UInt8} {p:Prg} (h:pparse s=.ok p) (hb:(prT p).length≤4000):∃ q,pparse (prT p)=.ok q∧EqP false p q∧prT q=prT p:=by
 obtain ⟨hp,hn⟩:=pparse_wf h
 have ht:(ptk p).length≤2000:=by
  have he:(scan s).2.2=0:=by
   by_cases he:(scan s).2.2=0
   ·exact he
   ·rw [pparse_err he] at h
    cases h
  obtain ⟨ts,l,e,_,hl⟩:=scan_good s he
  rw [e] at hn
  simp only [List.length_append,List.length_cons,List.length_nil] at hn
  omega
 obtain ⟨T,l,hs,hT⟩:=scan_p hp hb ht
 have hf:=prog_T hp
 have hu:ul (T++[⟨0,l,[],0⟩])=ptk p++[⟨0,1,[],0⟩]:=by rw [ul_append,hT]; rfl
 rw [← hu] at hf
 obtain ⟨q,r,hq,hl⟩:=fprog_ul hf
 have hpq:pparse (prT p)=.ok q:=by
  rw [pparse_of (by rw [hs]),hs]
  simp only
  rw [hq]
 exact ⟨q,hpq,eqP_l1 hl,by rw [← prT_l1 q,hl,prT_l1]⟩
end Go.Proofs
namespace Go.Proofs
open Go.Shelf
def Tryz.laysJoin_ren:Go.Shelf.Ren:=⟨fun|156=>30|165=>58|166=>59|169=>32|240=>88|241=>89|276=>107|277=>108|n=>n,fun|31=>33|9=>9|3=>3|4=>4|0=>0|20=>20|72=>75|76=>118|70=>72|37=>73|75=>117|127=>121|164=>148|5=>5|80=>81|n=>n,fun|n=>n⟩
theorem Tryz.laysJoin:Go.Proofs.Lays.n156 Tryz.prog Tryz.laysJoin_ren:={
 mixed:=by kernel_rfl
 f156:=Tryz.func30.trans (congrArg some (by kernel_rfl))
 f165:=Tryz.func58.trans (congrArg some (by kernel_rfl))
 f166:=Tryz.func59.trans (congrArg some (by kernel_rfl))
 f169:=Tryz.func32.trans (congrArg some (by kernel_rfl))
 f240:=Tryz.func88.trans (congrArg some (by kernel_rfl))
 f241:=Tryz.func89.trans (congrArg some (by kernel_rfl))
 f276:=Tryz.func107.trans (congrArg some (by kernel_rfl))
 f277:=Tryz.func108.trans (congrArg some (by kernel_rfl))
 t0:=Tryz.underlying0
 a0:=Tryz.isAgg0
 z0:=Tryz.sizeOf0
 v0:=Tryz.zeroValue0
 t3:=Tryz.underlying3
 a3:=Tryz.isAgg3
 z3:=Tryz.sizeOf3
 v3:=Tryz.zeroValue3
 t4:=Tryz.underlying4
 a4:=Tryz.isAgg4
 z4:=Tryz.sizeOf4
 v4:=Tryz.zeroValue4
 t9:=Tryz.underlying9
 a9:=Tryz.isAgg9
 z9:=Tryz.sizeOf9
 v9:=Tryz.zeroValue9
 t20:=Tryz.underlying20
 a20:=Tryz.isAgg20
 z20:=Tryz.sizeOf20
 v20:=Tryz.zeroValue20
 t31:=Tryz.underlying33
 a31:=Tryz.isAgg33
 z31:=Tryz.sizeOf33
 v31:=Tryz.zeroValue33
 t37:=Tryz.underlying73
 a37:=Tryz.isAgg73
 z37:=Tryz.sizeOf73
 v37:=Tryz.zeroValue73
 t70:=Tryz.underlying72
 a70:=Tryz.isAgg72
 z70:=Tryz.sizeOf72
 v70:=Tryz.zeroValue72
 t72:=Tryz.underlying75
 a72:=Tryz.isAgg75
 z72:=Tryz.sizeOf75
 v72:=Tryz.zeroValue75
 t75:=Tryz.underlying117
 a75:=Tryz.isAgg117
 z75:=Tryz.sizeOf117
 v75:=Tryz.zeroValue117
 t76:=Tryz.underlying118
 a76:=Tryz.isAgg118
 z76:=Tryz.sizeOf118
 v76:=Tryz.zeroValue118
 t127:=Tryz.underlying121
 a127:=Tryz.isAgg121
 z127:=Tryz.sizeOf121
 v127:=Tryz.zeroValue121
 t164:=Tryz.underlying148
 a164:=Tryz.isAgg148
 z164:=Tryz.sizeOf148
 v164:=Tryz.zeroValue148 }
theorem Tryz.laysJoinX:Builder.Extra Tryz.prog Tryz.laysJoin_ren:={
 sizeBuilder:=by kernel_rfl
 liesBuilder:=by kernel_rfl
 t5:=Tryz.underlying5
 a5:=Tryz.isAgg5
 z5:=Tryz.sizeOf5
 v5:=Tryz.zeroValue5
 infoByte:=by kernel_rfl
 cellsByte:=by kernel_rfl
 sizeByte:=by kernel_rfl
 neB5:=by decide }
theorem joinC (bk o c:Nat) (xs:List ByteArray) (sep:ByteArray) (w:World) (hcells:∀ (j:Nat) x,xs[j]?=some x→w.cell? ⟨bk,o + j,none⟩=some (.string x)) (hbk:bk < w.heap.size) (hN:xs.length≤140737488355328) (hcap:xs.length≤c) (hlen:(Lib.join (xs.map (·.data.toList)) sep.data.toList).length≤140737488355328) :
  Calls Tryz.prog 30 #[.slice (some ⟨bk,o,none⟩) xs.length c,.string sep] w fun e w'=>e=.returned (.string ⟨(Lib.join (xs.map (·.data.toList)) sep.data.toList).toArray⟩)∧Go.RowKit.Below w.heap.size w w':=Any.strings_Join Tryz.laysJoin Tryz.laysJoinX bk o c xs sep w hcells hbk hN hcap hlen
end Go.Proofs
namespace Go.Proofs
open Go.AM
open Go.RowKit (Below)
attribute [local irreducible] AWP AOps ACalls AAny

theorem below_new {w w':World} (h:Below w.heap.size w w'):∃ os,w'.heap=w.heap++os:=by
 refine ⟨w'.heap.extract w.heap.size w'.heap.size,?_⟩
 apply Array.ext_getElem?
 intro k
 by_cases hk:k < w.heap.size
 ·rw [h.block k hk,Array.getElem?_append_left hk]
 ·rw [Array.getElem?_append_right (by omega),Array.getElem?_extract]
  have:=h.size
  by_cases h2:k < w'.heap.size
  ·rw [if_pos (by omega)]
   congr 1
   omega
  ·rw [if_neg (by omega)]
   exact Array.getElem?_eq_none (by omega)
theorem join_jnT:∀ l:Names,Lib.join l [44,32]=jnT l
 | []=>rfl
 | [a]=>by simp [Lib.join,jnT]
 | a::b::l=>by
  rw [jnT,← join_jnT (b::l)]
  simp [Lib.join]
theorem join_ok (l:Names) (hl:l.length≤100000) (hb:(jnT l).length≤140737488355328):JoinOk l:=by
 by_cases h1:l.length≤1
 ·exact join_one h1
 intro st
 refine ACalls.grown fun g w rargs hs hlen hr=>?_
 obtain ⟨v0,v1,rfl⟩:∃ v0 v1,rargs=#[v0,v1]:=by
  obtain ⟨a⟩:=rargs
  match a,hlen with
  | [v0,v1],_=>exact ⟨v0,v1,rfl⟩
 have r0:=hr 0 _ v0 rfl rfl
 have r1:=hr 1 _ v1 rfl rfl
 cases r1
 have hnl:=nrow_len l
 generalize hrows:nrow l=rows at r0 hnl
 cases r0 with
 | vnil=>simp only [List.length_nil] at hnl; omega
 | vemp=>simp only [List.length_nil] at hnl; omega
 | view _ _ _ b off cap f hc hm hsz ho ht himm hh =>
  subst hrows
  have hbk:b < w.heap.size:=hs.immlt b _ (himm 0 0 (by omega) (by decide)).1
  have hcell:∀ (j:Nat) x,(l.map fun s=>(⟨⟨s⟩⟩:ByteArray))[j]?=some x→w.cell? ⟨b,off + j,none⟩=some (.string x):=fun j x hx=>by
   rw [List.getElem?_map] at hx
   cases hlj:l[j]? with
   | none=>rw [hlj] at hx; cases hx
   | some s =>
    rw [hlj] at hx
    cases hx
    have hj:j < l.length:=(List.getElem?_eq_some_iff.1 hlj).1
    have hrj:(nrow l)[j]?=some [.str s]:=by unfold nrow; rw [List.getElem?_map,hlj]; rfl
    have h3:=(himm j 0 (by omega) (by decide)).2
    have h4:=hh j 0 _ _ hrj rfl
    rw [show off + (j * 1 + 0)=off + j by omega] at h3
    rw [h3]
    generalize f j 0=fv at h4
    cases h4
    rfl
  have hmap:(l.map fun s=>(⟨⟨s⟩⟩:ByteArray)).map (·.data.toList)=l:=by
   rw [List.map_map]
   exact List.map_id'' (fun _=>rfl) l
  have hC:=joinC b off cap (l.map fun s=>(⟨⟨s⟩⟩:ByteArray)) ⟨⟨[44,32]⟩⟩ w hcell hbk (by rw [List.length_map]; omega) (by rw [List.length_map]; omega) (by rw [hmap,join_jnT]; exact hb)
  rw [hmap,join_jnT,List.length_map] at hC
  rw [hnl]
  refine hC.mono fun e w' ⟨he,hB⟩=>?_
  obtain ⟨os,hos⟩:=below_new hB
  exact ⟨_,he,fun _ _=>.str _,os,hos,hB.os,hB.tape,hB.output⟩
end Go.Proofs
namespace Go.Proofs
open Go.AM

theorem Nm_len {s:List UInt8} (h:Nm s):s.length≤12:=by obtain ⟨_,_,_,_,_,h,_⟩:=h; exact h
theorem sgO_len {op:Nat} (h6:6≤op) (h17:op≤17):(sgO op).length≤2:=by
 have:op=6∨op=7∨op=8∨op=9∨op=10∨op=11∨op=12∨op=13∨op=14∨op=15∨op=16∨op=17:=by omega
 rcases this with rfl|rfl|rfl|rfl|rfl|rfl|rfl|rfl|rfl|rfl|rfl|rfl <;> decide
theorem bl_tl:∀ x:Xp,Wop x→WX Nm Nu x→bl x≤18 * tl x
 | .lit n,_,h=>by
  have h:(dec n).length≤18:=dec_len (by decide) (by decide) h
  exact h
 | .var s,_,h=>by
  have h:s.length≤12:=Nm_len h
  show s.length≤18
  omega
 | .fld s f,_,h=>by
  have h1:=Nm_len h.1
  have h2:=Nm_len h.2
  show (s++46::f).length≤18 * 3
  rw [List.length_append,List.length_cons]
  omega
 | .elt s a,w,h=>by
  have h1:=Nm_len h.1
  have ih:=bl_tl a w h.2
  obtain ⟨e1,e2⟩:=bl_elt s a
  omega
 | .una op a,w,h=>by
  have ih:=bl_tl a w.2 h
  obtain ⟨e1,e2⟩:=bl_una op a
  omega
 | .bin op a b,w,h=>by
  have i1:=bl_tl a w.2.2.1 h.1
  have i2:=bl_tl b w.2.2.2 h.2
  have h2:=sgO_len w.1 w.2.1
  rw [bl_bin,tl_bin]
  omega
theorem xs_len:∀ l:List Xp,(∀ x ∈ l,EX x)→(xsT l).length≤18 * (xstk l).length
 | [],_=>Nat.le_refl _
 | [x],h=>bl_tl x (h x (List.mem_cons_self ..)).1 (h x (List.mem_cons_self ..)).2.1
 | x::y::l,h=>by
  have h1:(xby x).length≤18 * (xtk x).length:=bl_tl x (h x (List.mem_cons_self ..)).1 (h x (List.mem_cons_self ..)).2.1
  have h2:=xs_len (y::l) fun z hz=>h z (List.mem_cons_of_mem _ hz)
  rw [xsT,xstk]
  simp only [List.length_append,List.length_cons,List.length_nil]
  omega
theorem jn_len:∀ l:Names,(∀ x ∈ l,Nm x)→(jnT l).length≤14 * l.length∧l.length≤(ntk l).length
 | [],_=>⟨Nat.le_refl _,Nat.le_refl _⟩
 | [x],h=>by
  have h1:=Nm_len (h x (List.mem_cons_self ..))
  exact ⟨by show x.length≤14; omega,Nat.le_refl _⟩
 | x::y::l,h=>by
  have h1:=Nm_len (h x (List.mem_cons_self ..))
  have h2:=jn_len (y::l) fun z hz=>h z (List.mem_cons_of_mem _ hz)
  rw [jnT,ntk]
  simp only [List.length_append,List.length_cons,List.length_nil] at h2 ⊢
  omega
theorem ty_len {ty:List UInt8} {len:Nat} (h:(ty=[]∧len≤8)∨(Nm ty∧len=0)):(tyT ty len).length≤18 * (tytk ty len).length:=by
 unfold tyT tytk
 rcases h with ⟨rfl,h8⟩|⟨hn,rfl⟩
 ·rw [if_pos rfl,if_pos rfl]
  by_cases h0:len=0
  ·rw [if_pos h0,if_pos h0]
   decide
  ·rw [if_neg h0,if_neg h0]
   have:(dec len).length≤18:=dec_len (by decide) (by decide) (by omega)
   simp only [List.length_append,List.length_cons,List.length_nil]
   omega
 ·rw [if_neg (Nm_ne hn),if_neg (Nm_ne hn)]
  have:=Nm_len hn
  simp only [List.length_cons,List.length_nil]
  omega
theorem v_len {fn:List UInt8} {ar:List Xp} (h:∀ x ∈ ar,EX x) (hf:fn=[]∨Nm fn):(smV fn ar).length≤18 * (smvtk fn ar).length:=by
 have h1:=xs_len ar h
 unfold smV smvtk
 rcases hf with rfl|hf
 ·rw [if_pos rfl,if_pos rfl]
  exact h1
 ·rw [if_neg (Nm_ne hf),if_neg (Nm_ne hf)]
  have:=Nm_len hf
  simp only [List.length_append,List.length_cons,List.length_nil]
  omega
theorem h_len {k:Nat} {tg:List Xp} (h:∀ x ∈ tg,EX x):(smH k tg).length≤18 * (smhtk k tg).length:=by
 have h1:=xs_len tg h
 unfold smH smhtk
 split
 ·decide
 split
 ·decide
 split
 ·decide
 split
 ·rename_i ht
  subst ht
  decide
 ·simp only [List.length_append,List.length_cons,List.length_nil]
  omega
mutual
theorem prS_len:∀ (s:Sp) (d:Nat),PS d s→(prS d s).length≤60 * (stk s).length
 | .mk k l nm ty len tg fn ar bd el,d,h=>by
  rw [PS] at h
  obtain ⟨h8,h2,h3,_,_,_,h7,hbd,hel⟩:=h
  have hB:=prL_len bd (d + 1) hbd
  have hE:=prL_len el (d + 1) hel
  have hx:=xs_len ar h3
  have hsm:(k=2∨k=3∨k=6∨k=7∨k=9)→(fn=[]∨Nm fn)→(prS d (.mk k l nm ty len tg fn ar bd el)).length≤60 * (stk (.mk k l nm ty len tg fn ar bd el)).length:=fun hk hf=>by
   have e1:=h_len (k:=k) h2
   have e2:=v_len h3 hf
   rw [prS,stk,if_neg (by omega),if_neg (by omega),if_neg (by omega),if_neg (by omega),if_pos hk,if_neg (by omega),if_neg (by omega),if_neg (by omega),if_neg (by omega)]
   unfold smT
   simp only [List.length_append,List.length_cons,List.length_nil,List.length_replicate]
   omega
  have hvar:k=1→Nm nm→((ty=[]∧len≤8)∨(Nm ty∧len=0))→(prS d (.mk k l nm ty len tg fn ar bd el)).length≤60 * (stk (.mk k l nm ty len tg fn ar bd el)).length:=fun hk hn ht=>by
   have e1:=ty_len ht
   have e2:=Nm_len hn
   rw [prS,stk,if_neg (by omega),if_neg (by omega),if_neg (by omega),if_pos hk,if_neg (by omega),if_neg (by omega),if_neg (by omega),if_pos hk]
   simp only [lnT,List.flatten_cons,List.flatten_nil,List.length_append,List.length_cons,List.length_nil,List.length_replicate]
   omega
  cases h7 with
  | dcl nm hn len h8=>exact hvar rfl hn (.inl ⟨rfl,h8⟩)
  | dct nm hn ty ht=>exact hvar rfl hn (.inr ⟨ht,rfl⟩)
  | asg y hy x=>exact hsm (by simp) (.inl rfl)
  | cal fn hn ar=>exact hsm (by simp) (.inr hn)
  | cat y hy fn hn ar=>exact hsm (by simp) (.inr hn)
  | ret x=>exact hsm (by simp) (.inl rfl)
  | rtc fn hn ar=>exact hsm (by simp) (.inr hn)
  | thr x=>exact hsm (by simp) (.inl rfl)
  | prt x=>exact hsm (by simp) (.inl rfl)
  | iff x bd el =>
   rw [prS,stk,if_pos rfl,if_pos rfl]
   cases el with
   | nil =>
    simp only [hdT,lnT,List.isEmpty_nil,if_true,List.flatten_cons,List.flatten_nil,List.length_append,List.length_cons,List.length_nil,List.length_replicate]
    omega
   | cons a m =>
    simp only [hdT,lnT,List.isEmpty_cons,Bool.false_eq_true,if_false,List.flatten_cons,List.flatten_nil,List.length_append,List.length_cons,List.length_nil,List.length_replicate]
    omega
  | whl x bd =>
   rw [prS,stk,if_neg (by decide),if_pos rfl,if_neg (by decide),if_pos rfl]
   simp only [hdT,lnT,List.flatten_cons,List.flatten_nil,List.length_append,List.length_cons,List.length_nil,List.length_replicate]
   omega
  | tri nm hn bd el =>
   have e2:=Nm_len hn
   rw [prS,stk,if_neg (by decide),if_neg (by decide),if_pos rfl,if_neg (by decide),if_neg (by decide),if_pos rfl]
   simp only [lnT,List.flatten_cons,List.flatten_nil,List.length_append,List.length_cons,List.length_nil,List.length_replicate]
   omega
theorem prL_len:∀ (l:List Sp) (d:Nat),PL d l→(prL d l).length≤60 * (stks l).length
 | [],d,_=>by rw [prL,stks]; exact Nat.le_refl _
 | s::r,d,h=>by
  rw [PL] at h
  have h1:=prS_len s d h.1
  have h2:=prL_len r d h.2
  rw [prL,stks,List.length_append,List.length_append]
  omega
end
theorem flat_len {α:Type} {f:α→List UInt8} {g:α→List Tk}:∀ l:List α,(∀ x ∈ l,(f x).length≤60 * (g x).length)→((l.map f).flatten).length≤60 * ((l.map g).flatten).length
 | [],_=>Nat.le_refl _
 | x::l,h=>by
  have h1:=h x (List.mem_cons_self ..)
  have h2:=flat_len l fun y hy=>h y (List.mem_cons_of_mem _ hy)
  simp only [List.map_cons,List.flatten_cons,List.length_append]
  omega
theorem prT_len {p:Prg} (h:PP p):(prT p).length≤60 * (ptk p).length:=by
 have h1:=flat_len (f:=recT) (g:=rtk) p.1 fun r hr=>by
  have hn:=Nm_len (h.r r hr).name
  have hj:=jn_len r.fields (h.r r hr).all
  unfold rtk recT recL
  simp only [lnT,List.flatten_cons,List.flatten_nil,List.length_append,List.length_cons,List.length_nil,List.length_replicate]
  omega
 have h2:=flat_len (f:=fnT) (g:=ftk) p.2 fun f hf=>by
  have hn:=Nm_len (h.f f hf).name
  have hj:=jn_len f.params (h.f f hf).all
  have hb:=prL_len f.body 1 (h.f f hf).body
  unfold ftk fnT fnL
  rw [prL_end]
  simp only [lnT,List.flatten_cons,List.flatten_nil,List.length_append,List.length_cons,List.length_nil,List.length_replicate]
  omega
 unfold prT ptk
 rw [List.length_append,List.length_append]
 omega
theorem scan_2001 (s:List UInt8):(scan s).1.length≤2001:=by
 by_cases he:(scan s).2.2=0
 ·obtain ⟨ts,l,e,_,hl⟩:=scan_good s he
  rw [e]
  simp only [List.length_append,List.length_cons,List.length_nil]
  omega
 ·rw [((scan_lines s).1 he).1]
  exact Nat.zero_le _
theorem pprt_ok {s:List UInt8} {p:Prg} (h:pparse s=.ok p) (st:St) (hg:GSt st):(prT p).length≤120000∧ACalls Tryz.prog 16 [.agg (pgRow p)] st (fun v st'=>v=.str (prT p)∧st'=st) (fun _ _=>False):=by
 obtain ⟨hp,hn⟩:=pparse_wf h
 have h1:=prT_len hp
 have h2:=scan_2001 s
 refine ⟨by omega,pprint_ok hp.wp (fun r hr=>?_) (fun f hf=>?_) (by unfold wMax; omega) st hg⟩
 ·have hj:=jn_len r.fields (hp.r r hr).all
  have hl:=(hp.r r hr).len
  exact join_ok _ hl (by omega)
 ·have hj:=jn_len f.params (hp.f f hf).all
  have hl:=(hp.f f hf).len
  exact join_ok _ hl (by omega)
end Go.Proofs
namespace Go.Proofs
open Go.AM

def NE {α:Type} (r:QR α):Prop:=∀ e t,r=.error (e,t)→e≠0
theorem NE.qb {α β:Type} {r:QR α} {f:α→List Tk→QR β} (h:NE r) (hf:∀ x t,NE (f x t)):NE (qb r f):=by
 rcases r with ⟨e,t⟩|⟨x,t⟩
 ·intro e' t' he
  cases he
  exact h e t rfl
 ·exact hf x t
theorem NE.ok {α:Type} {x:α} {t:List Tk}:NE (.ok (x,t)):=fun _ _ h=>by cases h
theorem NE.err {α:Type} {e:Nat} {t:List Tk} (h:e≠0):NE (.error (e,t):QR α):=fun _ _ h'=>by cases h'; exact h
theorem NE.ite {α:Type} {c:Prop} [Decidable c] {a b:QR α} (h1:NE a) (h2:NE b):NE (if c then a else b):=by split <;> assumption
theorem ne_fe:∀ k:Nat,(∀ lv d ts,NE (fe k lv d ts))∧(∀ lv d x ts,NE (fl k lv d x ts))∧(∀ d ts,NE (fo k d ts))
 | 0=>⟨fun _ _ _=>by rw [fe]; exact .err (by decide),fun _ _ _ _=>by rw [fl]; exact .err (by decide),fun _ _=>by rw [fo]; exact .err (by decide)⟩
 | k + 1=>by
  obtain ⟨i1,i2,i3⟩:=ne_fe k
  refine ⟨fun lv d ts=>?_,fun lv d x ts=>?_,fun d ts=>?_⟩
  ·rw [fe]
   refine .ite (i3 d ts) ?_
   have h:=i1 (lv + 1) d ts
   rcases hp:fe k (lv + 1) d ts with ⟨e,t⟩|⟨x,t⟩
   ·rw [hp] at h; exact .err (h e t rfl)
   ·exact i2 lv d x t
  ·rw [fl]
   refine .ite ?_ .ok
   have h:=i1 (lv + 1) d ts.tail
   rcases hp:fe k (lv + 1) d ts.tail with ⟨e,t⟩|⟨y,t⟩
   ·rw [hp] at h; exact .err (h e t rfl)
   ·exact .ite .ok (i2 lv d _ t)
  ·rw [fo]
   refine .ite (.ite (.err (by decide)) (.ite .ok (.ite (.ite (.ite .ok (.err (by decide))) (.ite ?_ .ok)) (.ite ?_ ?_)))) (.err (by decide))
   ·have h:=i1 1 (d + 1) ts.tail.tail
    rcases hp:fe k 1 (d + 1) ts.tail.tail with ⟨e,t⟩|⟨y,t⟩
    ·rw [hp] at h; exact .err (h e t rfl)
    ·exact .ite .ok (.err (by decide))
   ·have h:=i1 1 (d + 1) ts.tail
    rcases hp:fe k 1 (d + 1) ts.tail with ⟨e,t⟩|⟨y,t⟩
    ·rw [hp] at h; exact .err (h e t rfl)
    ·exact .ite .ok (.err (by decide))
   ·have h:=i3 (d + 1) ts.tail
    rcases hp:fo k (d + 1) ts.tail with ⟨e,t⟩|⟨y,t⟩
    ·rw [hp] at h; exact .err (h e t rfl)
    ·exact .ok
theorem ne_need (s:List UInt8) (ts:List Tk):NE (fneed s ts):=by unfold fneed; exact .ite .ok (.err (by decide))
theorem ne_name (ts:List Tk):NE (fname ts):=by unfold fname; exact .ite .ok (.err (by decide))
theorem ne_qx (ts:List Tk):NE (qx ts):=(ne_fe _).1 _ _ _
theorem ne_qt (ts:List Tk):NE (qt ts):=by
 unfold qt ftg
 exact (ne_name ts).qb fun n r=>.ite ((ne_name _).qb fun f t=>.ok) (.ite (NE.qb ((ne_fe _).1 _ _ _) fun x t=>(ne_need _ _).qb fun _ u=>.ok) .ok)
theorem ne_args:∀ (k:Nat) (l:List Xp) (ts:List Tk),NE (fargs k l ts)
 | 0,l,ts=>by rw [fargs]; exact .err (by decide)
 | k + 1,l,ts=>by
  rw [fargs]
  exact .ite ((ne_qx _).qb fun x r=>ne_args k _ r) .ok
theorem ne_call (ts:List Tk):NE (fcall ts):=by
 unfold fcall
 exact (ne_name ts).qb fun n r=>(ne_need _ r).qb fun _ r2=>.ite .ok ((ne_qx _).qb fun x r3=>(ne_args _ _ _).qb fun l r4=>(ne_need _ _).qb fun _ r5=>.ok)
theorem ne_val (b:Bool) (ts:List Tk):NE (fval b ts):=by
 unfold fval
 exact .ite (ne_call ts) ((ne_qx _).qb fun x r=>.ok)
theorem ne_eff (ts:List Tk):NE (feff ts):=by
 unfold feff
 exact .ite ((ne_call ts).qb fun c r=>.ok) ((ne_qt ts).qb fun y r=>(ne_need _ r).qb fun _ r2=>.ite ((ne_call _).qb fun c r=>.ok) ((ne_qx _).qb fun c r=>.ok))
theorem ne_ty (ts:List Tk):NE (fty ts):=by
 unfold fty
 exact .ite (.ite (.ite (.ite (.err (by decide)) ((ne_need _ _).qb fun _ r=>.ok)) (.err (by decide))) .ok) ((ne_name ts).qb fun c r=>.ok)
theorem ne_decl (ts:List Tk):NE (fdecl ts):=by
 rw [fdecl_eq]
 exact (ne_name ts).qb fun n r=>(ne_need _ _).qb fun _ r2=>(ne_ty _).qb fun p r3=>(ne_need _ _).qb fun _ r4=>.ok
theorem ne_catch (ts:List Tk):NE (fcatch ts):=by unfold fcatch; exact .ite .ok (.err (by decide))
theorem ne_stm:∀ k:Nat,(∀ d ts,NE (fstm k d ts))∧(∀ d ts,NE (fblk k d ts))∧(∀ d l ts,NE (fsts k d l ts))
 | 0=>⟨fun _ _=>by rw [fstm]; exact .err (by decide),fun _ _=>by rw [fblk]; exact .err (by decide),fun _ _ _=>by rw [fsts]; exact .err (by decide)⟩
 | k + 1=>by
  obtain ⟨i1,i2,i3⟩:=ne_stm k
  refine ⟨fun d ts=>?_,fun d ts=>?_,fun d l ts=>?_⟩
  ·by_cases hb:begS (hd ts)=true
   rotate_left
   ·rw [fstm,if_neg hb]
    exact .err (by decide)
   by_cases h8:8 < d
   ·rw [fstm,if_pos hb,if_pos h8]
    exact .err (by decide)
   rw [fstm_pos hb h8]
   refine .ite ((ne_decl _).qb fun x r=>.ok) (.ite ((ne_qx _).qb fun x r=>(i2 _ _).qb fun b r2=>.ite ((i2 _ _).qb fun e r3=>.ok) .ok) (.ite ((ne_qx _).qb fun x r=>(i2 _ _).qb fun b r2=>.ok) ?_))
   refine .ite ((i2 _ _).qb fun b r=>(ne_catch _).qb fun _ r1=>(ne_name _).qb fun n r2=>(i2 _ _).qb fun e r3=>.ok) ?_
   exact .ite ((ne_val _ _).qb fun x r=>(ne_need _ _).qb fun _ r2=>.ok) (.ite ((ne_val _ _).qb fun x r=>(ne_need _ _).qb fun _ r2=>.ok) (.ite ((ne_val _ _).qb fun x r=>(ne_need _ _).qb fun _ r2=>.ok) ((ne_eff _).qb fun x r=>(ne_need _ _).qb fun _ r2=>.ok)))
  ·rw [fblk]
   exact (ne_need _ _).qb fun _ r=>i3 _ _ _
  ·rw [fsts]
   exact .ite .ok ((i1 d ts).qb fun s r=>i3 _ _ _)
theorem ne_more:∀ (k:Nat) (l:Names) (ts:List Tk),NE (fmore k l ts)
 | 0,l,ts=>by rw [fmore]; exact .err (by decide)
 | k + 1,l,ts=>by
  rw [fmore_eq]
  exact .ite ((ne_name _).qb fun n r=>ne_more k _ r) .ok
theorem ne_names (ts:List Tk):NE (fnames ts):=by
 rw [fnames_eq]
 exact (ne_name ts).qb fun n r=>ne_more _ _ r
theorem ne_record (ts:List Tk):NE (frecord ts):=by
 unfold frecord
 exact (ne_name ts).qb fun n r=>(ne_need _ _).qb fun _ r2=>(ne_names _).qb fun l r3=>(ne_need _ _).qb fun _ r4=>.ok
theorem ne_func (ts:List Tk):NE (ffunc ts):=by
 unfold ffunc fpar
 exact (ne_name _).qb fun n r1=>(ne_need _ _).qb fun _ r2=>NE.qb (.ite .ok (ne_names _)) fun ps r3=>(ne_need _ _).qb fun _ r4=>((ne_stm _).2.1 _ _).qb fun b r5=>.ok
theorem ne_recs:∀ (k:Nat) (l:List Rec) (ts:List Tk),NE (frecs k l ts)
 | 0,l,ts=>by rw [frecs]; exact .err (by decide)
 | k + 1,l,ts=>by
  rw [frecs]
  exact .ite ((ne_record _).qb fun n r=>ne_recs k _ r) .ok
theorem ne_funs:∀ (k:Nat) (l:List Fn) (ts:List Tk),NE (ffuns k l ts)
 | 0,l,ts=>by rw [ffuns]; exact .err (by decide)
 | k + 1,l,ts=>by
  rw [ffuns]
  exact .ite ((ne_func _).qb fun n r=>ne_funs k _ r) .ok
theorem pparse_ne {s:List UInt8} {l e:Nat} (h:pparse s=.error (l,e)):e≠0:=by
 by_cases he:(scan s).2.2=0
 ·rw [pparse_of he] at h
  have hn:NE (fprog (scan s).1):=by
   unfold fprog
   exact (ne_recs _ _ _).qb fun R r=>(ne_funs _ _ _).qb fun F r2=>.ite .ok (.err (by decide))
  rcases hf:fprog (scan s).1 with ⟨e',t⟩|⟨p,t⟩
  ·rw [hf] at h hn
   cases h
   exact hn _ _ rfl
  ·rw [hf] at h
   cases h
 ·rw [pparse_err he] at h
  cases h
  exact he
end Go.Proofs
