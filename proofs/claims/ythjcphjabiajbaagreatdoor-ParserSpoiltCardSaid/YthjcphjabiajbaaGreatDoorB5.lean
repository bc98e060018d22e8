/- Tokens: words begin with a letter, signs do not. No program in sight. -/
import Derived.Test.YthjcphjabiajbaaGreatDoorB4
namespace Go.Proofs
open Go.AM

def wk (t:Tk) (s:List UInt8):Bool:=decide ((t.kind=3∨t.kind=4)∧t.text=s)
def letHd (s:List UInt8):Bool:=(s.head?.map isLet).getD false
structure TkOk (t:Tk):Prop where
 word:t.kind=3→letHd t.text=true
 sign:t.kind=4→letHd t.text=false
 num:t.num < 1000000000000000000
 name:t.kind=1→t.text≠[]
theorem wk_sg {t:Tk} (h:TkOk t) {s:List UInt8} (hs:letHd s=false):wk t s=sg t s:=by
 refine decide_eq_decide.2 ⟨fun ⟨a,b⟩=>?_,fun ⟨a,b⟩=>⟨.inr a,b⟩⟩
 rcases a with a|a
 ·have:=h.word a
  rw [b,hs] at this
  cases this
 ·exact ⟨a,b⟩
theorem wk_kw {t:Tk} (h:TkOk t) {s:List UInt8} (hs:letHd s=true):wk t s=kw t s:=by
 refine decide_eq_decide.2 ⟨fun ⟨a,b⟩=>?_,fun ⟨a,b⟩=>⟨.inl a,b⟩⟩
 rcases a with a|a
 ·exact ⟨a,b⟩
 ·have:=h.sign a
  rw [b,hs] at this
  cases this
theorem one_tkok {s:List UInt8} {line m:Nat} {t:Tk} (h:one s line=.ok (t,m)):TkOk t:=by
 have ht:=(one_tok h).2.1
 have hn:t.kind=1→t.text≠[]:=fun k=>by
  obtain ⟨c,r,e,_⟩:=(one_tok h).1 k
  rw [e]
  exact List.cons_ne_nil _ _
 unfold one at h
 split at h
 ·cases h
 ·rename_i c r
  cases hL:isLet c
  ·cases hd:isDig c
   ·simp only [hL,hd,cond_false] at h
    split at h
    ·cases h
    ·rename_i hs
     cases h
     refine ⟨fun h=>(by cases h),fun _=>?_,by show (0:Nat) < _; decide,hn⟩
     show letHd (sign (c::r))=false
     unfold sign at hs ⊢
     split
     ·rename_i h2
      unfold signs2 at h2
      simp only [List.mem_cons,List.not_mem_nil,or_false] at h2
      rcases h2 with h2|h2|h2 <;> rw [h2] <;> decide
     ·rename_i h2
      rw [if_neg h2] at hs
      simp only at hs ⊢
      split
      ·unfold letHd
       rw [List.head?_cons,Option.map_some,Option.getD_some,hL]
      ·rfl
   ·simp only [hL,hd,cond_false,cond_true] at h
    split at h
    ·cases h
    split at h
    ·cases h
    ·cases h
     exact ⟨fun h=>(by cases h),fun h=>(by cases h),ht rfl,hn⟩
  ·simp only [hL,cond_true] at h
   split at h
   ·cases h
   ·cases h
    refine ⟨fun _=>?_,fun hk=>?_,by show (0:Nat) < _; decide,hn⟩
    ·show letHd ((c::r).takeWhile isNP)=true
     rw [List.takeWhile_cons,show isNP c=true by simp [isNP,hL]]
     unfold letHd
     rw [if_pos rfl,List.head?_cons,Option.map_some,Option.getD_some,hL]
    ·exfalso
     have:(if (c::r).takeWhile isNP ∈ words then 3 else 1)≠4:=by split <;> decide
     exact this hk
theorem scanL_tkok:∀ (k:Nat) (s:List UInt8) (line:Nat) (out:List Tk),(∀ t ∈ out,TkOk t)→∀ t ∈ (scanL k s line out).1,TkOk t
 | 0,_,_,_,_=>fun t h=>(by rw [scanL] at h; cases h)
 | k + 1,[],line,out,ho=>fun t h=>by
  rw [scanL] at h
  rcases List.mem_append.1 h with h|h
  ·exact ho t h
  ·rw [List.mem_singleton.1 h]
   exact ⟨fun h=>(by cases h),fun h=>(by cases h),by show (0:Nat) < _; decide,fun h=>(by cases h)⟩
 | k + 1,c::r,line,out,ho=>fun t h=>by
  rw [scanL] at h
  cases hq:one (c::r) line with
  | error e=>rw [hq] at h; cases h
  | ok p =>
   obtain ⟨u,m⟩:=p
   rw [hq] at h
   simp only at h
   split at h
   ·cases h
   ·refine scanL_tkok k _ _ _ (fun x hx=>?_) t h
    rcases List.mem_append.1 hx with hx|hx
    ·exact ho x hx
    ·rw [List.mem_singleton.1 hx]
     exact one_tkok hq
structure RdT (ts:List Tk):Prop extends RdH ts where
 tk:∀ t ∈ ts,TkOk t
theorem scan_RdT {s:List UInt8} (he:(scan s).2.2=0):RdT (scan s).1∧0 < (scan s).1.length:=by
 obtain ⟨h1,h2⟩:=scan_RdH he
 refine ⟨⟨h1,?_⟩,h2⟩
 unfold scan
 split
 ·intro t h
  cases h
 ·exact scanL_tkok _ _ _ _ (fun t h=>by cases h)
end Go.Proofs
namespace Go.Proofs
open Go.AM
attribute [local irreducible] AWP AOps ACalls AAny

def rsC (X:List (List AV)) (a ln e:Nat):AObj:=.cells 69 4 [[.view 4 X .shared,.int .i64 (a:Int),.int .i64 (ln:Int),.int .i64 (e:Int)]]
theorem ris_ok {X:List (List AV)} {a k ln e o:Nat} {t:Tk} {st:St} (ho:st.obj o=some (rsC X a ln e)) (hlt:a + k < X.length) (hX:X[a + k]?=some (tokRow t)) (hl:X.length≤100000) (s:List UInt8) (b:Bool) (hb:wk t s=b) :
  ACalls Tryz.prog 49 [.cptr o 4 0 0,.int .i64 (k:Int),.str s] st (fun v st'=>v=.bool b∧st'=st) (fun _ _=>False):=by
 refine ACalls.ofBody Tryz.func49 rfl Tryz.ntmps49 rfl ?_
 unfold rsC at ho
 unfold wk at hb
 refine goD ?_
 refine AWP.draw rfl 12 12 (fun _ _=>False) rfl ?_
 repeat (first|refine ds rfl rfl ?_|refine dp (h:=fun _ _=>ZC (z:=nz)) (z:=?_)|refine dp (h:=fun _ _=>ZJ (z:=nz)) (z:=?_)|refine dp (h:=fun _ _=>ZH (z:=nz)) (z:=?_)|refine dp (h:=fun _ _=>ZP (z:=nz)) (z:=?_))
 refine dn ⟨fun _=>?_,fun h=>absurd h (by decide)⟩
 refine goD ?_
 refine AWP.draw rfl 13 12 (fun v s=>∃ o7,v=.cptr o7 4 0 0∧st.obj o7=none∧s=st.set o7 (.cells 64 4 [tokRow ⟨0,0,[],0⟩])) rfl ?_
 repeat (first|refine ds rfl rfl ?_|refine dp (h:=fun _ _=>ZD (z:=nz)) (z:=?_)|refine dp (h:=fun _ _=>ZC (z:=nz)) (z:=?_)|refine dp (h:=fun _ _=>ZM (z:=nz)) (z:=?_)|refine dp (h:=fun _ _=>ZH (z:=nz)) (z:=?_)|refine dp (h:=fun _ _=>ZP (z:=nz)) (z:=?_))
 refine de rfl rfl rfl ?_ ?_
 ·exact al rfl rfl fun o7 h7=>nl ⟨_,rfl,⟨o7,rfl,h7,rfl⟩,⟨fun x c hx=>St.obj_new h7 hx,fun _ h=>(by cases h),rfl⟩⟩
 refine dn ⟨fun h=>absurd h (by decide),fun _=>?_⟩
 rintro v s1 d7 hd7 ⟨o7,rfl,h7,rfl⟩
 cases hd7
 refine soV rfl rfl rfl rfl rfl rfl ?_
 refine AOps.fz 7 rfl h7 ?_
 by_cases h3:t.kind=3
 ·have h3':(t.kind:Int)=3:=by omega
  have hq:decide ((t.kind=3∨t.kind=4)∧t.text=s)=decide (t.text=s):=decide_eq_decide.2 ⟨fun h=>h.2,fun h=>⟨.inl h3,h⟩⟩
  rw [hq] at hb
  subst hb
  refine goD ?_
  exact AWP.ret (rets rfl (.refl _) (.refl _) ⟨rfl,rfl⟩)
 ·have h3':¬ (t.kind:Int)=3:=by omega
  by_cases h4:t.kind=4
  ·have h4':(t.kind:Int)=4:=by omega
   have hq:decide ((t.kind=3∨t.kind=4)∧t.text=s)=decide (t.text=s):=decide_eq_decide.2 ⟨fun h=>h.2,fun h=>⟨.inr h4,h⟩⟩
   rw [hq] at hb
   subst hb
   refine goD ?_
   exact AWP.ret (rets rfl (.refl _) (.refl _) ⟨rfl,rfl⟩)
  ·have h4':¬ (t.kind:Int)=4:=by omega
   have hq:decide ((t.kind=3∨t.kind=4)∧t.text=s)=false:=decide_eq_false fun h=>h.1.elim h3 h4
   rw [hq] at hb
   subst hb
   refine goD ?_
   exact AWP.ret (rets rfl (.refl _) (.refl _) ⟨rfl,rfl⟩)
theorem rkind_ok {X:List (List AV)} {a ln e o:Nat} {t:Tk} {st:St} (ho:st.obj o=some (rsC X a ln e)) (hlt:a < X.length) (hX:X[a]?=some (tokRow t)) (hl:X.length≤100000) (k:Nat) (b:Bool) (hb:decide (t.kind=k)=b) :
  ACalls Tryz.prog 54 [.cptr o 4 0 0,.int .i64 0,.int .i64 (k:Int)] st (fun v st'=>v=.bool b∧st'=st) (fun _ _=>False):=by
 refine ACalls.ofBody Tryz.func54 rfl Tryz.ntmps54 rfl ?_
 unfold rsC at ho
 subst hb
 refine goD ?_
 refine AWP.draw rfl 30 30 (fun _ _=>False) rfl ?_
 repeat (first|refine dq (v:=.bool true) rfl rfl rfl (fun st1 hle=>sm rfl (nl ⟨_,rfl,congrArg AV.bool (by (fail_if_success rfl); first|assumption|exact decide_eq_true (by assumption)|exact decide_eq_false (by assumption)|exact decide_eq_true rfl|exact decide_eq_true (by omega)|exact decide_eq_false (by omega)),rfl⟩)) ?_|refine ds rfl rfl ?_|refine dp (h:=fun _ _=>ZF (z:=nz)) (z:=?_)|refine dp (h:=fun _ _=>ZC (z:=nz)) (z:=?_)|refine dp (h:=fun _ _=>ZJ (z:=nz)) (z:=?_)|refine dp (h:=fun _ _=>ZM (z:=nz)) (z:=?_)|refine dp (h:=fun _ _=>ZH (z:=nz)) (z:=?_)|refine dp (h:=fun _ _=>YJ (z:=nz)) (z:=?_))
 refine dn ⟨fun _=>?_,fun h=>absurd h (by decide)⟩
 refine nl ?_
 refine AWP.ret (rets rfl (.refl _) (.refl _) (And.intro ?_ rfl))
 exact congrArg AV.bool (decide_eq_decide.2 (by omega))
def FJ (st:St) (o:Nat) (X:List (List AV)) (a ln e:Nat):List (Option AV)→St→Prop
 | [x,y],s=>s=st.set o (.cells 69 4 [[.view 4 X .shared,.int .i64 (a:Int),.int .i64 (bif y.isSome then (ln:Int) else 0),.int .i64 (bif x.isSome then (e:Int) else 0)]])
 | _,_=>False
theorem rfail_ok {X:List (List AV)} {a o:Nat} {t:Tk} {st:St} (ho:st.obj o=some (rsC X a 0 0)) (hlt:a < X.length) (hX:X[a]?=some (tokRow t)) (e:Nat) :
  ACalls Tryz.prog 55 [.cptr o 4 0 0,.int .i64 (e:Int)] st (fun _ st'=>st'=st.set o (rsC X a t.line e)) (fun _ _=>False):=by
 refine ACalls.inSet ho (ACalls.ofBody Tryz.func55 rfl Tryz.ntmps55 rfl ?_)
 clear ho
 unfold rsC
 refine goD ?_
 refine AWP.any rfl ?_
 apply AAny.segX (X:=fun _ _=>False) (hX:=fun _ _ h=>h.elim) (k':=20) (Es:=[16,19]) (J:=FJ st o X a t.line e) (base:=st.drop o) (hok:=by decide +kernel) (hJ:=rfl) (hb:=StLe.drop_set)
 repeat (first|apply dsP (hi:=rfl) (hs:=rfl)|apply dqP (hi:=rfl) (hd:=rfl) (hw:=rfl) (h:=fun _ _=>ZC (z:=nz)))
 apply dwP (v:=.view 4 X .shared) (L:=[[false,false]]) (hi:=rfl) (hL:=rfl) (hd:=rfl) (hw:=rfl) (h:=by
  refine ⟨?_,trivial⟩
  intro vs hvs hlk s hJ
  match vs,hvs,hJ with
  | [none,none],_,hJ =>
   have hJ:=(show s=_ from hJ)
   subst hJ
   exact lc rfl rfl (St.obj_set _ _ _) rfl rfl nz)
 repeat (first|apply dsP (hi:=rfl) (hs:=rfl)|apply dqP (hi:=rfl) (hd:=rfl) (hw:=rfl) (h:=fun _ _=>ZC (z:=nz)))
 apply dwP (v:=.int .i64 (a:Int)) (L:=[[false,false]]) (hi:=rfl) (hL:=rfl) (hd:=rfl) (hw:=rfl) (h:=by
  refine ⟨?_,trivial⟩
  intro vs hvs hlk s hJ
  match vs,hvs,hJ with
  | [none,none],_,hJ =>
   have hJ:=(show s=_ from hJ)
   subst hJ
   exact lc rfl rfl (St.obj_set _ _ _) rfl rfl nz)
 repeat (first|apply dsP (hi:=rfl) (hs:=rfl)|apply dqP (hi:=rfl) (hd:=rfl) (hw:=rfl) (h:=fun _ _=>ZF (z:=nz))|apply dqP (hi:=rfl) (hd:=rfl) (hw:=rfl) (h:=fun _ _=>ZC (z:=nz))|apply dqP (hi:=rfl) (hd:=rfl) (hw:=rfl) (h:=fun _ _=>ZM (z:=nz)))
 apply dnWP (L:=[[false,false]]) (hL:=rfl) (hd:=rfl) (hw:=rfl) (h:=by
  refine ⟨?_,trivial⟩
  intro vs hvs hlk s hJ hle
  match vs,hvs,hJ with
  | [none,none],_,hJ =>
   have hJ:=(show s=_ from hJ)
   subst hJ
   exact so (rows':=[[.view 4 X .shared,.int .i64 (a:Int),.int .i64 0,.int .i64 (e:Int)]]) rfl rfl rfl (St.obj_set _ _ _) rfl rfl rfl rfl rfl (nl ⟨rfl,fun u=>St.set_set _ _ _ _,by rw [St.set_set]; exact StLe.drop_set⟩))
 intro _
 repeat (first|apply dsP (hi:=rfl) (hs:=rfl)|apply dqP (hi:=rfl) (hd:=rfl) (hw:=rfl) (h:=fun _ _=>ZC (z:=nz)))
 apply dnWP (L:=[[true,false]]) (hL:=rfl) (hd:=rfl) (hw:=rfl) (h:=by
  refine ⟨?_,trivial⟩
  intro vs hvs hlk s hJ hle
  match vs,hvs,hJ with
  | [some x,none],_,hJ =>
   have hJ:=(show s=_ from hJ)
   subst hJ
   exact so (rows':=[[.view 4 X .shared,.int .i64 (a:Int),.int .i64 (t.line:Int),.int .i64 (e:Int)]]) rfl rfl rfl (St.obj_set _ _ _) rfl rfl rfl rfl rfl (nl ⟨rfl,fun u=>St.set_set _ _ _ _,by rw [St.set_set]; exact StLe.drop_set⟩))
 intro _
 refine dnP fun s hs=>?_
 have hs:=(show s=_ from hs)
 subst hs
 refine AAny.text rfl ?_
 refine goD ?_
 exact rets rfl (.refl _) (.refl _) rfl
end Go.Proofs
namespace Go.Proofs
open Go.AM
attribute [local irreducible] AWP AOps AAny

def Rm {α:Type} (ts:List Tk) (r:QR α) (x:α) (a ln e:Nat):Prop:=(e=0∧ln=0∧r=.ok (x,ts.drop a))∨((e=5∨e=7)∧∃ t,r=.error (e,t)∧ln=(hd t).line)
def RfR {α:Type} (ts:List Tk) (o:Nat) (st:St) (V:AV→α→Prop) (r:QR α) (v:AV) (st':St):Prop :=
 ∃ x a ln e,V v x∧a < ts.length∧st'=st.set o (rsC (ts.map tokRow) a ln e)∧Rm ts r x a ln e
def qp {α β:Type} (r:QR α) (f:List Tk→QR β):QR (α × β):=qb r fun x t=>qb (f t) fun y t'=>.ok ((x,y),t')
def RuR {α β:Type} (ts:List Tk) (o:Nat) (st:St) (V:AV→β→Prop) (r:QR α) (x:α) (f:List Tk→QR β) (v:AV) (st':St):Prop :=
 ∃ y a ln e,V v y∧a < ts.length∧st'=st.set o (rsC (ts.map tokRow) a ln e)∧Rm ts (qp r f) (x,y) a ln e
theorem ACalls.toQ {P:Program} {f:FuncId} {args:List AV} {st:St} {Rt Rt':AV→St→Prop} (h:ACalls P f args st Rt (fun _ _=>False)) (h1:∀ v st',Rt v st'→Rt' v st'):ACalls P f args st Rt' (fun _ _=>False) :=
 ACalls.leP h fun v st' hv=>⟨v,st',.refl _,.refl _,h1 v st' hv⟩
attribute [local irreducible] ACalls
theorem RuR.of {α β:Type} {ts:List Tk} {o:Nat} {F:FuncId} {args:List AV} {V:AV→β→Prop} {f:List Tk→QR β} {r:QR α} {x:α} {a ln e:Nat} {st:St} (hm:Rm ts r x a ln e) (ha:a < ts.length) (ho:st.obj o=some (rsC (ts.map tokRow) a ln e))
  (live:st.obj o=some (rsC (ts.map tokRow) a 0 0)→ACalls Tryz.prog F args st (RfR ts o st V (f (ts.drop a))) (fun _ _=>False))
  (dead:e=5∨e=7→ACalls Tryz.prog F args st (fun v st'=>(∃ y,V v y)∧st'=st) (fun _ _=>False)):ACalls Tryz.prog F args st (RuR ts o st V r x f) (fun _ _=>False):=by
 rcases hm with ⟨rfl,rfl,hr⟩|⟨he,t,hr,hl⟩
 ·refine Go.Proofs.ACalls.toQ (live ho) fun v st' ⟨y,a',ln',e',h1,h2,h3,h4⟩=>⟨y,a',ln',e',h1,h2,h3,?_⟩
  unfold qp
  rw [qb_ok hr]
  rcases h4 with ⟨k1,k2,k3⟩|⟨k1,t,k3,k4⟩
  ·exact .inl ⟨k1,k2,by rw [qb_ok k3]⟩
  ·exact .inr ⟨k1,t,by rw [qb_err k3],k4⟩
 ·refine Go.Proofs.ACalls.toQ (dead he) fun v st' ⟨⟨y,h1⟩,h2⟩=>⟨y,a,ln,e,h1,ha,by rw [h2,St.set_same ho],?_⟩
  unfold qp
  exact .inr ⟨he,t,by rw [qb_err hr],hl⟩
def ftake (s:List UInt8) (ts:List Tk):QR Unit:=if wk (hd ts) s then .ok ((),ts.tail) else .error (7,ts)
theorem wk_kind {t:Tk} {s:List UInt8} (h:wk t s=true):t.kind≠0:=by
 rcases (of_decide_eq_true h).1 with k|k <;> rw [k] <;> decide
theorem hd_tk {ts:List Tk} (H:RdT ts) {a:Nat} (ha:a < ts.length):TkOk (hd (ts.drop a)):=by
 obtain ⟨t,t1,_,t3,_,_⟩:=map_at ha
 rw [t3]
 exact H.tk t (List.mem_of_getElem? t1)
theorem ftake_sg {ts:List Tk} (H:RdT ts) {a:Nat} (ha:a < ts.length) {s:List UInt8} (hs:letHd s=false):ftake s (ts.drop a)=fneed s (ts.drop a):=by
 unfold ftake fneed
 rw [wk_sg (hd_tk H ha) hs]
structure AtT (ts:List Tk) (a:Nat) (t:Tk):Prop where
 at_:ts[a]?=some t
 hd_:hd (ts.drop a)=t
 tl:(ts.drop a).tail=ts.drop (a + 1)
 more:t.kind≠0→a + 1 < ts.length
 ok:TkOk t
 is:∀ {st:St} {o ln e:Nat},st.obj o=some (rsC (ts.map tokRow) a ln e)→∀ (s:List UInt8) (b:Bool),wk t s=b→ACalls Tryz.prog 49 [.cptr o 4 0 0,.int .i64 0,.str s] st (fun v st'=>v=.bool b∧st'=st) (fun _ _=>False)
 kd:∀ {st:St} {o ln e:Nat},st.obj o=some (rsC (ts.map tokRow) a ln e)→∀ (k:Nat) (b:Bool),decide (t.kind=k)=b→ACalls Tryz.prog 54 [.cptr o 4 0 0,.int .i64 0,.int .i64 (k:Int)] st (fun v st'=>v=.bool b∧st'=st) (fun _ _=>False)
 fail:∀ {st:St} {o:Nat},st.obj o=some (rsC (ts.map tokRow) a 0 0)→∀ (e:Nat),ACalls Tryz.prog 55 [.cptr o 4 0 0,.int .i64 (e:Int)] st (fun _ st'=>st'=st.set o (rsC (ts.map tokRow) a t.line e)) (fun _ _=>False)
theorem at_of {ts:List Tk} (H:RdT ts) {a:Nat} (ha:a < ts.length):∃ t,AtT ts a t:=by
 obtain ⟨t,t1,t2,t3,t4,t5⟩:=map_at ha
 have hl:(ts.map tokRow).length≤100000:=by rw [List.length_map]; exact H.len
 exact ⟨t,t1,t3,t5,H.last _ _ t1,H.tk t (List.mem_of_getElem? t1),fun ho s b hb=>ris_ok (k:=0) ho t4 t2 hl s b hb,fun ho k b hb=>rkind_ok ho t4 t2 hl k b hb,fun ho e=>rfail_ok ho t4 t2 e⟩
def VU (_:AV) (_:Unit):Prop:=True
def VS (v:AV) (s:List UInt8):Prop:=v=.str s
theorem rtake_err {X:List (List AV)} {a ln e o:Nat} {st:St} (ho:st.obj o=some (rsC X a ln e)) (he:e=5∨e=7) (s:List UInt8) :
  ACalls Tryz.prog 51 [.cptr o 4 0 0,.str s] st (fun v st'=>(∃ y,VU v y)∧st'=st) (fun _ _=>False):=by
 refine ACalls.ofBody Tryz.func51 rfl Tryz.ntmps51 rfl ?_
 unfold rsC at ho
 rcases he with rfl|rfl
 ·refine goD ?_
  exact AWP.ret (rets rfl (.refl _) (.refl _) ⟨⟨(),trivial⟩,rfl⟩)
 ·refine goD ?_
  exact AWP.ret (rets rfl (.refl _) (.refl _) ⟨⟨(),trivial⟩,rfl⟩)
theorem rtake_ok {ts:List Tk} (H:RdT ts) {a o:Nat} {st:St} (ho:st.obj o=some (rsC (ts.map tokRow) a 0 0)) (ha:a < ts.length) (s:List UInt8) :
  ACalls Tryz.prog 51 [.cptr o 4 0 0,.str s] st (RfR ts o st VU (ftake s (ts.drop a))) (fun _ _=>False):=by
 refine ACalls.ofBody Tryz.func51 rfl Tryz.ntmps51 rfl ?_
 obtain ⟨t,t1,t2,t3,t4,t5⟩:=map_at ha
 have hl:(ts.map tokRow).length≤100000:=by rw [List.length_map]; exact H.len
 have hi:=fun b hb=>ris_ok (k:=0) ho t4 t2 hl s b hb
 have hf:=rfail_ok ho t4 t2 7
 unfold rsC at ho
 refine goD ?_
 cases hb:wk t s with
 | true =>
  have ha1:=H.last _ _ t1 (wk_kind hb)
  refine cle rfl rfl (hi true hb) ?_
  refine goD ?_
  refine so (rows':=[[.view 4 (ts.map tokRow) .shared,.int .i64 ((a + 1:Nat):Int),.int .i64 0,.int .i64 0]]) rfl rfl rfl ho rfl rfl rfl rfl rfl ?_
  refine goD ?_
  exact rets rfl (.refl _) (.refl _) ⟨(),a + 1,0,0,trivial,ha1,rfl,.inl ⟨rfl,rfl,by rw [ftake,t3,hb,if_pos rfl,t5]⟩⟩
 | false =>
  refine cle rfl rfl (hi false hb) ?_
  refine goD ?_
  refine cl rfl rfl hf fun v st' hst=>?_
  subst hst
  refine goD ?_
  exact AWP.ret (rets rfl (.refl _) (.refl _) ⟨(),a,t.line,7,trivial,ha,rfl,.inr ⟨.inr rfl,ts.drop a,by rw [ftake,t3,hb,if_neg (by decide)],by rw [t3]⟩⟩)
theorem rtake_t {ts:List Tk} (H:RdT ts) {a o:Nat} {st:St} {t:Tk} (A:AtT ts a t) (ho:st.obj o=some (rsC (ts.map tokRow) a 0 0)) (ha:a < ts.length) {s:List UInt8} (hs:wk t s=true) :
  ACalls Tryz.prog 51 [.cptr o 4 0 0,.str s] st (fun _ st'=>st'=st.set o (rsC (ts.map tokRow) (a + 1) 0 0)) (fun _ _=>False):=by
 refine ACalls.ofBody Tryz.func51 rfl Tryz.ntmps51 rfl ?_
 have hi:=A.is ho s true hs
 unfold rsC at ho
 have hlen:=H.len
 refine goD ?_
 refine cle rfl rfl hi ?_
 refine goD ?_
 refine so (rows':=[[.view 4 (ts.map tokRow) .shared,.int .i64 ((a + 1:Nat):Int),.int .i64 0,.int .i64 0]]) rfl rfl rfl ho rfl rfl rfl rfl rfl ?_
 refine goD ?_
 exact rets rfl (.refl _) (.refl _) rfl
theorem rtake_u {α:Type} {ts:List Tk} (H:RdT ts) {r:QR α} {x:α} {a ln e o:Nat} {st:St} (hm:Rm ts r x a ln e) (ha:a < ts.length) (ho:st.obj o=some (rsC (ts.map tokRow) a ln e)) (s:List UInt8) (hs:letHd s=false) :
  ACalls Tryz.prog 51 [.cptr o 4 0 0,.str s] st (RuR ts o st VU r x (fneed s)) (fun _ _=>False) :=
 RuR.of hm ha ho (fun h=>by rw [← ftake_sg H ha hs]; exact rtake_ok H h ha s) (fun he=>rtake_err ho he s)
theorem Rm.map {α β:Type} {ts:List Tk} {r:QR α} {x:α} {a ln e:Nat} (h:Rm ts r x a ln e) (g:α→β):Rm ts (qb r fun x t=>.ok (g x,t)) (g x) a ln e:=by
 rcases h with ⟨h1,h2,h3⟩|⟨h1,t,h3,h4⟩
 ·exact .inl ⟨h1,h2,by rw [qb_ok h3]⟩
 ·exact .inr ⟨h1,t,by rw [qb_err h3],h4⟩
theorem Rm.ok {α:Type} {ts:List Tk} {r:QR α} {x:α} {a:Nat} (h:r=.ok (x,ts.drop a)):Rm ts r x a 0 0:=.inl ⟨rfl,rfl,h⟩
theorem Rm.to {α β:Type} {ts:List Tk} {r:QR α} {R:QR β} {x:α} {y:β} {a ln e:Nat} (h:Rm ts r x a ln e) (h1:r=.ok (x,ts.drop a)→R=.ok (y,ts.drop a)) (h2:∀ z,r=.error z→R=.error z):Rm ts R y a ln e:=by
 rcases h with ⟨k1,k2,k3⟩|⟨k1,t,k3,k4⟩
 ·exact .inl ⟨k1,k2,h1 k3⟩
 ·exact .inr ⟨k1,t,h2 _ k3,k4⟩
theorem rname_err {X:List (List AV)} {a ln e o:Nat} {st:St} (ho:st.obj o=some (rsC X a ln e)) (he:e=5∨e=7) :
  ACalls Tryz.prog 50 [.cptr o 4 0 0] st (fun v st'=>(∃ y,VS v y)∧st'=st) (fun _ _=>False):=by
 refine ACalls.ofBody Tryz.func50 rfl Tryz.ntmps50 rfl ?_
 unfold rsC at ho
 rcases he with rfl|rfl
 ·refine goD ?_
  exact AWP.ret (rets rfl (.refl _) (.refl _) ⟨⟨[],rfl⟩,rfl⟩)
 ·refine goD ?_
  exact AWP.ret (rets rfl (.refl _) (.refl _) ⟨⟨[],rfl⟩,rfl⟩)
theorem rname_ok {ts:List Tk} (H:RdT ts) {a o:Nat} {st:St} (ho:st.obj o=some (rsC (ts.map tokRow) a 0 0)) (ha:a < ts.length) :
  ACalls Tryz.prog 50 [.cptr o 4 0 0] st (RfR ts o st VS (fname (ts.drop a))) (fun _ _=>False):=by
 refine ACalls.ofBody Tryz.func50 rfl Tryz.ntmps50 rfl ?_
 obtain ⟨t,t1,t2,t3,t4,t5⟩:=map_at ha
 have hl:(ts.map tokRow).length≤100000:=by rw [List.length_map]; exact H.len
 have hi:=fun b hb=>rkind_ok ho t4 t2 hl 1 b hb
 have hf:=rfail_ok ho t4 t2 7
 unfold rsC at ho
 refine goD ?_
 by_cases hk:t.kind=1
 ·have ha1:=H.last _ _ t1 (by rw [hk]; decide)
  refine cle rfl rfl (hi true (decide_eq_true hk)) ?_
  refine goD ?_
  refine so (rows':=[[.view 4 (ts.map tokRow) .shared,.int .i64 ((a + 1:Nat):Int),.int .i64 0,.int .i64 0]]) rfl rfl rfl ho rfl rfl rfl rfl rfl ?_
  refine goC ?_
  refine AWP.draw rfl 12 12 (fun _ _=>False) rfl ?_
  repeat (first|refine ds rfl rfl ?_|refine dp (h:=fun _ _=>ZC (z:=nz)) (z:=?_)|refine dp (h:=fun _ _=>ZH (z:=nz)) (z:=?_)|refine dp (h:=fun _ _=>YK (z:=nz)) (z:=?_))
  refine dq rfl rfl rfl (fun st1 hle=>ix (m:=a) rfl rfl rfl (by omega) t4 (nl ⟨_,rfl,rfl,rfl⟩)) ?_
  repeat (first|refine dp (h:=fun _ _=>ZF (z:=nz)) (z:=?_)|refine dp (h:=fun _ _=>ZC (z:=nz)) (z:=?_))
  refine dn ⟨fun _=>?_,fun h=>absurd h (by decide)⟩
  refine goD ?_
  exact AWP.ret (rets rfl (.refl _) (.refl _) ⟨t.text,a + 1,0,0,rfl,ha1,rfl,.inl ⟨rfl,rfl,by rw [fname,t3,if_pos hk,t5]⟩⟩)
 ·refine cle rfl rfl (hi false (decide_eq_false hk)) ?_
  refine goD ?_
  refine cl rfl rfl hf fun v st' hst=>?_
  subst hst
  refine goD ?_
  exact AWP.ret (rets rfl (.refl _) (.refl _) ⟨[],a,t.line,7,rfl,ha,rfl,.inr ⟨.inr rfl,ts.drop a,by rw [fname,t3,if_neg hk],by rw [t3]⟩⟩)
theorem rname_u {α:Type} {ts:List Tk} (H:RdT ts) {r:QR α} {x:α} {a ln e o:Nat} {st:St} (hm:Rm ts r x a ln e) (ha:a < ts.length) (ho:st.obj o=some (rsC (ts.map tokRow) a ln e)) :
  ACalls Tryz.prog 50 [.cptr o 4 0 0] st (RuR ts o st VS r x fname) (fun _ _=>False) :=
 RuR.of hm ha ho (fun h=>rname_ok H h ha) (fun he=>rname_err ho he)
end Go.Proofs
namespace Go.Proofs
open Go.AM
attribute [local irreducible] AWP AOps AAny ACalls

def VN (v:AV) (l:Names):Prop:=v=.view 1 (nrow l) .shared
theorem fnames_fmore {ts:List Tk} {n:List UInt8} {r:List Tk} (h:fname ts=.ok (n,r)):fnames ts=fmore (ts.length + 1) [n] r:=by rw [fnames,h]
theorem rnames_ok {ts:List Tk} (H:RdT ts) {a0 o:Nat} {st:St} (ho:st.obj o=some (rsC (ts.map tokRow) a0 0 0)) (ha0:a0 < ts.length) :
  ACalls Tryz.prog 52 [.cptr o 4 0 0] st (RfR ts o st VN (fnames (ts.drop a0))) (fun _ _=>False):=by
 refine ACalls.ofBody Tryz.func52 rfl Tryz.ntmps52 rfl ?_
 have hl:(ts.map tokRow).length≤100000:=by rw [List.length_map]; exact H.len
 have hlen:=H.len
 refine goD ?_
 refine cl rfl rfl (rname_ok H ho ha0) fun v st' ⟨n,a,ln,e,hv,ha,hst,hr⟩=>?_
 subst hv
 subst hst
 refine bs1o rfl rfl rfl rfl rfl rfl fun tk htk=>?_
 refine goD ?_
 refine AWP.loop (α:=Names × Nat × Nat × Nat × Nat × Nat) (fun y=>[(3,.view 1 (nrow y.1) (.own y.2.2.2.2.1 9)),(0,.cptr o 4 0 0)]) (fun y=>(st.set o (rsC (ts.map tokRow) y.2.1 y.2.2.1 y.2.2.2.1)).addTok y.2.2.2.2.1)
  (fun y=>y.2.1 < ts.length∧st.tok y.2.2.2.2.1=false∧y.1.length≤ts.length + 1∧((y.2.2.2.1=0∧y.2.2.1=0∧y.1.length≤y.2.1∧(ts.drop y.2.1).length < y.2.2.2.2.2∧fnames (ts.drop a0)=fmore y.2.2.2.2.2 y.1 (ts.drop y.2.1))∨((y.2.2.2.1=5∨y.2.2.2.1=7)∧∃ t,fnames (ts.drop a0)=.error (y.2.2.2.1,t)∧y.2.2.1=(hd t).line)))
  (fun y=>if y.2.2.2.1=0 then ts.length - y.2.1 + 1 else 0) ([n],a,ln,e,tk,(ts.drop a0).length + 1) ⟨ha,htk,by simp only [List.length_cons,List.length_nil]; omega,?_⟩ (tl2 rfl rfl) (.refl _) ?_
 ·rcases hr with ⟨k1,k2,k3⟩|⟨k1,t,k3,k4⟩
  ·have:=drop_lt ha0 (fname_lt k3 (drop_ne ha0))
   exact .inl ⟨k1,k2,by simp only [List.length_cons,List.length_nil]; omega,by simp only [List.length_drop]; omega,fnames_fmore k3⟩
  ·exact .inr ⟨k1,t,by rw [fnames,k3],k4⟩
 rintro ⟨l,a,ln,e,tk,fu⟩ ⟨h2,h3,h4,h6⟩
 simp only at h2 h3 h4 h6
 refine AWP.weaken (T':=[(3,.view 1 (nrow l) (.own tk 9)),(0,.cptr o 4 0 0)]) (st':=(st.set o (rsC (ts.map tokRow) a ln e)).addTok tk) (tl2 rfl rfl) (.refl _) ?_
 have hok:∀ a ln e,((st.set o (rsC (ts.map tokRow) a ln e)).addTok tk).obj o=some (rsC (ts.map tokRow) a ln e):=fun _ _ _=>St.obj_set _ _ _
 have hset:∀ a ln e a' ln' e',((st.set o (rsC (ts.map tokRow) a ln e)).addTok tk).set o (rsC (ts.map tokRow) a' ln' e')=(st.set o (rsC (ts.map tokRow) a' ln' e')).addTok tk:=fun _ _ _ _ _ _=>by
  show ((st.addTok tk).set o _).set o _=(st.addTok tk).set o _
  rw [St.set_set]
 have hM:=hok a ln e
 unfold rsC at hM
 rcases h6 with ⟨rfl,rfl,k3,k4,k5⟩|⟨he,t,k3,k4⟩
 ·obtain ⟨t,A⟩:=at_of H h2
  obtain ⟨fu,rfl⟩:∃ f,fu=f + 1:=⟨fu - 1,by omega⟩
  rw [fmore,A.hd_,A.tl] at k5
  refine goD ?_
  cases hs:wk t [44] with
  | true =>
   rw [if_pos (by rw [← wk_sg A.ok (by decide)]; exact hs)] at k5
   have hk1:=A.more (wk_kind hs)
   refine cle rfl rfl (A.is (hok a 0 0) [44] true hs) ?_
   refine goD ?_
   refine cl rfl rfl (rtake_t H A (hok a 0 0) h2 hs) fun v st' hst=>?_
   subst hst
   rw [hset]
   refine goD ?_
   refine cl rfl rfl (rname_ok H (hok (a + 1) 0 0) hk1) fun v st' ⟨n,b,ln2,e2,hv,hb,hst,hr⟩=>?_
   subst hv
   subst hst
   rw [hset]
   refine goD ?_
   refine ap rfl rfl rfl (St.tok_addTok _ _) rfl (by simp only [List.length_cons,List.length_nil,nrow_len]; omega) (by simp only [List.length_cons,List.length_nil,nrow_len,maxLen]; omega) fun tk' htk'=>?_
   have hm:nrow l++[(AV.str n).cells]=nrow (l++[n]):=by unfold nrow; rw [List.map_append]; rfl
   rw [hm]
   refine goD ?_
   refine ⟨(l++[n],b,ln2,e2,tk',fu),⟨hb,St.tok_of_add htk',by simp only [List.length_append,List.length_cons,List.length_nil]; omega,?_⟩,?_,(tl2 rfl rfl),StLe.reTok (st:=st.set o (rsC (ts.map tokRow) b ln2 e2)) h3 tk'⟩
   ·simp only
    rcases hr with ⟨q1,q2,q3⟩|⟨q1,u,q3,q4⟩
    ·have:=drop_lt hk1 (fname_lt q3 (drop_ne hk1))
     exact .inl ⟨q1,q2,by simp only [List.length_append,List.length_cons,List.length_nil]; omega,by simp only [List.length_drop] at k4 ⊢; omega,by rw [k5,q3]⟩
    ·exact .inr ⟨q1,u,by rw [k5,q3],q4⟩
   ·simp only [if_pos]
    rcases hr with ⟨q1,q2,q3⟩|⟨q1,u,q3,q4⟩
    ·have:=drop_lt hk1 (fname_lt q3 (drop_ne hk1))
     rw [if_pos q1]
     omega
    ·rw [if_neg (by omega)]
     omega
  | false =>
   rw [if_neg (by rw [← wk_sg A.ok (by decide),hs]; decide)] at k5
   refine cle rfl rfl (A.is (hok a 0 0) [44] false hs) ?_
   refine goD ?_
   refine AWP.exit (blk_hit ?_)
   refine goD ?_
   exact AWP.ret (rets rfl (.shared _ _ _) (StLe.addTok _ (.refl _)) ⟨l,a,0,0,rfl,h2,rfl,.inl ⟨rfl,rfl,k5⟩⟩)
 ·have he0:¬ (e:Int)=0:=by omega
  refine goD ?_
  refine AWP.exit (blk_hit ?_)
  refine goD ?_
  exact AWP.ret (rets rfl (.shared _ _ _) (StLe.addTok _ (.refl _)) ⟨l,a,ln,e,rfl,h2,rfl,.inr ⟨he,t,k3,k4⟩⟩)
theorem rnames_err {ts:List Tk} {a ln e o:Nat} {st:St} (ho:st.obj o=some (rsC (ts.map tokRow) a ln e)) (he:e=5∨e=7) :
  ACalls Tryz.prog 52 [.cptr o 4 0 0] st (fun v st'=>(∃ y,VN v y)∧st'=st) (fun _ _=>False):=by
 refine ACalls.ofBody Tryz.func52 rfl Tryz.ntmps52 rfl ?_
 have hn:=rname_err ho he
 have he0:¬ (e:Int)=0:=by omega
 have ho':=ho
 unfold rsC at ho
 refine goD ?_
 refine cl rfl rfl hn fun v st' ⟨⟨n,hv⟩,hst⟩=>?_
 subst hv
 subst hst
 refine bs1o rfl rfl rfl rfl rfl rfl fun tk htk=>?_
 have hM:(st'.addTok tk).obj o=some (.cells 69 4 [[.view 4 (ts.map tokRow) .shared,.int .i64 (a:Int),.int .i64 (ln:Int),.int .i64 (e:Int)]]):=ho
 refine goD ?_
 refine AWP.loop (α:=Unit) (fun _=>[(3,.view 1 (nrow [n]) (.own tk 9)),(0,.cptr o 4 0 0)]) (fun _=>st'.addTok tk) (fun _=>True) (fun _=>0) () trivial (tl2 rfl rfl) (.refl _) ?_
 intro _ _
 refine AWP.weaken (T':=[(3,.view 1 (nrow [n]) (.own tk 9)),(0,.cptr o 4 0 0)]) (st':=st'.addTok tk) (tl2 rfl rfl) (.refl _) ?_
 refine goD ?_
 refine AWP.exit (blk_hit ?_)
 refine goD ?_
 exact AWP.ret (rets rfl (.shared _ _ _) (StLe.addTok _ (.refl _)) ⟨⟨[n],rfl⟩,rfl⟩)
theorem rnames_u {α:Type} {ts:List Tk} (H:RdT ts) {r:QR α} {x:α} {a ln e o:Nat} {st:St} (hm:Rm ts r x a ln e) (ha:a < ts.length) (ho:st.obj o=some (rsC (ts.map tokRow) a ln e)) :
  ACalls Tryz.prog 52 [.cptr o 4 0 0] st (RuR ts o st VN r x fnames) (fun _ _=>False) :=
 RuR.of hm ha ho (fun h=>rnames_ok H h ha) (fun he=>rnames_err ho he)
end Go.Proofs
namespace Go.Proofs
open Go.AM
attribute [local irreducible] AWP AOps AAny ACalls

theorem rstarts_ok {ts:List Tk} {a ln e o:Nat} {t:Tk} {st:St} (A:AtT ts a t) (ho:st.obj o=some (rsC (ts.map tokRow) a ln e)) (b:Bool) (hb:beg t=b) :
  ACalls Tryz.prog 125 [.cptr o 4 0 0] st (fun v st'=>v=.bool b∧st'=st) (fun _ _=>False):=by
 refine ACalls.ofBody Tryz.func125 rfl Tryz.ntmps125 rfl ?_
 have is:=fun s (hs:letHd s=false) b (h:sg t s=b)=>A.is ho s b (by rw [wk_sg A.ok hs]; exact h)
 have kd:=A.kd ho
 subst hb
 unfold beg
 refine goD ?_
 by_cases h1:t.kind=1
 ·refine cle rfl rfl (kd 1 true (decide_eq_true h1)) ?_
  rw [decide_eq_true h1]
  refine goD ?_
  exact AWP.ret (rets rfl (.refl _) (.refl _) ⟨rfl,rfl⟩)
 refine cle rfl rfl (kd 1 false (decide_eq_false h1)) ?_
 rw [decide_eq_false h1]
 refine goD ?_
 by_cases h2:t.kind=2
 ·refine cle rfl rfl (kd 2 true (decide_eq_true h2)) ?_
  rw [decide_eq_true h2]
  refine goD ?_
  exact AWP.ret (rets rfl (.refl _) (.refl _) ⟨rfl,rfl⟩)
 refine cle rfl rfl (kd 2 false (decide_eq_false h2)) ?_
 rw [decide_eq_false h2]
 refine goD ?_
 cases h3:sg t [40] with
 | true =>
  refine cle rfl rfl (is [40] rfl true h3) ?_
  refine goD ?_
  refine AWP.ret (rets rfl (.refl _) (.refl _) (And.intro ?_ rfl))
  cases sg t [45] <;> cases sg t [33] <;> rfl
 | false =>
  refine cle rfl rfl (is [40] rfl false h3) ?_
  refine goD ?_
  cases h4:sg t [45] with
  | true =>
   refine cle rfl rfl (is [45] rfl true h4) ?_
   refine goD ?_
   exact AWP.ret (rets rfl (.refl _) (.refl _) ⟨rfl,rfl⟩)
  | false =>
   refine cle rfl rfl (is [45] rfl false h4) ?_
   refine goD ?_
   cases h5:sg t [33] with
   | true =>
    refine cle rfl rfl (is [33] rfl true h5) ?_
    refine goD ?_
    exact AWP.ret (rets rfl (.refl _) (.refl _) ⟨rfl,rfl⟩)
   | false =>
    refine cle rfl rfl (is [33] rfl false h5) ?_
    refine goD ?_
    exact AWP.ret (rets rfl (.refl _) (.refl _) ⟨rfl,rfl⟩)
def sgnV:List (List AV):=[[.str [43]],[.str [45]],[.str [42]],[.str [47]],[.str [37]],[.str [38]],[.str [124]],[.str [94]],[.str [60]],[.str [60,61]],[.str [61,61]],[.str [33,61]]]
def levV:List (List AV):=[[.int .i64 3],[.int .i64 3],[.int .i64 4],[.int .i64 4],[.int .i64 4],[.int .i64 2],[.int .i64 2],[.int .i64 2],[.int .i64 1],[.int .i64 1],[.int .i64 1],[.int .i64 1]]
theorem binL_lev:∀ m,m < 12→∃ s l,binL[m]?=some (s,l,6 + m)∧sgnV[m]?=some [.str s]∧levV[m]?=some [.int .i64 ((l:Nat):Int)]∧letHd s=false
 | 0,_=>⟨_,_,rfl,rfl,rfl,rfl⟩
 | 1,_=>⟨_,_,rfl,rfl,rfl,rfl⟩
 | 2,_=>⟨_,_,rfl,rfl,rfl,rfl⟩
 | 3,_=>⟨_,_,rfl,rfl,rfl,rfl⟩
 | 4,_=>⟨_,_,rfl,rfl,rfl,rfl⟩
 | 5,_=>⟨_,_,rfl,rfl,rfl,rfl⟩
 | 6,_=>⟨_,_,rfl,rfl,rfl,rfl⟩
 | 7,_=>⟨_,_,rfl,rfl,rfl,rfl⟩
 | 8,_=>⟨_,_,rfl,rfl,rfl,rfl⟩
 | 9,_=>⟨_,_,rfl,rfl,rfl,rfl⟩
 | 10,_=>⟨_,_,rfl,rfl,rfl,rfl⟩
 | 11,_=>⟨_,_,rfl,rfl,rfl,rfl⟩
 | n + 12,h=>absurd h (by omega)
theorem find_at {α:Type} {p:α→Bool}:∀ {l:List α} {m:Nat} {o:α},l[m]?=some o→(∀ j x,j < m→l[j]?=some x→p x=false)→p o=true→l.find? p=some o
 | [],m,o,h,_,_=>by simp at h
 | x::l,0,o,h,_,hp=>by
  cases h
  rw [List.find?_cons,hp]
 | x::l,m + 1,o,h,hn,hp=>by
  rw [List.find?_cons,hn 0 x (by omega) rfl]
  exact find_at h (fun j y hj hy=>hn (j + 1) y (by omega) hy) hp
theorem find_no {α:Type} {p:α→Bool} {l:List α} (hn:∀ j x,j < l.length→l[j]?=some x→p x=false):l.find? p=none:=by
 rw [List.find?_eq_none]
 intro x hx
 obtain ⟨j,hj⟩:=List.mem_iff_getElem?.1 hx
 rw [hn j x (List.getElem?_eq_some_iff.1 hj).1 hj]
 decide
set_option maxHeartbeats 1000000 in
theorem rlevel_ok {ts:List Tk} {a ln e o:Nat} {t:Tk} {st:St} (A:AtT ts a t) (ho:st.obj o=some (rsC (ts.map tokRow) a ln e)) :
  ACalls Tryz.prog 117 [.cptr o 4 0 0] st (fun v st'=>v=.tuple [.int .i64 ((bin t).1:Int),.int .i64 ((bin t).2:Int)]∧st'=st) (fun _ _=>False):=by
 refine ACalls.ofBody Tryz.func117 rfl Tryz.ntmps117 rfl ?_
 have is:=fun s (hs:letHd s=false) b (h:sg t s=b)=>A.is ho s b (by rw [wk_sg A.ok hs]; exact h)
 refine goD ?_
 refine bsh (cs:=sgnV.flatten) rfl rfl rfl rfl rfl ?_
 refine goD ?_
 refine bsh (cs:=levV.flatten) rfl rfl rfl rfl rfl ?_
 refine goD ?_
 refine AWP.loop (α:=Nat) (fun i=>[(12,.int .i64 (i:Int)),(11,.int .i64 12),(10,.view 1 sgnV .shared),(5,.view 1 levV .shared),(0,.cptr o 4 0 0)]) (fun _=>st) (fun i=>i≤12∧∀ j x,j < i→binL[j]?=some x→sg t x.1=false) (fun i=>12 - i) 0
  ⟨by omega,fun j x h=>absurd h (by omega)⟩ (tl5 rfl rfl rfl rfl rfl) (.refl _) ?_
 rintro i ⟨h1,h2⟩
 refine AWP.weaken (T':=[(12,.int .i64 (i:Int)),(11,.int .i64 12),(10,.view 1 sgnV .shared),(5,.view 1 levV .shared),(0,.cptr o 4 0 0)]) (tl5 rfl rfl rfl rfl rfl) (.refl _) ?_
 by_cases hi:i < 12
 ·obtain ⟨s,l,q1,q2,q3,q4⟩:=binL_lev i hi
  have hi1:i < sgnV.length:=hi
  have hi2:i < levV.length:=hi
  refine goD ?_
  cases hb:sg t s with
  | true =>
   refine cle rfl rfl (is s q4 true hb) ?_
   refine goD ?_
   refine adn (a:=6) rfl rfl rfl (by omega) ?_
   refine goD ?_
   refine AWP.ret (rets rfl (.refl _) (.refl _) (And.intro ?_ rfl))
   have hf:binL.find? (fun o=>sg t o.1)=some (s,l,6 + i):=find_at q1 h2 hb
   unfold bin
   rw [hf]
   rfl
  | false =>
   refine cle rfl rfl (is s q4 false hb) ?_
   refine goD ?_
   refine ⟨i + 1,⟨by omega,fun j x hj hx=>?_⟩,by omega,(tl5 rfl rfl rfl rfl rfl),.refl _⟩
   rcases Nat.lt_or_ge j i with hji|hji
   ·exact h2 j x hji hx
   ·have:j=i:=by omega
    subst this
    rw [q1] at hx
    cases hx
    exact hb
 ·refine goD ?_
  refine AWP.exit (blk_hit ?_)
  refine goD ?_
  refine AWP.ret (rets rfl (.refl _) (.refl _) (And.intro ?_ rfl))
  have hf:binL.find? (fun o=>sg t o.1)=none:=find_no fun j x hj hx=>h2 j x (by have:j < 12:=hj; omega) hx
  unfold bin
  rw [hf]
  rfl
end Go.Proofs
namespace Go.Proofs
open Go.AM
attribute [local irreducible] AWP AOps AAny ACalls

def VX (v:AV) (x:Xp):Prop:=v=xv x
def RfeOk (ts:List Tk) (K:Nat):Prop:=∀ k,k≤K→∀ (lv d a o:Nat) (st:St),1≤lv→lv≤5→d≤9→a < ts.length→7 * (ts.length - a) + (6 - lv) < k→st.obj o=some (rsC (ts.map tokRow) a 0 0) →
 ACalls Tryz.prog 104 [.cptr o 4 0 0,.int .i64 (lv:Int),.int .i64 (d:Int)] st (RfR ts o st VX (fe k lv d (ts.drop a))) (fun _ _=>False)
theorem rtarget_ok {ts:List Tk} (H:RdT ts) {k:Nat} (hK:RfeOk ts k) {d a o:Nat} {st:St} (hd8:d≤8) (ho:st.obj o=some (rsC (ts.map tokRow) a 0 0)) (ha:a < ts.length) (hk:7 * (ts.length - a) < k + 2) :
  ACalls Tryz.prog 120 [.cptr o 4 0 0,.int .i64 (d:Int)] st (RfR ts o st VX (ftg k d (ts.drop a))) (fun _ _=>False):=by
 refine ACalls.inSet ho (ACalls.ofBody Tryz.func120 rfl Tryz.ntmps120 rfl ?_)
 have hlen:=H.len
 refine goC ?_
 refine rg ?_
 refine al rfl rfl fun o2 h2=>?_
 replace h2:=none_set h2
 refine goD ?_
 refine cl rfl rfl (rname_ok H (obj1 h2 _ _) ha) fun v st' ⟨n,b,ln,e,hv,hb,hst,hr⟩=>?_
 subst hv
 subst hst
 rw [push1 h2]
 rcases hr with ⟨rfl,rfl,hr⟩|⟨he,u,hr,hl⟩
 ·have hab:=drop_lt ha (fname_lt hr (drop_ne ha))
  rw [ftg,qb_ok hr]
  obtain ⟨t,A⟩:=at_of H hb
  rw [A.hd_,A.tl]
  have hM:((st.set o (rsC (ts.map tokRow) b 0 0)).set o2 (.cells 95 6 [exRow 0 0 [] [] nilV])).obj o=some (.cells 69 4 [[.view 4 (ts.map tokRow) .shared,.int .i64 (b:Int),.int .i64 0,.int .i64 0]]):=obj1 h2 _ _
  refine goD ?_
  cases c1:wk t [46] with
  | true =>
   rw [if_pos (by rw [← wk_sg A.ok (by decide)]; exact c1)]
   have hb1:=A.more (wk_kind c1)
   refine cle rfl rfl (A.is (obj1 h2 _ _) [46] true c1) ?_
   refine goD ?_
   refine so (rows':=[[.view 4 (ts.map tokRow) .shared,.int .i64 ((b + 1:Nat):Int),.int .i64 0,.int .i64 0]]) rfl rfl rfl hM rfl rfl rfl rfl rfl ?_
   rw [push1 h2]
   refine goD ?_
   refine cl rfl rfl (rname_ok H (obj1 h2 _ _) hb1) fun v st' ⟨n2,b2,ln,e,hv,hb2,hst,hr⟩=>?_
   subst hv
   subst hst
   rw [push1 h2]
   skip
   refine bds (cs:=exRow 2 0 n n2 nilV) rfl rfl rfl rfl ?_
   refine so (rows':=[exRow 2 0 n n2 nilV]) rfl rfl rfl (St.obj_set _ _ _) rfl rfl rfl rfl rfl ?_
   rw [St.set_set]
   refine goD ?_
   exact AWP.ret (rets (resCW rfl (St.obj_set _ _ _) rfl rfl rfl rfl) (ex_nil _ _ _ _) (drop1 h2 _ _) ⟨.fld n n2,b2,ln,e,rfl,hb2,rfl,hr.map _⟩)
  | false =>
   rw [if_neg (by rw [← wk_sg A.ok (by decide),c1]; decide)]
   refine cle rfl rfl (A.is (obj1 h2 _ _) [46] false c1) ?_
   refine goD ?_
   cases c2:wk t [91] with
   | true =>
    rw [if_pos (by rw [← wk_sg A.ok (by decide)]; exact c2)]
    have hb1:=A.more (wk_kind c2)
    refine cle rfl rfl (A.is (obj1 h2 _ _) [91] true c2) ?_
    refine goD ?_
    refine so (rows':=[[.view 4 (ts.map tokRow) .shared,.int .i64 ((b + 1:Nat):Int),.int .i64 0,.int .i64 0]]) rfl rfl rfl hM rfl rfl rfl rfl rfl ?_
    rw [push1 h2]
    refine goD ?_
    refine cl rfl rfl (hK k (Nat.le_refl _) 1 (d + 1) (b + 1) o _ (by decide) (by decide) (by omega) hb1 (by omega) (obj1 h2 _ _)) fun v st' ⟨x,b2,ln,e,hv,hb2,hst,hr⟩=>?_
    subst hst
    rw [push1 h2]
    obtain ⟨op,num,name,field,args,hx⟩:=xrow_ex x
    unfold VX xv at hv
    rw [hx] at hv
    subst hv
    refine goD ?_
    refine cl rfl rfl (rtake_u H hr hb2 (obj1 h2 _ _) [93] rfl) fun v st' ⟨_,b3,ln3,e3,_,hb3,hst,hr3⟩=>?_
    subst hst
    rw [push1 h2]
    refine goD ?_
    refine bds (cs:=exRow 3 0 n [] (.view 6 [exRow op num name field (.view 6 args .shared)] .shared)) rfl rfl rfl rfl ?_
    refine so (rows':=[exRow 3 0 n [] (.view 6 [exRow op num name field (.view 6 args .shared)] .shared)]) rfl rfl rfl (St.obj_set _ _ _) rfl rfl rfl rfl rfl ?_
    rw [St.set_set]
    refine goD ?_
    refine AWP.ret (rets (resCW rfl (St.obj_set _ _ _) rfl rfl rfl rfl) (.refl _) (drop1 h2 _ _) ⟨.elt n x,b3,ln3,e3,?_,hb3,rfl,?_⟩)
    ·show AV.agg _=AV.agg (exRow 3 0 n [] (.view 6 [xrow x] .shared))
     rw [hx] <;> rfl
    ·have:=hr3.map fun p=>Xp.elt n p.1
     simpa only [qp,qb_qb,qb_ret] using this
   | false =>
    rw [if_neg (by rw [← wk_sg A.ok (by decide),c2]; decide)]
    refine cle rfl rfl (A.is (obj1 h2 _ _) [91] false c2) ?_
    refine goD ?_
    refine bds (cs:=exRow 1 0 n [] nilV) rfl rfl rfl rfl ?_
    refine so (rows':=[exRow 1 0 n [] nilV]) rfl rfl rfl (St.obj_set _ _ _) rfl rfl rfl rfl rfl ?_
    rw [St.set_set]
    refine goD ?_
    exact AWP.ret (rets (resCW rfl (St.obj_set _ _ _) rfl rfl rfl rfl) (ex_nil _ _ _ _) (drop1 h2 _ _) ⟨.var n,b,0,0,rfl,hb,rfl,.ok rfl⟩)
 ·have he0:¬ (e:Int)=0:=by omega
  have hM:((st.set o (rsC (ts.map tokRow) b ln e)).set o2 (.cells 95 6 [exRow 0 0 [] [] nilV])).obj o=some (.cells 69 4 [[.view 4 (ts.map tokRow) .shared,.int .i64 (b:Int),.int .i64 (ln:Int),.int .i64 (e:Int)]]):=obj1 h2 _ _
  refine goD ?_
  refine bds (cs:=exRow 1 0 n [] nilV) rfl rfl rfl rfl ?_
  refine so (rows':=[exRow 1 0 n [] nilV]) rfl rfl rfl (St.obj_set _ _ _) rfl rfl rfl rfl rfl ?_
  rw [St.set_set]
  refine goD ?_
  exact AWP.ret (rets (resCW rfl (St.obj_set _ _ _) rfl rfl rfl rfl) (ex_nil _ _ _ _) (drop1 h2 _ _) ⟨.var n,b,ln,e,rfl,hb,rfl,.inr ⟨he,u,by rw [ftg,qb_err hr],hl⟩⟩)
end Go.Proofs
namespace Go.Proofs
open Go.AM
attribute [local irreducible] AWP AOps AAny ACalls

def RfoOk (ts:List Tk) (K:Nat):Prop:=∀ k,k≤K→∀ (d a o:Nat) (st:St),d≤9→a < ts.length→7 * (ts.length - a) < k→st.obj o=some (rsC (ts.map tokRow) a 0 0) →
 ACalls Tryz.prog 116 [.cptr o 4 0 0,.int .i64 (d:Int)] st (RfR ts o st VX (fo k d (ts.drop a))) (fun _ _=>False)
def pmV:List (List AV):=[[.str [45]],[.str [33]]]
theorem zx_le:Le (.agg (exRow 0 0 [] [] nilV)) (xv (.lit 0)):=ex_nil _ _ _ _
set_option maxHeartbeats 1000000 in
theorem runary_step {ts:List Tk} (H:RdT ts) {k:Nat} (hE:RfeOk ts k) (hU:RfoOk ts k) {d a o:Nat} {st:St} (hd9:d≤9) (ho:st.obj o=some (rsC (ts.map tokRow) a 0 0)) (ha:a < ts.length) (hk:7 * (ts.length - a) < k + 1) :
  ACalls Tryz.prog 116 [.cptr o 4 0 0,.int .i64 (d:Int)] st (RfR ts o st VX (fo (k + 1) d (ts.drop a))) (fun _ _=>False):=by
 refine ACalls.inSet ho (ACalls.ofBody Tryz.func116 rfl Tryz.ntmps116 rfl ?_)
 have hlen:=H.len
 refine goC ?_
 refine rg ?_
 refine al rfl rfl fun o2 h2=>?_
 replace h2:=none_set h2
 obtain ⟨t,A⟩:=at_of H ha
 have hM:((st.set o (rsC (ts.map tokRow) a 0 0)).set o2 (.cells 95 6 [exRow 0 0 [] [] nilV])).obj o=some (.cells 69 4 [[.view 4 (ts.map tokRow) .shared,.int .i64 (a:Int),.int .i64 0,.int .i64 0]]):=obj1 h2 _ _
 refine goD ?_
 by_cases hb:beg t=true
 rotate_left
 ·refine cle rfl rfl (rstarts_ok A (obj1 h2 _ _) false (by rw [Bool.not_eq_true] at hb; exact hb)) ?_
  refine goD ?_
  refine cl rfl rfl (A.fail (obj1 h2 _ _) 7) fun v st' hst=>?_
  subst hst
  rw [push1 h2]
  refine goD ?_
  refine bds (cs:=exRow 0 0 [] [] nilV) rfl rfl rfl rfl ?_
  refine so (rows':=[exRow 0 0 [] [] nilV]) rfl rfl rfl (St.obj_set _ _ _) rfl rfl rfl rfl rfl ?_
  rw [St.set_set]
  refine goD ?_
  exact AWP.ret (rets (resCW rfl (St.obj_set _ _ _) rfl rfl rfl rfl) zx_le (drop1 h2 _ _) ⟨.lit 0,a,t.line,7,rfl,ha,rfl,.inr ⟨.inr rfl,_,by rw [fo,A.hd_,if_neg hb],by rw [A.hd_]⟩⟩)
 refine cle rfl rfl (rstarts_ok A (obj1 h2 _ _) true hb) ?_
 refine goD ?_
 by_cases h8:8 < d
 ·refine goD ?_
  refine cl rfl rfl (A.fail (obj1 h2 _ _) 5) fun v st' hst=>?_
  subst hst
  rw [push1 h2]
  refine goD ?_
  refine bds (cs:=exRow 0 0 [] [] nilV) rfl rfl rfl rfl ?_
  refine so (rows':=[exRow 0 0 [] [] nilV]) rfl rfl rfl (St.obj_set _ _ _) rfl rfl rfl rfl rfl ?_
  rw [St.set_set]
  refine goD ?_
  exact AWP.ret (rets (resCW rfl (St.obj_set _ _ _) rfl rfl rfl rfl) zx_le (drop1 h2 _ _) ⟨.lit 0,a,t.line,5,rfl,ha,rfl,.inr ⟨.inl rfl,_,by rw [fo,A.hd_,if_pos hb,if_pos h8],by rw [A.hd_]⟩⟩)
 have hk0:t.kind≠0:=by
  rcases beg_cases hb with h|h|⟨h,_⟩ <;> rw [h] <;> decide
 have ha1:=A.more hk0
 refine goD ?_
 refine bsh (cs:=pmV.flatten) rfl rfl rfl rfl rfl ?_
 refine goD ?_
 refine AWP.loop (α:=Nat) (fun i=>[(27,.int .i64 (i:Int)),(26,.int .i64 2),(25,.view 1 pmV .shared),(4,.cptr o2 6 0 0),(1,.int .i64 (d:Int)),(0,.cptr o 4 0 0)]) (fun _=>(st.set o (rsC (ts.map tokRow) a 0 0)).set o2 (.cells 95 6 [exRow 0 0 [] [] nilV]))
  (fun i=>i≤2∧(1≤i→sg t [45]=false)∧(2≤i→sg t [33]=false)) (fun i=>2 - i) 0
  ⟨by omega,fun h=>absurd h (by omega),fun h=>absurd h (by omega)⟩ (tl6 rfl rfl rfl rfl rfl rfl) (.refl _) ?_
 rintro i ⟨i1,i2,i3⟩
 refine AWP.weaken (T':=[(27,.int .i64 (i:Int)),(26,.int .i64 2),(25,.view 1 pmV .shared),(4,.cptr o2 6 0 0),(1,.int .i64 (d:Int)),(0,.cptr o 4 0 0)]) (tl6 rfl rfl rfl rfl rfl rfl) (.refl _) ?_
 by_cases hi:i < 2
 ·have hi1:i < pmV.length:=hi
  obtain ⟨s,hs,q1,q2⟩:∃ s,pmV[i]?=some [.str s]∧letHd s=false∧((i=0∧s=[45])∨(i=1∧s=[33])):=by
   rcases (by omega:i=0∨i=1) with rfl|rfl
   ·exact ⟨_,rfl,rfl,.inl ⟨rfl,rfl⟩⟩
   ·exact ⟨_,rfl,rfl,.inr ⟨rfl,rfl⟩⟩
  refine goD ?_
  cases c1:wk t s with
  | true =>
   have hsg:=c1
   rw [wk_sg A.ok q1] at hsg
   have k4:t.kind=4:=(of_decide_eq_true hsg).1
   have tx:t.text=s:=(of_decide_eq_true hsg).2
   have e0:fo (k + 1) d (ts.drop a)=qb (fo k (d + 1) (ts.drop (a + 1))) fun x r=>.ok (.una (4 + i) x,r):=by
    rw [fo,A.hd_,A.tl,if_pos hb,if_neg h8,if_neg (by omega),if_neg (by omega),if_neg (by rcases q2 with ⟨_,q⟩|⟨_,q⟩ <;> rw [tx,q] <;> decide)]
    cases fo k (d + 1) (ts.drop (a + 1)) with
    | error e=>rfl
    | ok p =>
     show _=Except.ok (Xp.una (4 + i) p.1,p.2)
     rcases q2 with ⟨rfl,q⟩|⟨rfl,q⟩
     ·show Except.ok _=_
      rw [if_pos (by rw [tx,q])]
     ·show Except.ok _=_
      rw [if_neg (by rw [tx,q]; decide)]
   refine cle rfl rfl (A.is (obj1 h2 _ _) s true c1) ?_
   refine goD ?_
   refine so (rows':=[[.view 4 (ts.map tokRow) .shared,.int .i64 ((a + 1:Nat):Int),.int .i64 0,.int .i64 0]]) rfl rfl rfl hM rfl rfl rfl rfl rfl ?_
   rw [push1 h2]
   refine goD ?_
   refine adn (a:=4) rfl rfl rfl (by omega) ?_
   refine goD ?_
   refine cl rfl rfl (hU k (Nat.le_refl _) (d + 1) (a + 1) o _ (by omega) ha1 (by omega) (obj1 h2 _ _)) fun v st' ⟨x,b,ln,e,hv,hb2,hst,hr⟩=>?_
   subst hst
   rw [push1 h2]
   obtain ⟨op,num,name,field,args,hx⟩:=xrow_ex x
   unfold VX xv at hv
   rw [hx] at hv
   subst hv
   refine goD ?_
   refine bds (cs:=exRow ((4 + i:Nat):Int) 0 [] [] (.view 6 [exRow op num name field (.view 6 args .shared)] .shared)) rfl rfl rfl rfl ?_
   refine so (rows':=[exRow ((4 + i:Nat):Int) 0 [] [] (.view 6 [exRow op num name field (.view 6 args .shared)] .shared)]) rfl rfl rfl (St.obj_set _ _ _) rfl rfl rfl rfl rfl ?_
   rw [St.set_set]
   refine goD ?_
   refine AWP.ret (rets (resCW rfl (St.obj_set _ _ _) rfl rfl rfl rfl) (.refl _) (drop1 h2 _ _) ⟨.una (4 + i) x,b,ln,e,?_,hb2,rfl,by rw [e0]; exact hr.map _⟩)
   show AV.agg _=AV.agg (exRow _ 0 [] [] (.view 6 [xrow x] .shared))
   rw [hx] <;> rfl
  | false =>
   refine cle rfl rfl (A.is (obj1 h2 _ _) s false c1) ?_
   refine goD ?_
   rw [wk_sg A.ok q1] at c1
   refine ⟨i + 1,⟨by omega,fun h=>?_,fun h=>?_⟩,by omega,(tl6 rfl rfl rfl rfl rfl rfl),.refl _⟩
   ·rcases q2 with ⟨rfl,q⟩|⟨rfl,q⟩
    ·rw [← q]; exact c1
    ·exact i2 (by decide)
   ·rcases q2 with ⟨rfl,q⟩|⟨rfl,q⟩
    ·exact absurd h (by decide)
    ·rw [← q]; exact c1
 ·have s1:=i2 (by omega)
  have s2:=i3 (by omega)
  refine goD ?_
  refine AWP.exit (blk_hit ?_)
  refine goD ?_
  by_cases c2:t.kind=2
  ·refine cle rfl rfl (A.kd (obj1 h2 _ _) 2 true (decide_eq_true c2)) ?_
   refine goD ?_
   refine so (rows':=[[.view 4 (ts.map tokRow) .shared,.int .i64 ((a + 1:Nat):Int),.int .i64 0,.int .i64 0]]) rfl rfl rfl hM rfl rfl rfl rfl rfl ?_
   rw [push1 h2]
   have hM1:((st.set o (rsC (ts.map tokRow) (a + 1) 0 0)).set o2 (.cells 95 6 [exRow 0 0 [] [] nilV])).obj o=some (.cells 69 4 [[.view 4 (ts.map tokRow) .shared,.int .i64 ((a + 1:Nat):Int),.int .i64 0,.int .i64 0]]):=obj1 h2 _ _
   obtain ⟨t',t1,t2,t3,t4,t5⟩:=map_at ha
   have h1:=A.at_
   rw [t1] at h1
   cases h1
   refine goC ?_
   refine AWP.draw rfl 13 13 (fun _ _=>False) rfl ?_
   repeat (first|refine ds rfl rfl ?_|refine dp (h:=fun _ _=>ZC (z:=nz)) (z:=?_)|refine dp (h:=fun _ _=>ZH (z:=nz)) (z:=?_)|refine dp (h:=fun _ _=>YK (z:=nz)) (z:=?_))
   refine dq rfl rfl rfl (fun st1 hle=>ix (m:=a) rfl rfl rfl (by omega) t4 (nl ⟨_,rfl,rfl,rfl⟩)) ?_
   repeat (first|refine dp (h:=fun _ _=>ZF (z:=nz)) (z:=?_)|refine dp (h:=fun _ _=>ZC (z:=nz)) (z:=?_))
   refine dq rfl rfl rfl (fun st1 hle=>bds (cs:=exRow 0 t.num [] [] nilV) rfl rfl rfl rfl (nl ⟨_,rfl,rfl,rfl⟩)) ?_
   refine dn ⟨fun _=>?_,fun h=>absurd h (by decide)⟩
   refine so (rows':=[exRow 0 t.num [] [] nilV]) rfl rfl rfl (St.obj_set _ _ _) rfl rfl rfl rfl rfl ?_
   rw [St.set_set]
   refine goD ?_
   exact AWP.ret (rets (resCW rfl (St.obj_set _ _ _) rfl rfl rfl rfl) (ex_nil _ _ _ _) (drop1 h2 _ _) ⟨.lit t.num,a + 1,0,0,rfl,ha1,rfl,.ok (by rw [fo,A.hd_,A.tl,if_pos hb,if_neg h8,if_pos c2])⟩)
  ·refine cle rfl rfl (A.kd (obj1 h2 _ _) 2 false (decide_eq_false c2)) ?_
   refine goD ?_
   cases c3:wk t [40] with
   | true =>
    have hsg:=c3
    rw [wk_sg A.ok rfl] at hsg
    have k4:t.kind=4:=(of_decide_eq_true hsg).1
    have tx:t.text=[40]:=(of_decide_eq_true hsg).2
    have e0:fo (k + 1) d (ts.drop a)=qb (fe k 1 (d + 1) (ts.drop (a + 1))) fun x r=>qb (fneed [41] r) fun _ r2=>.ok (x,r2):=by
     rw [fo,A.hd_,A.tl,if_pos hb,if_neg h8,if_neg (by omega),if_neg (by omega),if_pos tx]
     cases fe k 1 (d + 1) (ts.drop (a + 1)) with
     | error e=>rfl
     | ok p =>
      obtain ⟨x,r⟩:=p
      rw [qb_ok rfl]
      simp only
      unfold fneed
      by_cases q:sg (hd r) [41]=true
      ·rw [if_pos q,if_pos q]; rfl
      ·rw [if_neg q,if_neg q]; rfl
    refine cle rfl rfl (A.is (obj1 h2 _ _) [40] true c3) ?_
    refine goD ?_
    refine so (rows':=[[.view 4 (ts.map tokRow) .shared,.int .i64 ((a + 1:Nat):Int),.int .i64 0,.int .i64 0]]) rfl rfl rfl hM rfl rfl rfl rfl rfl ?_
    rw [push1 h2]
    refine goD ?_
    refine cl rfl rfl (hE k (Nat.le_refl _) 1 (d + 1) (a + 1) o _ (by decide) (by decide) (by omega) ha1 (by omega) (obj1 h2 _ _)) fun v st' ⟨x,b,ln,e,hv,hb2,hst,hr⟩=>?_
    subst hst
    rw [push1 h2]
    obtain ⟨op,num,name,field,args,hx⟩:=xrow_ex x
    unfold VX xv at hv
    rw [hx] at hv
    subst hv
    refine goD ?_
    refine cl rfl rfl (rtake_u H hr hb2 (obj1 h2 _ _) [41] rfl) fun v st' ⟨_,b3,ln3,e3,_,hb3,hst,hr3⟩=>?_
    subst hst
    rw [push1 h2]
    refine goD ?_
    refine so (rows':=[exRow op num name field (.view 6 args .shared)]) rfl rfl rfl (St.obj_set _ _ _) rfl rfl rfl rfl rfl ?_
    rw [St.set_set]
    refine goD ?_
    refine AWP.ret (rets (resCW rfl (St.obj_set _ _ _) rfl rfl rfl rfl) (.refl _) (drop1 h2 _ _) ⟨x,b3,ln3,e3,?_,hb3,rfl,?_⟩)
    ·show AV.agg _=AV.agg (xrow x)
     rw [hx] <;> rfl
    ·have:=hr3.map fun p=>p.1
     rw [e0]
     simpa only [qp,qb_qb,qb_ret] using this
   | false =>
    have s3:=c3
    rw [wk_sg A.ok rfl] at s3
    have k1:t.kind=1:=by
     rcases beg_cases hb with h|h|⟨h,k|k|k⟩
     ·exact h
     ·exact absurd h c2
     ·rw [show sg t [45]=true from decide_eq_true ⟨h,k⟩] at s1; cases s1
     ·rw [show sg t [33]=true from decide_eq_true ⟨h,k⟩] at s2; cases s2
     ·rw [show sg t [40]=true from decide_eq_true ⟨h,k⟩] at s3; cases s3
    refine cle rfl rfl (A.is (obj1 h2 _ _) [40] false c3) ?_
    refine goD ?_
    refine cl rfl rfl (rtarget_ok H hE (by omega) (obj1 h2 _ _) ha (by omega)) fun v st' ⟨x,b,ln,e,hv,hb2,hst,hr⟩=>?_
    subst hst
    rw [push1 h2]
    obtain ⟨op,num,name,field,args,hx⟩:=xrow_ex x
    unfold VX xv at hv
    rw [hx] at hv
    subst hv
    refine so (rows':=[exRow op num name field (.view 6 args .shared)]) rfl rfl rfl (St.obj_set _ _ _) rfl rfl rfl rfl rfl ?_
    rw [St.set_set]
    refine goD ?_
    refine AWP.ret (rets (resCW rfl (St.obj_set _ _ _) rfl rfl rfl rfl) (.refl _) (drop1 h2 _ _) ⟨x,b,ln,e,?_,hb2,rfl,by rw [fo_name (by rw [A.hd_]; exact k1) h8]; exact hr⟩)
    show AV.agg _=AV.agg (xrow x)
    rw [hx] <;> rfl
end Go.Proofs
namespace Go.Proofs
open Go.AM
attribute [local irreducible] AWP AOps AAny ACalls

abbrev zE:AObj:=.cells 95 6 [exRow 0 0 [] [] nilV]
theorem runary_err {X:List (List AV)} {a ln e o:Nat} {st:St} (ho:st.obj o=some (rsC X a ln e)) (he:e=5∨e=7) (d:Nat) :
  ACalls Tryz.prog 116 [.cptr o 4 0 0,.int .i64 (d:Int)] st (fun v st'=>v=.agg (exRow 0 0 [] [] nilV)∧st'=st) (fun _ _=>False):=by
 refine ACalls.inSet ho (ACalls.ofBody Tryz.func116 rfl Tryz.ntmps116 rfl ?_)
 have he0:¬ (e:Int)=0:=by omega
 refine goC ?_
 refine rg ?_
 refine al rfl rfl fun o2 h2=>?_
 replace h2:=none_set h2
 have hM:((st.set o (rsC X a ln e)).set o2 zE).obj o=some (.cells 69 4 [[.view 4 X .shared,.int .i64 (a:Int),.int .i64 (ln:Int),.int .i64 (e:Int)]]):=obj1 h2 _ _
 refine goD ?_
 refine bds (cs:=exRow 0 0 [] [] nilV) rfl rfl rfl rfl ?_
 refine so (rows':=[exRow 0 0 [] [] nilV]) rfl rfl rfl (St.obj_set _ _ _) rfl rfl rfl rfl rfl ?_
 rw [St.set_set]
 refine goD ?_
 exact AWP.ret (rets (resCW rfl (St.obj_set _ _ _) rfl rfl rfl rfl) (.refl _) (drop1 h2 _ _) ⟨rfl,St.set_same ho⟩)
theorem rexpr_err:∀ (j:Nat) {X:List (List AV)} {a ln e o:Nat} {st:St} (_:st.obj o=some (rsC X a ln e)) (_:e=5∨e=7) (lv d:Nat) (_:lv + j=5),
  ACalls Tryz.prog 104 [.cptr o 4 0 0,.int .i64 (lv:Int),.int .i64 (d:Int)] st (fun v st'=>v=.agg (exRow 0 0 [] [] nilV)∧st'=st) (fun _ _=>False):=by
 intro j X a ln e o st ho he lv d hj
 refine ACalls.inSet ho (ACalls.ofBody Tryz.func104 rfl Tryz.ntmps104 rfl ?_)
 have he0:¬ (e:Int)=0:=by omega
 refine goC ?_
 refine rg ?_
 refine al rfl rfl fun o2 h2=>?_
 replace h2:=none_set h2
 refine goC ?_
 refine rg ?_
 refine al rfl rfl fun o3 h3=>?_
 replace h3:=none_set2 h3
 have hM:(((st.set o (rsC X a ln e)).set o2 zE).set o3 zE).obj o=some (.cells 69 4 [[.view 4 X .shared,.int .i64 (a:Int),.int .i64 (ln:Int),.int .i64 (e:Int)]]):=obj2 h2 h3 _ _ _
 refine nl ?_
 refine AWP.seq ?_
 refine midk [(7,.cptr o3 6 0 0),(6,.cptr o2 6 0 0),(2,.int .i64 (d:Int)),(1,.int .i64 (lv:Int)),(0,.cptr o 4 0 0)] (((st.set o (rsC X a ln e)).set o2 zE).set o3 zE) ?_ ?_
 ·by_cases h5:lv=5
  ·have h5':(lv:Int)=5:=by omega
   refine goD ?_
   refine cl rfl rfl (runary_err (obj2 h2 h3 _ _ _) he d) fun v st' ⟨hv,hst⟩=>?_
   subst hv
   subst hst
   refine so (rows':=[exRow 0 0 [] [] nilV]) rfl rfl rfl (St.obj_set _ _ _) rfl rfl rfl rfl rfl ?_
   rw [St.set_set]
   refine nl ⟨(tl5 rfl rfl rfl rfl rfl),.refl _⟩
  ·have h5':¬ (lv:Int)=5:=by omega
   refine goD ?_
   obtain ⟨j,rfl⟩:∃ i,j=i + 1:=⟨j - 1,by omega⟩
   refine cl rfl rfl (rexpr_err j (obj2 h2 h3 _ _ _) he (lv + 1) d (by omega)) fun v st' ⟨hv,hst⟩=>?_
   subst hv
   subst hst
   refine so (rows':=[exRow 0 0 [] [] nilV]) rfl rfl rfl (St.obj_set _ _ _) rfl rfl rfl rfl rfl ?_
   rw [St.set_set]
   refine nl ⟨(tl5 rfl rfl rfl rfl rfl),.refl _⟩
 refine goD ?_
 refine AWP.loop (α:=Unit) (fun _=>[(7,.cptr o3 6 0 0),(6,.cptr o2 6 0 0),(1,.int .i64 (lv:Int)),(0,.cptr o 4 0 0)]) (fun _=>((st.set o (rsC X a ln e)).set o2 zE).set o3 zE) (fun _=>True) (fun _=>0) () trivial (tl4 rfl rfl rfl rfl) (.refl _) ?_
 intro _ _
 refine AWP.weaken (T':=[(7,.cptr o3 6 0 0),(6,.cptr o2 6 0 0),(1,.int .i64 (lv:Int)),(0,.cptr o 4 0 0)]) (st':=((st.set o (rsC X a ln e)).set o2 zE).set o3 zE) (tl4 rfl rfl rfl rfl) (.refl _) ?_
 refine goD ?_
 refine AWP.exit (blk_hit ?_)
 refine goD ?_
 refine soU rfl (Ne.symm (set_ne_new (h3 ob0 ob0))) rfl rfl rfl rfl rfl ?_
 refine goD ?_
 exact AWP.ret (rets (resCW rfl (St.obj_under (Ne.symm (set_ne_new (h3 ob0 ob0))) _ _) rfl rfl rfl rfl) (.refl _) (drop2 h2 h3 _ _ _) ⟨rfl,St.set_same ho⟩)
set_option maxHeartbeats 1000000 in
theorem rexpr_step {ts:List Tk} (H:RdT ts) {k:Nat} (hE:RfeOk ts k) (hU:RfoOk ts k) {lv d a o:Nat} {st:St} (h1:1≤lv) (h5:lv≤5) (hd9:d≤9) (ho:st.obj o=some (rsC (ts.map tokRow) a 0 0)) (ha:a < ts.length) (hk:7 * (ts.length - a) + (6 - lv) < k + 1) :
  ACalls Tryz.prog 104 [.cptr o 4 0 0,.int .i64 (lv:Int),.int .i64 (d:Int)] st (RfR ts o st VX (fe (k + 1) lv d (ts.drop a))) (fun _ _=>False):=by
 refine ACalls.inSet ho (ACalls.ofBody Tryz.func104 rfl Tryz.ntmps104 rfl ?_)
 have hlen:=H.len
 refine goC ?_
 refine rg ?_
 refine al rfl rfl fun o2 h2=>?_
 replace h2:=none_set h2
 refine goC ?_
 refine rg ?_
 refine al rfl rfl fun o3 h3=>?_
 replace h3:=none_set2 h3
 have n3:o2≠o3:=set_ne_new (h3 ob0 ob0)
 by_cases h55:lv=5
 ·subst h55
  refine goD ?_
  refine cl rfl rfl (hU k (Nat.le_refl _) d a o _ hd9 ha (by omega) (obj2 h2 h3 _ _ _)) fun v st' ⟨x,b,ln,e,hv,hb,hst,hr⟩=>?_
  subst hst
  rw [push2 h2 h3]
  obtain ⟨op,num,name,field,args,hx⟩:=xrow_ex x
  unfold VX xv at hv
  rw [hx] at hv
  subst hv
  refine so (rows':=[exRow op num name field (.view 6 args .shared)]) rfl rfl rfl (St.obj_set _ _ _) rfl rfl rfl rfl rfl ?_
  rw [St.set_set]
  refine goD ?_
  refine AWP.loop (α:=Unit) (fun _=>[(7,.cptr o3 6 0 0),(6,.cptr o2 6 0 0),(1,.int .i64 5),(0,.cptr o 4 0 0)]) (fun _=>((st.set o (rsC (ts.map tokRow) b ln e)).set o2 zE).set o3 (.cells 95 6 [exRow op num name field (.view 6 args .shared)])) (fun _=>True) (fun _=>0) () trivial (tl4 rfl rfl rfl rfl) (.refl _) ?_
  intro _ _
  refine AWP.weaken (T':=[(7,.cptr o3 6 0 0),(6,.cptr o2 6 0 0),(1,.int .i64 5),(0,.cptr o 4 0 0)]) (st':=((st.set o (rsC (ts.map tokRow) b ln e)).set o2 zE).set o3 (.cells 95 6 [exRow op num name field (.view 6 args .shared)])) (tl4 rfl rfl rfl rfl) (.refl _) ?_
  have hM:(((st.set o (rsC (ts.map tokRow) b ln e)).set o2 zE).set o3 (.cells 95 6 [exRow op num name field (.view 6 args .shared)])).obj o=some (.cells 69 4 [[.view 4 (ts.map tokRow) .shared,.int .i64 (b:Int),.int .i64 (ln:Int),.int .i64 (e:Int)]]):=obj2 h2 h3 _ _ _
  by_cases he:e=0
  ·subst he
   refine goD ?_
   refine AWP.exit (blk_hit ?_)
   refine goD ?_
   refine soU rfl (Ne.symm n3) rfl rfl rfl rfl rfl ?_
   refine goD ?_
   refine AWP.ret (rets (resCW rfl (St.obj_under (Ne.symm n3) _ _) rfl rfl rfl rfl) (.refl _) (drop2 h2 h3 _ _ _) ⟨x,b,ln,0,?_,hb,rfl,by rw [fe,if_pos (Nat.le_refl _)]; exact hr⟩)
   show AV.agg _=AV.agg (xrow x)
   rw [hx] <;> rfl
  ·have he0:¬ (e:Int)=0:=by omega
   refine goD ?_
   refine AWP.exit (blk_hit ?_)
   refine goD ?_
   refine soU rfl (Ne.symm n3) rfl rfl rfl rfl rfl ?_
   refine goD ?_
   refine AWP.ret (rets (resCW rfl (St.obj_under (Ne.symm n3) _ _) rfl rfl rfl rfl) (.refl _) (drop2 h2 h3 _ _ _) ⟨x,b,ln,e,?_,hb,rfl,by rw [fe,if_pos (Nat.le_refl _)]; exact hr⟩)
   show AV.agg _=AV.agg (xrow x)
   rw [hx] <;> rfl
 have h4:lv≤4:=by omega
 have h55':¬ (lv:Int)=5:=by omega
 refine goD ?_
 refine cl rfl rfl (hE k (Nat.le_refl _) (lv + 1) d a o _ (by omega) (by omega) hd9 ha (by omega) (obj2 h2 h3 _ _ _)) fun v st' ⟨x,b,ln,e,hv,hb,hst,hr⟩=>?_
 subst hst
 rw [push2 h2 h3]
 obtain ⟨op,num,name,field,args,hx⟩:=xrow_ex x
 unfold VX xv at hv
 rw [hx] at hv
 subst hv
 refine so (rows':=[exRow op num name field (.view 6 args .shared)]) rfl rfl rfl (St.obj_set _ _ _) rfl rfl rfl rfl rfl ?_
 rw [St.set_set,← hx]
 have hfe:fe (k + 1) lv d (ts.drop a)=qb (fe k (lv + 1) d (ts.drop a)) fun x r=>fl k lv d x r:=by
  rw [fe,if_neg (by omega)]
  cases fe k (lv + 1) d (ts.drop a) <;> rfl
 have hba:∀ x,fe k (lv + 1) d (ts.drop a)=.ok (x,ts.drop b)→a < b:=fun x h=>by
  have:=(fe_all k).1 (lv + 1) d (ts.drop a) (by omega) (by omega) (by rw [List.length_drop]; omega)
  rw [h] at this
  exact drop_lt ha this
 refine goD ?_
 refine AWP.loop (α:=Xp × Nat × Nat × Nat × Nat) (fun _=>[(7,.cptr o3 6 0 0),(6,.cptr o2 6 0 0),(2,.int .i64 (d:Int)),(1,.int .i64 (lv:Int)),(0,.cptr o 4 0 0)])
  (fun y=>((st.set o (rsC (ts.map tokRow) y.2.1 y.2.2.1 y.2.2.2.1)).set o2 zE).set o3 (.cells 95 6 [xrow y.1]))
  (fun y=>y.2.1 < ts.length∧((y.2.2.2.1=0∧y.2.2.1=0∧y.2.2.2.2≤k∧7 * (ts.length - y.2.1) < y.2.2.2.2∧fe (k + 1) lv d (ts.drop a)=fl y.2.2.2.2 lv d y.1 (ts.drop y.2.1))∨((y.2.2.2.1=5∨y.2.2.2.1=7)∧∃ t,fe (k + 1) lv d (ts.drop a)=.error (y.2.2.2.1,t)∧y.2.2.1=(hd t).line)))
  (fun y=>if y.2.2.2.1=0 then ts.length - y.2.1 + 1 else 0) (x,b,ln,e,k) ⟨hb,?_⟩ (tl5 rfl rfl rfl rfl rfl) (.refl _) ?_
 ·rcases hr with ⟨k1,k2,k3⟩|⟨k1,t,k3,k4⟩
  ·have:=hba _ k3
   exact .inl ⟨k1,k2,Nat.le_refl _,by simp only; omega,by rw [hfe,qb_ok k3]⟩
  ·exact .inr ⟨k1,t,by rw [hfe,qb_err k3],k4⟩
 rintro ⟨y,c,ln2,e2,fu⟩ ⟨hc,hI⟩
 simp only at hc hI
 obtain ⟨op2,num2,name2,field2,args2,hy⟩:=xrow_ex y
 refine AWP.weaken (T':=[(7,.cptr o3 6 0 0),(6,.cptr o2 6 0 0),(2,.int .i64 (d:Int)),(1,.int .i64 (lv:Int)),(0,.cptr o 4 0 0)]) (st':=((st.set o (rsC (ts.map tokRow) c ln2 e2)).set o2 zE).set o3 (.cells 95 6 [exRow op2 num2 name2 field2 (.view 6 args2 .shared)])) (tl5 rfl rfl rfl rfl rfl) (by rw [← hy]; exact .refl _) ?_
 have hM:(((st.set o (rsC (ts.map tokRow) c ln2 e2)).set o2 zE).set o3 (.cells 95 6 [exRow op2 num2 name2 field2 (.view 6 args2 .shared)])).obj o=some (.cells 69 4 [[.view 4 (ts.map tokRow) .shared,.int .i64 (c:Int),.int .i64 (ln2:Int),.int .i64 (e2:Int)]]):=obj2 h2 h3 _ _ _
 rcases hI with ⟨rfl,rfl,k3,k4,k5⟩|⟨he,u,k3,k4⟩
 ·obtain ⟨t,A⟩:=at_of H hc
  obtain ⟨fu,rfl⟩:∃ f,fu=f + 1:=⟨fu - 1,by omega⟩
  rw [fl,A.hd_,A.tl] at k5
  refine goD ?_
  refine cle rfl rfl (rlevel_ok A (obj2 h2 h3 _ _ _)) ?_
  by_cases hn:(bin t).1=lv
  ·rw [if_pos hn] at k5
   have hn':((bin t).1:Int)=(lv:Int):=by omega
   have hk0:t.kind≠0:=fun e=>by
    have:(bin t).1=0:=by
     unfold bin
     rw [List.find?_eq_none.2 fun x _=>by rw [show sg t x.1=false from decide_eq_false fun h=>by omega]; decide]
     rfl
    omega
   have hc1:=A.more hk0
   refine goD ?_
   refine so (rows':=[[.view 4 (ts.map tokRow) .shared,.int .i64 ((c + 1:Nat):Int),.int .i64 0,.int .i64 0]]) rfl rfl rfl hM rfl rfl rfl rfl rfl ?_
   rw [push2 h2 h3]
   refine goD ?_
   refine cl rfl rfl (hE fu (by omega) (lv + 1) d (c + 1) o _ (by omega) (by omega) hd9 hc1 (by omega) (obj2 h2 h3 _ _ _)) fun v st' ⟨z,b2,ln3,e3,hv,hb2,hst,hr2⟩=>?_
   subst hst
   rw [push2 h2 h3]
   obtain ⟨op3,num3,name3,field3,args3,hz⟩:=xrow_ex z
   unfold VX xv at hv
   rw [hz] at hv
   subst hv
   refine goD ?_
   refine bsh (cs:=exRow op2 num2 name2 field2 (.view 6 args2 .shared)++exRow op3 num3 name3 field3 (.view 6 args3 .shared)) rfl rfl rfl rfl rfl ?_
   refine bds (cs:=exRow ((bin t).2:Int) 0 [] [] (.view 6 [exRow op2 num2 name2 field2 (.view 6 args2 .shared),exRow op3 num3 name3 field3 (.view 6 args3 .shared)] .shared)) rfl rfl rfl rfl ?_
   refine so (rows':=[exRow ((bin t).2:Int) 0 [] [] (.view 6 [exRow op2 num2 name2 field2 (.view 6 args2 .shared),exRow op3 num3 name3 field3 (.view 6 args3 .shared)] .shared)]) rfl rfl rfl (St.obj_set _ _ _) rfl rfl rfl rfl rfl ?_
   rw [St.set_set]
   have hrow:exRow ((bin t).2:Int) 0 [] [] (.view 6 [exRow op2 num2 name2 field2 (.view 6 args2 .shared),exRow op3 num3 name3 field3 (.view 6 args3 .shared)] .shared)=xrow (.bin (bin t).2 y z):=by
    rw [xrow,hy,hz]
   by_cases hl1:lv=1
   ·have hl1':(lv:Int)=1:=by omega
    refine goD ?_
    refine soU rfl (Ne.symm n3) rfl rfl rfl rfl rfl ?_
    refine goD ?_
    refine AWP.ret (rets (resCW rfl (St.obj_under (Ne.symm n3) _ _) rfl rfl rfl rfl) (.refl _) (drop2 h2 h3 _ _ _) ⟨.bin (bin t).2 y z,b2,ln3,e3,?_,hb2,rfl,?_⟩)
    ·show AV.agg _=AV.agg (xrow (.bin (bin t).2 y z))
     rw [← hrow] <;> rfl
    ·refine hr2.to (fun h=>?_) (fun q h=>?_)
     ·rw [k5,h]; simp only; rw [if_pos hl1]
     ·rw [k5,h]
   ·have hl1':¬ (lv:Int)=1:=by omega
    refine goD ?_
    refine ⟨(.bin (bin t).2 y z,b2,ln3,e3,fu),⟨hb2,?_⟩,?_,(tl5 rfl rfl rfl rfl rfl),by rw [hrow]; exact .refl _⟩
    ·simp only
     rcases hr2 with ⟨q1,q2,q3⟩|⟨q1,u,q3,q4⟩
     ·have hcb:c + 1 < b2:=by
       have:=(fe_all fu).1 (lv + 1) d (ts.drop (c + 1)) (by omega) (by omega) (by rw [List.length_drop]; omega)
       rw [q3] at this
       exact drop_lt hc1 this
      exact .inl ⟨q1,q2,by omega,by omega,by rw [k5,q3]; simp only; rw [if_neg hl1]⟩
     ·exact .inr ⟨q1,u,by rw [k5,q3],q4⟩
    ·simp only [if_pos]
     rcases hr2 with ⟨q1,q2,q3⟩|⟨q1,u,q3,q4⟩
     ·have hcb:c + 1 < b2:=by
       have:=(fe_all fu).1 (lv + 1) d (ts.drop (c + 1)) (by omega) (by omega) (by rw [List.length_drop]; omega)
       rw [q3] at this
       exact drop_lt hc1 this
      rw [if_pos q1]
      omega
     ·rw [if_neg (by omega)]
      omega
  ·rw [if_neg hn] at k5
   have hn':¬ ((bin t).1:Int)=(lv:Int):=by omega
   refine goD ?_
   refine soU rfl (Ne.symm n3) rfl rfl rfl rfl rfl ?_
   refine goD ?_
   refine AWP.ret (rets (resCW rfl (St.obj_under (Ne.symm n3) _ _) rfl rfl rfl rfl) (.refl _) (drop2 h2 h3 _ _ _) ⟨y,c,0,0,?_,hc,rfl,.ok k5⟩)
   show AV.agg _=AV.agg (xrow y)
   rw [hy] <;> rfl
 ·have he0:¬ (e2:Int)=0:=by omega
  refine goD ?_
  refine AWP.exit (blk_hit ?_)
  refine goD ?_
  refine soU rfl (Ne.symm n3) rfl rfl rfl rfl rfl ?_
  refine goD ?_
  refine AWP.ret (rets (resCW rfl (St.obj_under (Ne.symm n3) _ _) rfl rfl rfl rfl) (.refl _) (drop2 h2 h3 _ _ _) ⟨y,c,ln2,e2,?_,hc,rfl,.inr ⟨he,u,k3,k4⟩⟩)
  show AV.agg _=AV.agg (xrow y)
  rw [hy] <;> rfl
theorem rfe_ok {ts:List Tk} (H:RdT ts):∀ K,RfeOk ts K∧RfoOk ts K
 | 0=>⟨fun k hk lv d a o st h1 h5 hd ha hb=>by omega,fun k hk d a o st hd ha hb=>by omega⟩
 | K + 1=>by
  obtain ⟨hE,hU⟩:=rfe_ok H K
  refine ⟨fun k hk lv d a o st h1 h5 hd ha hb ho=>?_,fun k hk d a o st hd ha hb ho=>?_⟩
  ·rcases Nat.lt_or_ge k (K + 1) with h|h
   ·exact hE k (by omega) lv d a o st h1 h5 hd ha hb ho
   ·obtain rfl:k=K + 1:=by omega
    exact rexpr_step H hE hU h1 h5 hd ho ha hb
  ·rcases Nat.lt_or_ge k (K + 1) with h|h
   ·exact hU k (by omega) d a o st hd ha hb ho
   ·obtain rfl:k=K + 1:=by omega
    exact runary_step H hE hU hd ho ha hb
theorem rexpr_ok {ts:List Tk} (H:RdT ts) {a o:Nat} {st:St} (ho:st.obj o=some (rsC (ts.map tokRow) a 0 0)) (ha:a < ts.length) :
  ACalls Tryz.prog 104 [.cptr o 4 0 0,.int .i64 1,.int .i64 0] st (RfR ts o st VX (qx (ts.drop a))) (fun _ _=>False) :=
 (rfe_ok H _).1 _ (Nat.le_refl _) 1 0 a o st (by decide) (by decide) (by decide) ha (by rw [List.length_drop]; omega) ho
theorem rtarget_ok0 {ts:List Tk} (H:RdT ts) {a o:Nat} {st:St} (ho:st.obj o=some (rsC (ts.map tokRow) a 0 0)) (ha:a < ts.length) :
  ACalls Tryz.prog 120 [.cptr o 4 0 0,.int .i64 0] st (RfR ts o st VX (qt (ts.drop a))) (fun _ _=>False) :=
 rtarget_ok H (rfe_ok H _).1 (by decide) ho ha (by rw [List.length_drop]; omega)
end Go.Proofs
namespace Go.Proofs
open Go.AM
attribute [local irreducible] AWP AOps AAny ACalls

theorem rcall_ok {ts:List Tk} (H:RdT ts) {a ln e o:Nat} {st:St} (ho:st.obj o=some (rsC (ts.map tokRow) a ln e)) (ha:a < ts.length) (b:Bool) (hb:seesC (ts.drop a)=b) :
  ACalls Tryz.prog 118 [.cptr o 4 0 0] st (fun v st'=>v=.bool b∧st'=st) (fun _ _=>False):=by
 refine ACalls.ofBody Tryz.func118 rfl Tryz.ntmps118 rfl ?_
 obtain ⟨t,A⟩:=at_of H ha
 have hl:(ts.map tokRow).length≤100000:=by rw [List.length_map]; exact H.len
 subst hb
 unfold seesC
 rw [A.hd_,A.tl]
 refine goD ?_
 by_cases h1:t.kind=1
 ·refine cle rfl rfl (A.kd ho 1 true (decide_eq_true h1)) ?_
  rw [decide_eq_true h1]
  have ha1:=A.more (by rw [h1]; decide)
  obtain ⟨u,u1,u2,u3,u4,u5⟩:=map_at ha1
  rw [u3]
  refine goD ?_
  refine cle rfl rfl (ris_ok (k:=1) ho u4 u2 hl [40] (sg u [40]) (wk_sg (H.tk u (List.mem_of_getElem? u1)) rfl)) ?_
  refine goD ?_
  exact AWP.ret (rets rfl (.refl _) (.refl _) ⟨rfl,rfl⟩)
 ·refine cle rfl rfl (A.kd ho 1 false (decide_eq_false h1)) ?_
  rw [decide_eq_false h1]
  refine goD ?_
  exact AWP.ret (rets rfl (.refl _) (.refl _) ⟨rfl,rfl⟩)
def fargl (ts:List Tk):QR (List Xp) :=
 qb (fneed [40] ts) fun _ r2=>if sg (hd r2) [41] then .ok ([],r2.tail)
  else qb (qx r2) fun x r3=>qb (fargs (r3.length + 1) [x] r3) fun l r4=>qb (fneed [41] r4) fun _ r5=>.ok (l,r5)
theorem fcall_eq (ts:List Tk):fcall ts=qb (fname ts) fun n r=>qb (fargl r) fun l r2=>.ok ((n,l),r2):=by
 unfold fcall fargl
 congr 1
 funext n r
 rw [qb_qb]
 congr 1
 funext _ r2
 by_cases h:sg (hd r2) [41]=true
 ·rw [if_pos h,if_pos h]; rfl
 ·rw [if_neg h,if_neg h]
  simp only [qb_qb,qb_ret]
def VL (v:AV) (l:List Xp):Prop:=v=nlv (xrows l)
theorem nlv_ne {l:List Xp} (h:0 < l.length):nlv (xrows l)=.view 6 (xrows l) .shared:=by
 unfold nlv
 rw [if_neg (fun e=>by have:=congrArg List.length e; rw [xrows_len,List.length_nil] at this; omega)]
set_option maxHeartbeats 1000000 in
theorem rargs_ok {ts:List Tk} (H:RdT ts) {a0 o:Nat} {st:St} (ho:st.obj o=some (rsC (ts.map tokRow) a0 0 0)) (ha0:a0 < ts.length) (hp:sg (hd (ts.drop a0)) [40]=true) :
  ACalls Tryz.prog 119 [.cptr o 4 0 0] st (RfR ts o st VL (fargl (ts.drop a0))) (fun _ _=>False):=by
 refine ACalls.inSet ho (ACalls.ofBody Tryz.func119 rfl Tryz.ntmps119 rfl ?_)
 have hlen:=H.len
 obtain ⟨t0,A0⟩:=at_of H ha0
 rw [A0.hd_] at hp
 have hw0:wk t0 [40]=true:=by rw [wk_sg A0.ok rfl]; exact hp
 have ha1:=A0.more (wk_kind hw0)
 have e0:fargl (ts.drop a0)=if sg (hd (ts.drop (a0 + 1))) [41] then .ok ([],(ts.drop (a0 + 1)).tail) else qb (qx (ts.drop (a0 + 1))) fun x r3=>qb (fargs (r3.length + 1) [x] r3) fun l r4=>qb (fneed [41] r4) fun _ r5=>.ok (l,r5):=by
  rw [fargl,fneed,A0.hd_,hp,if_pos rfl,qb_ok rfl,A0.tl]
 obtain ⟨t,A⟩:=at_of H ha1
 rw [A.hd_,A.tl] at e0
 refine goD ?_
 refine cl rfl rfl (rtake_t H A0 (St.obj_set _ _ _) ha0 hw0) fun v st' hst=>?_
 subst hst
 rw [St.set_set]
 have hM:(st.set o (rsC (ts.map tokRow) (a0 + 1) 0 0)).obj o=some (.cells 69 4 [[.view 4 (ts.map tokRow) .shared,.int .i64 ((a0 + 1:Nat):Int),.int .i64 0,.int .i64 0]]):=St.obj_set _ _ _
 cases c1:wk t [41] with
 | true =>
  rw [if_pos (by rw [← wk_sg A.ok rfl]; exact c1)] at e0
  have ha2:=A.more (wk_kind c1)
  refine goD ?_
  refine cle rfl rfl (A.is (St.obj_set _ _ _) [41] true c1) ?_
  refine goD ?_
  refine cl rfl rfl (rtake_t H A (St.obj_set _ _ _) ha1 c1) fun v st' hst=>?_
  subst hst
  rw [St.set_set]
  refine goD ?_
  exact AWP.ret (rets rfl (.refl _) (.refl _) ⟨[],a0 + 1 + 1,0,0,rfl,ha2,rfl,.ok e0⟩)
 | false =>
  rw [if_neg (by rw [← wk_sg A.ok rfl,c1]; decide)] at e0
  refine goD ?_
  refine cle rfl rfl (A.is (St.obj_set _ _ _) [41] false c1) ?_
  refine goE ?_
  refine nl ?_
  skip
  refine AWP.nilTok 3 95 6 rfl fun tk htk=>?_
  have hMt:∀ a ln e,((st.set o (rsC (ts.map tokRow) a ln e)).addTok tk).obj o=some (rsC (ts.map tokRow) a ln e):=fun _ _ _=>St.obj_set _ _ _
  have hset:∀ tk c r,((st.set o c).addTok tk).set o r=(st.set o r).addTok tk:=fun tk _ _=>by
   show ((st.addTok tk).set o _).set o _=(st.addTok tk).set o _
   rw [St.set_set]
  refine goD ?_
  refine cl rfl rfl (rexpr_ok H (hMt _ _ _) ha1) fun v st' ⟨x,b,ln,e,hv,hb,hst,hr⟩=>?_
  subst hst
  rw [hset]
  obtain ⟨op,num,name,field,args,hx⟩:=xrow_ex x
  unfold VX xv at hv
  rw [hx] at hv
  subst hv
  refine bs1 (v:=.agg (exRow op num name field (.view 6 args .shared))) rfl rfl rfl rfl rfl rfl ?_
  refine ap rfl rfl rfl (St.tok_addTok _ _) rfl (by exact Nat.le_of_ble_eq_true rfl) (by simp only [List.length_cons,List.length_nil,maxLen]; omega) fun tk2 htk2=>?_
  have hx1:[]++[(AV.agg (exRow op num name field (.view 6 args .shared))).cells]=xrows [x]:=by show [exRow op num name field (.view 6 args .shared)]=[xrow x]; rw [hx]
  rw [hx1]
  refine goD ?_
  generalize hR:fargl (ts.drop a0)=R at e0 ⊢
  refine AWP.loop (α:=List Xp × Nat × Nat × Nat × Nat × Nat) (fun y=>[(3,.view 6 (xrows y.1) (.own y.2.2.2.2.1 95)),(0,.cptr o 4 0 0)]) (fun y=>(st.set o (rsC (ts.map tokRow) y.2.1 y.2.2.1 y.2.2.2.1)).addTok y.2.2.2.2.1)
   (fun y=>y.2.1 < ts.length∧st.tok y.2.2.2.2.1=false∧0 < y.1.length∧y.1.length≤ts.length + 1∧((y.2.2.2.1=0∧y.2.2.1=0∧y.1.length≤y.2.1∧(ts.drop y.2.1).length < y.2.2.2.2.2∧R=qb (fargs y.2.2.2.2.2 y.1 (ts.drop y.2.1)) fun l r4=>qb (fneed [41] r4) fun _ r5=>.ok (l,r5))∨((y.2.2.2.1=5∨y.2.2.2.1=7)∧∃ t,R=.error (y.2.2.2.1,t)∧y.2.2.1=(hd t).line)))
   (fun y=>if y.2.2.2.1=0 then ts.length - y.2.1 + 1 else 0) ([x],b,ln,e,tk2,(ts.drop b).length + 1) ⟨hb,St.tok_of_add htk2,by simp only [List.length_cons,List.length_nil]; omega,by simp only [List.length_cons,List.length_nil]; omega,?_⟩ (tl2 rfl rfl) (StLe.reTok (st:=st.set o (rsC (ts.map tokRow) b ln e)) htk tk2) ?_
  ·rcases hr with ⟨k1,k2,k3⟩|⟨k1,t,k3,k4⟩
   ·have:=drop_lt ha1 (qx_lt k3)
    exact .inl ⟨k1,k2,by simp only [List.length_cons,List.length_nil]; omega,by simp only [List.length_drop]; omega,by rw [e0,qb_ok k3]⟩
   ·exact .inr ⟨k1,t,by rw [e0,qb_err k3],k4⟩
  rintro ⟨l,c,ln2,e2,tk3,fu⟩ ⟨h2,h3,h30,h4,h6⟩
  simp only at h2 h3 h30 h4 h6
  refine AWP.weaken (T':=[(3,.view 6 (xrows l) (.own tk3 95)),(0,.cptr o 4 0 0)]) (st':=(st.set o (rsC (ts.map tokRow) c ln2 e2)).addTok tk3) (tl2 rfl rfl) (.refl _) ?_
  have hok:∀ a ln e,((st.set o (rsC (ts.map tokRow) a ln e)).addTok tk3).obj o=some (rsC (ts.map tokRow) a ln e):=fun _ _ _=>St.obj_set _ _ _
  have hM3:((st.set o (rsC (ts.map tokRow) c ln2 e2)).addTok tk3).obj o=some (.cells 69 4 [[.view 4 (ts.map tokRow) .shared,.int .i64 (c:Int),.int .i64 (ln2:Int),.int .i64 (e2:Int)]]):=hok _ _ _
  have fin:∀ (r0:QR (List Xp)),Rm ts r0 l c ln2 e2→R=(qb r0 fun l r4=>qb (fneed [41] r4) fun _ r5=>.ok (l,r5))→∀ b3 ln3 e3,Rm ts (qp r0 (fneed [41])) (l,()) b3 ln3 e3→Rm ts R l b3 ln3 e3:=fun r0 _ hq b3 ln3 e3 h=>by
   have:=h.map fun p=>p.1
   rw [hq]
   simpa only [qp,qb_qb,qb_ret] using this
  rcases h6 with ⟨rfl,rfl,k3,k4,k5⟩|⟨he,u,k3,k4⟩
  ·obtain ⟨t,A⟩:=at_of H h2
   obtain ⟨fu,rfl⟩:∃ f,fu=f + 1:=⟨fu - 1,by omega⟩
   rw [fargs,A.hd_,A.tl] at k5
   refine goD ?_
   cases hs:wk t [44] with
   | true =>
    rw [if_pos (by rw [← wk_sg A.ok rfl]; exact hs)] at k5
    have hk1:=A.more (wk_kind hs)
    refine cle rfl rfl (A.is (hok c 0 0) [44] true hs) ?_
    refine goD ?_
    refine so (rows':=[[.view 4 (ts.map tokRow) .shared,.int .i64 ((c + 1:Nat):Int),.int .i64 0,.int .i64 0]]) rfl rfl rfl hM3 rfl rfl rfl rfl rfl ?_
    rw [hset]
    refine goD ?_
    refine cl rfl rfl (rexpr_ok H (hok (c + 1) 0 0) hk1) fun v st' ⟨y,b2,ln3,e3,hv,hb2,hst,hr2⟩=>?_
    subst hst
    rw [hset]
    obtain ⟨op2,num2,name2,field2,args2,hy⟩:=xrow_ex y
    unfold VX xv at hv
    rw [hy] at hv
    subst hv
    refine bs1 (v:=.agg (exRow op2 num2 name2 field2 (.view 6 args2 .shared))) rfl rfl rfl rfl rfl rfl ?_
    refine ap rfl rfl rfl (St.tok_addTok _ _) rfl (by simp only [List.length_cons,List.length_nil,xrows_len]; omega) (by simp only [List.length_cons,List.length_nil,xrows_len,maxLen]; omega) fun tk' htk'=>?_
    have hm:xrows l++[(AV.agg (exRow op2 num2 name2 field2 (.view 6 args2 .shared))).cells]=xrows (l++[y]):=by
     unfold xrows
     rw [List.map_append]
     show _++[exRow op2 num2 name2 field2 (.view 6 args2 .shared)]=_++[xrow y]
     rw [hy]
    rw [hm]
    refine goD ?_
    refine ⟨(l++[y],b2,ln3,e3,tk',fu),⟨hb2,St.tok_of_add htk',by simp only [List.length_append,List.length_cons,List.length_nil]; omega,by simp only [List.length_append,List.length_cons,List.length_nil]; omega,?_⟩,?_,(tl2 rfl rfl),StLe.reTok (st:=st.set o (rsC (ts.map tokRow) b2 ln3 e3)) h3 tk'⟩
    ·simp only
     rcases hr2 with ⟨q1,q2,q3⟩|⟨q1,u,q3,q4⟩
     ·have:=drop_lt hk1 (qx_lt q3)
      exact .inl ⟨q1,q2,by simp only [List.length_append,List.length_cons,List.length_nil]; omega,by simp only [List.length_drop] at k4 ⊢; omega,by rw [k5,q3] <;> rfl⟩
     ·exact .inr ⟨q1,u,by rw [k5,q3] <;> rfl,q4⟩
    ·simp only [if_pos]
     rcases hr2 with ⟨q1,q2,q3⟩|⟨q1,u,q3,q4⟩
     ·have:=drop_lt hk1 (qx_lt q3)
      rw [if_pos q1]
      omega
     ·rw [if_neg (by omega)]
      omega
   | false =>
    rw [if_neg (by rw [← wk_sg A.ok rfl,hs]; decide)] at k5
    refine cle rfl rfl (A.is (hok c 0 0) [44] false hs) ?_
    refine goD ?_
    refine AWP.exit (blk_hit ?_)
    refine goD ?_
    refine cl rfl rfl (rtake_u H (.ok rfl:Rm ts (.ok (l,ts.drop c)) l c 0 0) h2 (hok _ _ _) [41] rfl) fun v st' ⟨_,b3,ln3,e3,_,hb3,hst,hr3⟩=>?_
    subst hst
    rw [hset]
    refine goD ?_
    exact AWP.ret (rets rfl (by rw [nlv_ne h30]; exact .shared _ _ _) (StLe.addTok _ (.refl _)) ⟨l,b3,ln3,e3,rfl,hb3,rfl,fin _ (.ok rfl) k5 _ _ _ hr3⟩)
  ·have he0:¬ (e2:Int)=0:=by omega
   refine goD ?_
   refine AWP.exit (blk_hit ?_)
   refine goD ?_
   refine cl rfl rfl (rtake_u H (.inr ⟨he,u,rfl,k4⟩:Rm ts (.error (e2,u)) l c ln2 e2) h2 (hok _ _ _) [41] rfl) fun v st' ⟨_,b3,ln3,e3,_,hb3,hst,hr3⟩=>?_
   subst hst
   rw [hset]
   refine goD ?_
   exact AWP.ret (rets rfl (by rw [nlv_ne h30]; exact .shared _ _ _) (StLe.addTok _ (.refl _)) ⟨l,b3,ln3,e3,rfl,hb3,rfl,fin _ (.inr ⟨he,u,rfl,k4⟩) (by rw [k3] <;> rfl) _ _ _ hr3⟩)
end Go.Proofs
namespace Go.Proofs
open Go.AM
attribute [local irreducible] AWP AOps AAny ACalls

def RsR {α:Type} (ts:List Tk) (o os:Nat) (st:St) (row:α→List AV) (r:QR α) (_:AV) (st':St):Prop :=
 ∃ x a ln e,a < ts.length∧st'=(st.set o (rsC (ts.map tokRow) a ln e)).set os (sC (row x))∧Rm ts r x a ln e
def RvR {α β:Type} (ts:List Tk) (o os:Nat) (st:St) (row:β→List AV) (r:QR α) (x:α) (f:List Tk→QR β) (_:AV) (st':St):Prop :=
 ∃ y a ln e,a < ts.length∧st'=(st.set o (rsC (ts.map tokRow) a ln e)).set os (sC (row y))∧Rm ts (qp r f) (x,y) a ln e
theorem RvR.of {α β:Type} {ts:List Tk} {o os:Nat} {F:FuncId} {args:List AV} {row:β→List AV} {f:List Tk→QR β} {r:QR α} {x:α} {a ln e:Nat} {st:St} (hm:Rm ts r x a ln e) (ha:a < ts.length) (ho:st.obj o=some (rsC (ts.map tokRow) a ln e))
  (live:st.obj o=some (rsC (ts.map tokRow) a 0 0)→ACalls Tryz.prog F args st (RsR ts o os st row (f (ts.drop a))) (fun _ _=>False))
  (dead:e=5∨e=7→ACalls Tryz.prog F args st (fun _ st'=>∃ y,st'=st.set os (sC (row y))) (fun _ _=>False)):ACalls Tryz.prog F args st (RvR ts o os st row r x f) (fun _ _=>False):=by
 rcases hm with ⟨rfl,rfl,hr⟩|⟨he,t,hr,hl⟩
 ·refine Go.Proofs.ACalls.toQ (live ho) fun v st' ⟨y,a',ln',e',h2,h3,h4⟩=>⟨y,a',ln',e',h2,h3,?_⟩
  unfold qp
  rw [qb_ok hr]
  rcases h4 with ⟨k1,k2,k3⟩|⟨k1,t,k3,k4⟩
  ·exact .inl ⟨k1,k2,by rw [qb_ok k3]⟩
  ·exact .inr ⟨k1,t,by rw [qb_err k3],k4⟩
 ·refine Go.Proofs.ACalls.toQ (dead he) fun v st' ⟨y,h2⟩=>⟨y,a,ln,e,ha,by rw [h2,St.set_same ho],?_⟩
  unfold qp
  exact .inr ⟨he,t,by rw [qb_err hr],hl⟩
def vRow (kind line:Int) (tgt:AV) (x:List UInt8 × List Xp):List AV:=aRow kind line tgt x.1 (nlv (xrows x.2))
theorem nlv_or (rows:List (List AV)):nlv rows=nilV∨nlv rows=.view 6 rows .shared:=by
 unfold nlv
 split
 ·exact .inl rfl
 ·exact .inr rfl
theorem nlv_one {x:Xp} {row:List AV} (h:xrow x=row):nlv (xrows [x])=.view 6 [row] .shared:=by
 rw [nlv_ne (by show 0 < 1; decide)]
 show AV.view 6 [xrow x] .shared=_
 rw [h]
set_option maxHeartbeats 1000000 in
theorem rvalue_ok {ts:List Tk} (H:RdT ts) {a o os:Nat} {st:St} {kind line:Int} {tgt:AV} (c:Bool) (hne:os≠o) (ho:st.obj o=some (rsC (ts.map tokRow) a 0 0)) (hs:st.obj os=some (sC (aRow kind line tgt [] nilV))) (ha:a < ts.length) :
  ACalls Tryz.prog 105 [.cptr o 4 0 0,.cptr os 13 0 0,.bool c] st (RsR ts o os st (vRow kind line tgt) (fval c (ts.drop a))) (fun _ _=>False):=by
 refine ACalls.inSet2 ho hs (ACalls.ofBody Tryz.func105 rfl Tryz.ntmps105 rfl ?_)
 have inn:∀ b z r,((st.set o b).set os z).set o r=(st.set o r).set os z:=fun b z r=>St.set_inner hne b r z
 have ob:∀ b z,((st.set o b).set os z).obj o=some b:=fun b z=>St.obj_under hne b z
 have hlen:=H.len
 clear ho hs
 unfold sC
 have hM:((st.set o (rsC (ts.map tokRow) a 0 0)).set os (.cells 41 13 [aRow kind line tgt [] nilV])).obj o=some (.cells 69 4 [[.view 4 (ts.map tokRow) .shared,.int .i64 (a:Int),.int .i64 0,.int .i64 0]]):=ob _ _
 by_cases hc:c=true∧seesC (ts.drop a)=true
 ·obtain ⟨rfl,hc⟩:=hc
  rw [fval,hc]
  show AWP _ _ _ _ _ _ _
  rw [Bool.and_self,if_pos rfl,fcall_eq]
  have hc':=hc
  unfold seesC at hc'
  rw [Bool.and_eq_true] at hc'
  obtain ⟨t,A⟩:=at_of H ha
  rw [A.hd_,A.tl] at hc'
  have k1:t.kind=1:=of_decide_eq_true hc'.1
  have ha1:=A.more (by rw [k1]; decide)
  refine goD ?_
  refine cle rfl rfl (rcall_ok H (ob _ _) ha true hc) ?_
  refine goD ?_
  refine cl rfl rfl (rname_ok H (ob _ _) ha) fun v st' ⟨n,b,ln,e,hv,hb,hst,hr⟩=>?_
  subst hv
  subst hst
  rw [inn]
  have hn:fname (ts.drop a)=.ok (t.text,ts.drop (a + 1)):=by rw [fname,A.hd_,if_pos k1,A.tl]
  rw [hn] at hr
  rcases hr with ⟨rfl,rfl,hr⟩|⟨_,u,hr,_⟩
  rotate_left
  ·cases hr
  have hbe:=congrArg Prod.snd (Except.ok.inj hr)
  obtain rfl:t.text=n:=congrArg Prod.fst (Except.ok.inj hr)
  obtain rfl:a + 1=b:=by
   have:=congrArg List.length hbe
   simp only [List.length_drop] at this
   omega
  rw [hn,qb_ok rfl]
  refine goD ?_
  refine so1 (row':=aRow kind line tgt t.text nilV) rfl rfl rfl rfl rfl (by exact Nat.le_of_ble_eq_true rfl) rfl ?_
  refine goD ?_
  refine cl rfl rfl (rargs_ok H (ob _ _) ha1 hc'.2) fun v st' ⟨l,b,ln,e,hv,hb,hst,hr⟩=>?_
  subst hst
  rw [inn]
  unfold VL at hv
  rcases nlv_or (xrows l) with hq|hq
  ·rw [hq] at hv
   subst hv
   refine goD ?_
   refine so1 (row':=aRow kind line tgt t.text nilV) rfl rfl rfl rfl rfl (by exact Nat.le_of_ble_eq_true rfl) rfl ?_
   refine goD ?_
   exact AWP.ret (rets rfl (.refl _) (.refl _) ⟨(t.text,l),b,ln,e,hb,by rw [vRow,hq] <;> rfl,hr.map _⟩)
  ·rw [hq] at hv
   subst hv
   refine goD ?_
   refine so1 (row':=aRow kind line tgt t.text (.view 6 (xrows l) .shared)) rfl rfl rfl rfl rfl (by exact Nat.le_of_ble_eq_true rfl) rfl ?_
   refine goD ?_
   exact AWP.ret (rets rfl (.refl _) (.refl _) ⟨(t.text,l),b,ln,e,hb,by rw [vRow,hq] <;> rfl,hr.map _⟩)
 ·have hcf:fval c (ts.drop a)=qb (qx (ts.drop a)) fun x r=>.ok (([],[x]),r):=by
   unfold fval
   rw [if_neg (by rw [Bool.and_eq_true]; exact hc)]
  rw [hcf]
  cases c with
  | false =>
   refine goD ?_
   refine cl rfl rfl (rexpr_ok H (ob _ _) ha) fun v st' ⟨x,b,ln,e,hv,hb,hst,hr⟩=>?_
   subst hst
   rw [inn]
   obtain ⟨op,num,name,field,args,hx⟩:=xrow_ex x
   unfold VX xv at hv
   rw [hx] at hv
   subst hv
   refine goD ?_
   refine so1 (row':=aRow kind line tgt [] (.view 6 [exRow op num name field (.view 6 args .shared)] .shared)) rfl rfl rfl rfl rfl (by exact Nat.le_of_ble_eq_true rfl) rfl ?_
   refine goD ?_
   exact rets rfl (.refl _) (.refl _) ⟨([],[x]),b,ln,e,hb,by rw [vRow,nlv_one hx] <;> rfl,hr.map _⟩
  | true =>
   have hcs:seesC (ts.drop a)=false:=by
    cases h:seesC (ts.drop a) with
    | false=>rfl
    | true=>exact absurd ⟨rfl,h⟩ hc
   refine goD ?_
   refine cle rfl rfl (rcall_ok H (ob _ _) ha false hcs) ?_
   refine goD ?_
   refine cl rfl rfl (rexpr_ok H (ob _ _) ha) fun v st' ⟨x,b,ln,e,hv,hb,hst,hr⟩=>?_
   subst hst
   rw [inn]
   obtain ⟨op,num,name,field,args,hx⟩:=xrow_ex x
   unfold VX xv at hv
   rw [hx] at hv
   subst hv
   refine goD ?_
   refine so1 (row':=aRow kind line tgt [] (.view 6 [exRow op num name field (.view 6 args .shared)] .shared)) rfl rfl rfl rfl rfl (by exact Nat.le_of_ble_eq_true rfl) rfl ?_
   refine goD ?_
   exact rets rfl (.refl _) (.refl _) ⟨([],[x]),b,ln,e,hb,by rw [vRow,nlv_one hx] <;> rfl,hr.map _⟩
theorem rexpr_e {X:List (List AV)} {a ln e o:Nat} {st:St} (ho:st.obj o=some (rsC X a ln e)) (he:e=5∨e=7) :
  ACalls Tryz.prog 104 [.cptr o 4 0 0,.int .i64 1,.int .i64 0] st (fun v st'=>v=.agg (exRow 0 0 [] [] noE)∧st'=st) (fun _ _=>False) :=
 Go.Proofs.ACalls.leP (rexpr_err 4 ho he 1 0 rfl) fun v st' ⟨h1,h2⟩=>⟨_,st',by rw [h1]; exact ex_nil _ _ _ _,.refl _,rfl,h2⟩
theorem rvalue_err {ts:List Tk} {a ln e o os:Nat} {st:St} {kind line:Int} {tgt:AV} (c:Bool) (hne:os≠o) (ho:st.obj o=some (rsC (ts.map tokRow) a ln e)) (hs:st.obj os=some (sC (aRow kind line tgt [] nilV))) (he:e=5∨e=7) :
  ACalls Tryz.prog 105 [.cptr o 4 0 0,.cptr os 13 0 0,.bool c] st (fun _ st'=>∃ y,st'=st.set os (sC (vRow kind line tgt y))) (fun _ _=>False):=by
 refine ACalls.inSet2 ho hs (ACalls.ofBody Tryz.func105 rfl Tryz.ntmps105 rfl ?_)
 have he0:¬ (e:Int)=0:=by omega
 have hM:((st.set o (rsC (ts.map tokRow) a ln e)).set os (sC (aRow kind line tgt [] nilV))).obj o=some (.cells 69 4 [[.view 4 (ts.map tokRow) .shared,.int .i64 (a:Int),.int .i64 (ln:Int),.int .i64 (e:Int)]]):=St.obj_under hne _ _
 unfold sC at hM ⊢
 refine goD ?_
 refine Go.AM.cl rfl rfl (rexpr_e (St.obj_under hne _ _) he) fun v st' ⟨hv,hst⟩=>?_
 subst hv
 subst hst
 refine goD ?_
 refine so1 (row':=aRow kind line tgt [] (.view 6 [exRow 0 0 [] [] noE] .shared)) rfl rfl rfl rfl rfl (by exact Nat.le_of_ble_eq_true rfl) rfl ?_
 refine goD ?_
 refine rets rfl (.refl _) (.refl _) ⟨([],[.lit 0]),?_⟩
 rw [St.set_same ho]
 rfl
theorem rvalue_u {α:Type} {ts:List Tk} (H:RdT ts) {r:QR α} {x:α} {a ln e o os:Nat} {st:St} {kind line:Int} {tgt:AV} (c:Bool) (hne:os≠o) (hm:Rm ts r x a ln e) (ho:st.obj o=some (rsC (ts.map tokRow) a ln e)) (hs:st.obj os=some (sC (aRow kind line tgt [] nilV))) (ha:a < ts.length) :
  ACalls Tryz.prog 105 [.cptr o 4 0 0,.cptr os 13 0 0,.bool c] st (RvR ts o os st (vRow kind line tgt) r x (fval c)) (fun _ _=>False) :=
 RvR.of hm ha ho (fun h=>rvalue_ok H c hne h hs ha) (fun he=>rvalue_err c hne ho hs he)
theorem fval_true {ts:List Tk} {y:Xp} {c:List UInt8 × List Xp} {b b3 ln3 e3:Nat} (hn:(hd (ts.drop b)).kind=1→(hd (ts.drop b)).text≠[]) (h:Rm ts (qp (.ok (y,ts.drop b)) (fval true)) (y,c) b3 ln3 e3) :
  Rm ts (if seesC (ts.drop b) then qb (fcall (ts.drop b)) fun c r3=>.ok ((⟨3,[y],c.1,c.2⟩:Sm),r3) else qb (qx (ts.drop b)) fun x r3=>.ok (⟨2,[y],[],[x]⟩,r3)) ⟨if c.1=[] then 2 else 3,[y],c.1,c.2⟩ b3 ln3 e3:=by
 unfold qp fval at h
 simp only [Bool.true_and] at h
 rw [qb_ok rfl] at h
 by_cases hs:seesC (ts.drop b)=true
 ·rw [if_pos hs] at h ⊢
  have hk:(hd (ts.drop b)).kind=1:=by
   unfold seesC at hs
   rw [Bool.and_eq_true] at hs
   exact of_decide_eq_true hs.1
  refine h.to (fun h=>?_) (fun z h=>?_)
  ·cases hq:fcall (ts.drop b) with
   | error e=>rw [hq] at h; cases h
   | ok p =>
    rw [hq] at h
    have h1:=congrArg Prod.fst (Except.ok.inj h)
    have h2:p.2=ts.drop b3:=congrArg Prod.snd (Except.ok.inj h)
    have h3:p.1=c:=congrArg Prod.snd h1
    have hc:c.1≠[]:=by
     rw [fcall_eq,fname,if_pos hk,qb_ok rfl] at hq
     cases hg:fargl (ts.drop b).tail with
     | error e=>rw [hg] at hq; cases hq
     | ok q =>
      rw [hg] at hq
      have h4:((hd (ts.drop b)).text,q.1)=p.1:=congrArg Prod.fst (Except.ok.inj hq)
      rw [← h3,← h4]
      exact hn hk
    rw [if_neg hc,← h2,← h3]
    rfl
  ·cases hq:fcall (ts.drop b) with
   | error e =>
    rw [hq] at h
    have h5:e=z:=Except.error.inj h
    rw [h5]
    rfl
   | ok p=>rw [hq] at h; cases h
 ·rw [if_neg hs] at h ⊢
  refine h.to (fun h=>?_) (fun z h=>?_)
  ·cases hq:qx (ts.drop b) with
   | error e=>rw [hq] at h; cases h
   | ok p =>
    rw [hq] at h
    have h1:=congrArg Prod.fst (Except.ok.inj h)
    have h2:p.2=ts.drop b3:=congrArg Prod.snd (Except.ok.inj h)
    have h3:([],[p.1])=c:=congrArg Prod.snd h1
    rw [← h3,if_pos rfl,← h2]
    rfl
  ·cases hq:qx (ts.drop b) with
   | error e =>
    rw [hq] at h
    have h5:e=z:=Except.error.inj h
    rw [h5]
    rfl
   | ok p=>rw [hq] at h; cases h
set_option maxHeartbeats 1000000 in
theorem reffect_ok {ts:List Tk} (H:RdT ts) {a o os:Nat} {st:St} {line:Int} (hne:os≠o) (ho:st.obj o=some (rsC (ts.map tokRow) a 0 0)) (hs:st.obj os=some (sC (aRow 0 line nilV [] nilV))) (ha:a < ts.length) :
  ACalls Tryz.prog 106 [.cptr o 4 0 0,.cptr os 13 0 0] st (RsR ts o os st (smRow line) (feff (ts.drop a))) (fun _ _=>False):=by
 refine ACalls.inSet2 ho hs (ACalls.ofBody Tryz.func106 rfl Tryz.ntmps106 rfl ?_)
 have inn:∀ b z r,((st.set o b).set os z).set o r=(st.set o r).set os z:=fun b z r=>St.set_inner hne b r z
 have in2:∀ b z r c,(((st.set o b).set os z).set o r).set os c=(st.set o r).set os c:=fun b z r c=>by rw [inn,St.set_set]
 have ob:∀ b z,((st.set o b).set os z).obj o=some b:=fun b z=>St.obj_under hne b z
 have hlen:=H.len
 clear ho hs
 unfold sC
 refine goD ?_
 refine so1 (row':=aRow 3 line nilV [] nilV) rfl rfl rfl rfl rfl (by exact Nat.le_of_ble_eq_true rfl) rfl ?_
 refine goD ?_
 cases hc:seesC (ts.drop a) with
 | true =>
  refine cle rfl rfl (rcall_ok H (ob _ _) ha true hc) ?_
  refine goD ?_
  refine cl rfl rfl (rvalue_ok H (kind:=3) (line:=line) (tgt:=nilV) true hne (ob _ _) (St.obj_set _ _ _) ha) fun v st' ⟨x,b,ln,e,hb,hst,hr⟩=>?_
  subst hst
  rw [in2]
  refine goD ?_
  exact AWP.ret (rets rfl (.refl _) (.refl _) ⟨⟨3,[],x.1,x.2⟩,b,ln,e,hb,rfl,by rw [fval,hc,Bool.and_self,if_pos rfl] at hr; rw [feff,if_pos hc]; exact hr.map _⟩)
 | false =>
  refine cle rfl rfl (rcall_ok H (ob _ _) ha false hc) ?_
  refine goD ?_
  refine cl rfl rfl (rtarget_ok0 H (ob _ _) ha) fun v st' ⟨y,b,ln,e,hv,hb,hst,hr⟩=>?_
  subst hst
  rw [inn]
  obtain ⟨op,num,name,field,args,hy⟩:=xrow_ex y
  unfold VX xv at hv
  rw [hy] at hv
  subst hv
  refine goD ?_
  refine so1 (row':=aRow 3 line (.view 6 [exRow op num name field (.view 6 args .shared)] .shared) [] nilV) rfl rfl rfl rfl rfl (by exact Nat.le_of_ble_eq_true rfl) rfl ?_
  refine goD ?_
  refine cl rfl rfl (rtake_u H hr hb (ob _ _) [61] rfl) fun v st' ⟨_,b2,ln2,e2,_,hb2,hst,hr2⟩=>?_
  subst hst
  rw [inn]
  refine goD ?_
  refine cl rfl rfl (rvalue_u H (kind:=3) (line:=line) (tgt:=.view 6 [exRow op num name field (.view 6 args .shared)] .shared) true hne hr2 (ob _ _) (St.obj_set _ _ _) hb2) fun v st' ⟨x,b3,ln3,e3,hb3,hst,hr3⟩=>?_
  subst hst
  rw [in2]
  obtain ⟨fn,ar⟩:=x
  have hfin:Rm ts (feff (ts.drop a)) ⟨if fn=[] then 2 else 3,[y],fn,ar⟩ b3 ln3 e3:=by
   rw [feff,if_neg (by rw [hc]; decide)]
   have e1:(qb (qt (ts.drop a)) fun y r=>qb (fneed [61] r) fun _ r2=>if seesC r2 then qb (fcall r2) fun c r3=>.ok ((⟨3,[y],c.1,c.2⟩:Sm),r3) else qb (qx r2) fun x r3=>.ok (⟨2,[y],[],[x]⟩,r3)) =
     qb (qp (qt (ts.drop a)) (fneed [61])) fun p r2=>if seesC r2 then qb (fcall r2) fun c r3=>.ok ((⟨3,[p.1],c.1,c.2⟩:Sm),r3) else qb (qx r2) fun x r3=>.ok (⟨2,[p.1],[],[x]⟩,r3):=by
    simp only [qp,qb_qb,qb_ret]
   rw [e1]
   rcases hr2 with ⟨k1,k2,k3⟩|⟨k1,t,k3,k4⟩
   ·rw [k3,qb_ok rfl]
    rw [k3] at hr3
    obtain ⟨t,B⟩:=at_of H hb2
    have h9:Rm ts (qp (.ok (y,ts.drop b2)) (fval true)) (y,(fn,ar)) b3 ln3 e3:=by
     unfold qp at hr3 ⊢
     rw [qb_ok rfl] at hr3 ⊢
     have:=hr3.map fun p=>(p.1.1,p.2)
     simpa only [qb_qb,qb_ret] using this
    exact fval_true (by rw [B.hd_]; exact B.ok.name) h9
   ·rw [k3] at hr3 ⊢
    rcases hr3 with ⟨q1,q2,q3⟩|⟨q1,u,q3,q4⟩
    ·cases q3
    ·cases q3
     exact .inr ⟨q1,t,rfl,q4⟩
  unfold vRow sC
  simp only
  have hsm:∀ k:Nat,aRow k line (.view 6 [exRow op num name field (.view 6 args .shared)] .shared) fn (nlv (xrows ar))=smRow line ⟨k,[y],fn,ar⟩:=fun k=>by
   rw [smRow,nlv_one hy]
  generalize nlv (xrows ar)=q at hsm ⊢
  by_cases hf:fn=[]
  ·rw [if_pos hf] at hfin
   subst hf
   refine goD ?_
   refine so1 (row':=aRow 2 line (.view 6 [exRow op num name field (.view 6 args .shared)] .shared) [] q) rfl rfl rfl rfl rfl (by exact Nat.le_of_ble_eq_true rfl) rfl ?_
   refine goD ?_
   exact rets rfl (.refl _) (.refl _) ⟨_,b3,ln3,e3,hb3,by rw [← hsm 2] <;> rfl,hfin⟩
  ·rw [if_neg hf] at hfin
   refine goD ?_
   exact rets rfl (.refl _) (.refl _) ⟨_,b3,ln3,e3,hb3,by rw [← hsm 3] <;> rfl,hfin⟩
def tRow (line:Int) (n:List UInt8) (x:List UInt8 × Nat):List AV:=sRow 1 line n x.1 (x.2:Int) nilV [] nilV nilV nilV
theorem rtyped_err {ts:List Tk} {a ln e o os:Nat} {st:St} {line:Int} {n:List UInt8} (ho:st.obj o=some (rsC (ts.map tokRow) a ln e)) (hs:st.obj os=some (sC (tRow line n ([],0)))) (he:e=5∨e=7) :
  ACalls Tryz.prog 103 [.cptr o 4 0 0,.cptr os 13 0 0] st (fun _ st'=>∃ y,st'=st.set os (sC (tRow line n y))) (fun _ _=>False):=by
 refine ACalls.ofBody Tryz.func103 rfl Tryz.ntmps103 rfl ?_
 have he0:¬ (e:Int)=0:=by omega
 unfold rsC at ho
 refine goD ?_
 exact AWP.ret (rets rfl (.refl _) (.refl _) ⟨([],0),by rw [St.set_same hs]⟩)
set_option maxHeartbeats 1000000 in
theorem rtyped_ok {ts:List Tk} (H:RdT ts) {a o os:Nat} {st:St} {line:Int} {n:List UInt8} (hne:os≠o) (ho:st.obj o=some (rsC (ts.map tokRow) a 0 0)) (hs:st.obj os=some (sC (tRow line n ([],0)))) (ha:a < ts.length) :
  ACalls Tryz.prog 103 [.cptr o 4 0 0,.cptr os 13 0 0] st (RsR ts o os st (tRow line n) (fty (ts.drop a))) (fun _ _=>False):=by
 refine ACalls.inSet2 ho hs (ACalls.ofBody Tryz.func103 rfl Tryz.ntmps103 rfl ?_)
 have inn:∀ b z r,((st.set o b).set os z).set o r=(st.set o r).set os z:=fun b z r=>St.set_inner hne b r z
 have ob:∀ b z,((st.set o b).set os z).obj o=some b:=fun b z=>St.obj_under hne b z
 have hlen:=H.len
 clear ho hs
 unfold sC tRow
 obtain ⟨t,A⟩:=at_of H ha
 have hM:((st.set o (rsC (ts.map tokRow) a 0 0)).set os (.cells 41 13 [sRow 1 line n [] ((0:Nat):Int) nilV [] nilV nilV nilV])).obj o=some (.cells 69 4 [[.view 4 (ts.map tokRow) .shared,.int .i64 (a:Int),.int .i64 0,.int .i64 0]]):=ob _ _
 have e0:fty (ts.drop a)=fty (ts.drop a):=rfl
 conv at e0=>rhs; rw [fty,A.hd_,A.tl]
 refine goD ?_
 cases c1:wk t wInt with
 | false =>
  rw [if_neg (by rw [← wk_kw A.ok rfl,c1]; decide)] at e0
  refine cle rfl rfl (A.is (ob _ _) wInt false c1) ?_
  refine goD ?_
  refine cl rfl rfl (rname_ok H (ob _ _) ha) fun v st' ⟨ty,b,ln,e,hv,hb,hst,hr⟩=>?_
  subst hv
  subst hst
  rw [inn]
  refine goD ?_
  refine so1 (row':=sRow 1 line n ty ((0:Nat):Int) nilV [] nilV nilV nilV) rfl rfl rfl rfl rfl (by exact Nat.le_of_ble_eq_true rfl) rfl ?_
  refine goD ?_
  exact AWP.ret (rets rfl (.refl _) (.refl _) ⟨(ty,0),b,ln,e,hb,rfl,by rw [e0]; exact hr.map _⟩)
 | true =>
  rw [if_pos (by rw [← wk_kw A.ok rfl]; exact c1)] at e0
  have ha1:=A.more (wk_kind c1)
  refine cle rfl rfl (A.is (ob _ _) wInt true c1) ?_
  refine goD ?_
  refine so (rows':=[[.view 4 (ts.map tokRow) .shared,.int .i64 ((a + 1:Nat):Int),.int .i64 0,.int .i64 0]]) rfl rfl rfl hM rfl rfl rfl rfl rfl ?_
  rw [inn]
  obtain ⟨u,B⟩:=at_of H ha1
  rw [B.hd_,B.tl] at e0
  have hM1:((st.set o (rsC (ts.map tokRow) (a + 1) 0 0)).set os (.cells 41 13 [sRow 1 line n [] ((0:Nat):Int) nilV [] nilV nilV nilV])).obj o=some (.cells 69 4 [[.view 4 (ts.map tokRow) .shared,.int .i64 ((a + 1:Nat):Int),.int .i64 0,.int .i64 0]]):=ob _ _
  refine goD ?_
  cases c2:wk u [91] with
  | false =>
   rw [if_neg (by rw [← wk_sg B.ok rfl,c2]; decide)] at e0
   refine cle rfl rfl (B.is (ob _ _) [91] false c2) ?_
   refine goD ?_
   exact AWP.ret (rets rfl (.refl _) (.refl _) ⟨([],0),a + 1,0,0,ha1,rfl,.ok e0⟩)
  | true =>
   rw [if_pos (by rw [← wk_sg B.ok rfl]; exact c2)] at e0
   have ha2:=B.more (wk_kind c2)
   refine cle rfl rfl (B.is (ob _ _) [91] true c2) ?_
   refine goD ?_
   refine so (rows':=[[.view 4 (ts.map tokRow) .shared,.int .i64 ((a + 1 + 1:Nat):Int),.int .i64 0,.int .i64 0]]) rfl rfl rfl hM1 rfl rfl rfl rfl rfl ?_
   rw [inn]
   obtain ⟨w,C⟩:=at_of H ha2
   rw [C.hd_,C.tl] at e0
   refine goD ?_
   by_cases c3:w.kind=2
   ·rw [if_pos c3] at e0
    have ha3:=C.more (by rw [c3]; decide)
    have hn:=C.ok.num
    refine cle rfl rfl (C.kd (ob _ _) 2 true (decide_eq_true c3)) ?_
    obtain ⟨w',w1,w2,w3,w4,w5⟩:=map_at ha2
    have hw:=C.at_
    rw [w1] at hw
    cases hw
    have hM2:((st.set o (rsC (ts.map tokRow) (a + 1 + 1) 0 0)).set os (.cells 41 13 [sRow 1 line n [] ((0:Nat):Int) nilV [] nilV nilV nilV])).obj o=some (.cells 69 4 [[.view 4 (ts.map tokRow) .shared,.int .i64 ((a + 1 + 1:Nat):Int),.int .i64 0,.int .i64 0]]):=ob _ _
    refine goD ?_
    refine AWP.draw rfl 12 12 (fun _ _=>False) rfl ?_
    repeat (first|refine ds rfl rfl ?_|refine dp (h:=fun _ _=>ZF (z:=nz)) (z:=?_)|refine dp (h:=fun _ _=>ZC (z:=nz)) (z:=?_)|refine dp (h:=fun _ _=>ZM (z:=nz)) (z:=?_)|refine dp (h:=fun _ _=>ZH (z:=nz)) (z:=?_))
    refine dn ⟨fun _=>?_,fun h=>absurd h (by decide)⟩
    refine goE ?_
    refine so1 (row':=sRow 1 line n [] (w.num:Int) nilV [] nilV nilV nilV) rfl rfl rfl rfl rfl (by exact Nat.le_of_ble_eq_true rfl) rfl ?_
    by_cases q1:w.num < 1
    ·rw [if_pos (.inl q1)] at e0
     refine goD ?_
     refine cl rfl rfl (C.fail (ob _ _) 5) fun v st' hst=>?_
     subst hst
     rw [inn]
     refine goD ?_
     exact AWP.ret (rets rfl (.refl _) (.refl _) ⟨([],w.num),a + 1 + 1,w.line,5,ha2,rfl,.inr ⟨.inl rfl,_,e0,by rw [C.hd_]⟩⟩)
    by_cases q2:8 < w.num
    ·rw [if_pos (.inr q2)] at e0
     refine goD ?_
     refine cl rfl rfl (C.fail (ob _ _) 5) fun v st' hst=>?_
     subst hst
     rw [inn]
     refine goD ?_
     exact AWP.ret (rets rfl (.refl _) (.refl _) ⟨([],w.num),a + 1 + 1,w.line,5,ha2,rfl,.inr ⟨.inl rfl,_,e0,by rw [C.hd_]⟩⟩)
    rw [if_neg (fun h=>h.elim q1 q2)] at e0
    have hM3:((st.set o (rsC (ts.map tokRow) (a + 1 + 1) 0 0)).set os (.cells 41 13 [sRow 1 line n [] (w.num:Int) nilV [] nilV nilV nilV])).obj o=some (.cells 69 4 [[.view 4 (ts.map tokRow) .shared,.int .i64 ((a + 1 + 1:Nat):Int),.int .i64 0,.int .i64 0]]):=ob _ _
    refine goD ?_
    refine so (rows':=[[.view 4 (ts.map tokRow) .shared,.int .i64 ((a + 1 + 1 + 1:Nat):Int),.int .i64 0,.int .i64 0]]) rfl rfl rfl hM3 rfl rfl rfl rfl rfl ?_
    rw [inn]
    refine goD ?_
    refine cl rfl rfl (rtake_u H (.ok rfl:Rm ts (.ok ((),ts.drop (a + 1 + 1 + 1))) () (a + 1 + 1 + 1) 0 0) ha3 (ob _ _) [93] rfl) fun v st' ⟨_,b3,ln3,e3,_,hb3,hst,hr3⟩=>?_
    subst hst
    rw [inn]
    refine goD ?_
    refine rets rfl (.refl _) (.refl _) ⟨([],w.num),b3,ln3,e3,hb3,rfl,?_⟩
    rw [e0]
    have:=hr3.map fun _=>(([],w.num):List UInt8 × Nat)
    simpa only [qp,qb_qb,qb_ret] using this
   ·rw [if_neg c3] at e0
    refine cle rfl rfl (C.kd (ob _ _) 2 false (decide_eq_false c3)) ?_
    refine goD ?_
    refine cl rfl rfl (C.fail (ob _ _) 7) fun v st' hst=>?_
    subst hst
    rw [inn]
    refine goD ?_
    exact AWP.ret (rets rfl (.refl _) (.refl _) ⟨([],0),a + 1 + 1,w.line,7,ha2,rfl,.inr ⟨.inr rfl,_,e0,by rw [C.hd_]⟩⟩)
theorem rtyped_u {α:Type} {ts:List Tk} (H:RdT ts) {r:QR α} {x:α} {a ln e o os:Nat} {st:St} {line:Int} {n:List UInt8} (hne:os≠o) (hm:Rm ts r x a ln e) (ho:st.obj o=some (rsC (ts.map tokRow) a ln e)) (hs:st.obj os=some (sC (tRow line n ([],0)))) (ha:a < ts.length) :
  ACalls Tryz.prog 103 [.cptr o 4 0 0,.cptr os 13 0 0] st (RvR ts o os st (tRow line n) r x fty) (fun _ _=>False) :=
 RvR.of hm ha ho (fun h=>rtyped_ok H hne h hs ha) (fun he=>rtyped_err ho hs he)
end Go.Proofs
namespace Go.Proofs
open Go.AM
attribute [local irreducible] AWP AOps AAny ACalls

def begV:List (List AV):=[[.str wVar],[.str wIf],[.str wWhile],[.str wReturn],[.str wThrow],[.str wTry],[.str wPrint]]
theorem begV_at:∀ m,m < 7→∃ s,stWords[m]?=some s∧begV[m]?=some [.str s]∧letHd s=true
 | 0,_=>⟨_,rfl,rfl,rfl⟩
 | 1,_=>⟨_,rfl,rfl,rfl⟩
 | 2,_=>⟨_,rfl,rfl,rfl⟩
 | 3,_=>⟨_,rfl,rfl,rfl⟩
 | 4,_=>⟨_,rfl,rfl,rfl⟩
 | 5,_=>⟨_,rfl,rfl,rfl⟩
 | 6,_=>⟨_,rfl,rfl,rfl⟩
 | n + 7,h=>absurd h (by omega)
theorem begS_word {t:Tk} {s:List UInt8} (h:kw t s=true) (hs:s ∈ stWords):begS t=true:=by
 obtain ⟨h1,h2⟩:=of_decide_eq_true h
 unfold begS
 rw [h1,h2,decide_eq_true (rfl:3=3),List.contains_iff_mem.2 hs]
 rfl
theorem rbegins_ok {ts:List Tk} {a ln e o:Nat} {t:Tk} {st:St} (A:AtT ts a t) (ho:st.obj o=some (rsC (ts.map tokRow) a ln e)) (b:Bool) (hb:begS t=b) :
  ACalls Tryz.prog 85 [.cptr o 4 0 0] st (fun v st'=>v=.bool b∧st'=st) (fun _ _=>False):=by
 refine ACalls.ofBody Tryz.func85 rfl Tryz.ntmps85 rfl ?_
 subst hb
 refine goD ?_
 refine bsh (cs:=begV.flatten) rfl rfl rfl rfl rfl ?_
 refine goD ?_
 refine AWP.loop (α:=Nat) (fun i=>[(7,.int .i64 (i:Int)),(6,.int .i64 7),(5,.view 1 begV .shared),(0,.cptr o 4 0 0)]) (fun _=>st) (fun i=>i≤7∧∀ j x,j < i→stWords[j]?=some x→kw t x=false) (fun i=>7 - i) 0
  ⟨by omega,fun j x h=>absurd h (by omega)⟩ (tl4 rfl rfl rfl rfl) (.refl _) ?_
 rintro i ⟨h1,h2⟩
 refine AWP.weaken (T':=[(7,.int .i64 (i:Int)),(6,.int .i64 7),(5,.view 1 begV .shared),(0,.cptr o 4 0 0)]) (tl4 rfl rfl rfl rfl) (.refl _) ?_
 by_cases hi:i < 7
 ·obtain ⟨s,q1,q2,q3⟩:=begV_at i hi
  have hi1:i < begV.length:=hi
  refine goD ?_
  cases hb:kw t s with
  | true =>
   refine cle rfl rfl (A.is ho s true (by rw [wk_kw A.ok q3]; exact hb)) ?_
   refine goD ?_
   exact AWP.ret (rets rfl (.refl _) (.refl _) ⟨by rw [begS_word hb (List.mem_of_getElem? q1)] <;> rfl,rfl⟩)
  | false =>
   refine cle rfl rfl (A.is ho s false (by rw [wk_kw A.ok q3]; exact hb)) ?_
   refine goD ?_
   refine ⟨i + 1,⟨by omega,fun j x hj hx=>?_⟩,by omega,(tl4 rfl rfl rfl rfl),.refl _⟩
   rcases Nat.lt_or_ge j i with hji|hji
   ·exact h2 j x hji hx
   ·have:j=i:=by omega
    subst this
    rw [q1] at hx
    cases hx
    exact hb
 ·refine goD ?_
  refine AWP.exit (blk_hit ?_)
  refine goD ?_
  refine cle rfl rfl (A.kd ho 1 (decide (t.kind=1)) rfl) ?_
  refine goD ?_
  refine AWP.ret (rets rfl (.refl _) (.refl _) (And.intro ?_ rfl))
  have hc:(decide (t.kind=3) && stWords.contains t.text)=false:=by
   rw [Bool.and_eq_false_iff]
   by_cases h3:t.kind=3
   ·refine .inr ?_
    rw [Bool.eq_false_iff]
    intro hm
    have hm:=List.contains_iff_mem.1 hm
    obtain ⟨j,hj⟩:=List.mem_iff_getElem?.1 hm
    have:=h2 j _ (by have:=(List.getElem?_eq_some_iff.1 hj).1; have h7:stWords.length=7:=rfl; omega) hj
    exact absurd (show kw t t.text=true from decide_eq_true ⟨h3,rfl⟩) (by rw [this]; decide)
   ·exact .inl (decide_eq_false h3)
  unfold begS
  rw [hc,Bool.or_false] <;> rfl
def VP (v:AV) (s:Sp):Prop:=v=spv s
def RsOk (ts:List Tk) (K:Nat):Prop:=∀ k,k≤K→∀ (d a o:Nat) (st:St) (_:d≤8) (_:a < ts.length) (_:begS (hd (ts.drop a))=true),3 * (ts.length - a) < k→st.obj o=some (rsC (ts.map tokRow) a 0 0) →
 ACalls Tryz.prog 86 [.cptr o 4 0 0,.int .i64 (d:Int)] st (RfR ts o st VP (fstm k d (ts.drop a))) (fun _ _=>False)
def RbR {α:Type} (ts:List Tk) (o:Nat) (st:St) (r:QR α) (x:α) (f:List Tk→QR (List Sp)) (v:AV) (st':St):Prop :=
 ∃ l ln a lnn e tk,v=.tuple [.view 13 (spRows l) (.own tk 41),.int .i64 ((ln:Nat):Int)]∧a < ts.length∧st.tok tk=false∧st'=(st.set o (rsC (ts.map tokRow) a lnn e)).addTok tk∧l.length≤ts.length + 1∧Rm ts (qp r f) (x,l) a lnn e∧(e=0→0 < a∧ln=(hd (ts.drop (a - 1))).line)
def RbOk (ts:List Tk) (K:Nat):Prop:=∀ k,k≤K→∀ (d a o:Nat) (st:St),d≤9→a < ts.length→3 * (ts.length - a) < k + 1→st.obj o=some (rsC (ts.map tokRow) a 0 0) →
 ACalls Tryz.prog 53 [.cptr o 4 0 0,.int .i64 (d:Int)] st (RbR ts o st (.ok ((),ts.drop a)) () (fblk k d)) (fun _ _=>False)
theorem rblock_err {ts:List Tk} {a ln e o:Nat} {st:St} (ho:st.obj o=some (rsC (ts.map tokRow) a ln e)) (he:e=5∨e=7) (d:Nat) :
  ACalls Tryz.prog 53 [.cptr o 4 0 0,.int .i64 (d:Int)] st (fun v st'=>∃ tk,v=.tuple [.view 13 (spRows []) (.own tk 41),.int .i64 0]∧st.tok tk=false∧st'=st.addTok tk) (fun _ _=>False):=by
 refine ACalls.ofBody Tryz.func53 rfl Tryz.ntmps53 rfl ?_
 have he0:¬ (e:Int)=0:=by omega
 have ho':=ho
 unfold rsC at ho
 refine goD ?_
 refine cl rfl rfl (rtake_err ho' he [123]) fun v st' ⟨_,hst⟩=>?_
 subst hst
 refine goD ?_
 refine AWP.nilTok 6 41 13 rfl fun tk htk=>?_
 have hM:(st'.addTok tk).obj o=some (.cells 69 4 [[.view 4 (ts.map tokRow) .shared,.int .i64 (a:Int),.int .i64 (ln:Int),.int .i64 (e:Int)]]):=ho
 refine AWP.loop (α:=Unit) (fun _=>[(6,.view 13 [] (.own tk 41)),(1,.int .i64 (d:Int)),(0,.cptr o 4 0 0)]) (fun _=>st'.addTok tk) (fun _=>True) (fun _=>0) () trivial (tl3 rfl rfl rfl) (.refl _) ?_
 intro _ _
 refine AWP.weaken (T':=[(6,.view 13 [] (.own tk 41)),(1,.int .i64 (d:Int)),(0,.cptr o 4 0 0)]) (st':=st'.addTok tk) (tl3 rfl rfl rfl) (.refl _) ?_
 refine goD ?_
 refine AWP.exit (blk_hit ?_)
 refine goD ?_
 have hM2:(st'.addTok tk).obj o=some (rsC (ts.map tokRow) a ln e):=ho'
 refine cl rfl rfl (rtake_err hM2 he [125]) fun v st2 ⟨_,hst⟩=>?_
 subst hst
 refine goD ?_
 exact AWP.ret (rets rfl (.refl _) (.refl _) ⟨tk,rfl,htk,rfl⟩)
set_option maxHeartbeats 2000000 in
theorem rblock_step {ts:List Tk} (H:RdT ts) {K:Nat} (hS:RsOk ts K):RbOk ts (K + 1):=by
 intro k0 hk0 d a0 o st hd9 ha0 hk ho
 obtain ⟨k,rfl⟩:∃ k,k0=k + 1:=⟨k0 - 1,by omega⟩
 refine ACalls.inSet ho (ACalls.ofBody Tryz.func53 rfl Tryz.ntmps53 rfl ?_)
 have hlen:=H.len
 have hP:qp (.ok ((),ts.drop a0)) (fblk (k + 1) d)=qb (qp (fneed [123] (ts.drop a0)) fun r=>fsts k d [] r) fun p r=>.ok (((),p.2),r):=by
  simp only [qp,qb_qb,qb_ret,fblk]
 have hset:∀ tk c r,((st.set o c).addTok tk).set o r=(st.set o r).addTok tk:=fun tk _ _=>by
  show ((st.addTok tk).set o _).set o _=(st.addTok tk).set o _
  rw [St.set_set]
 refine goD ?_
 refine cl rfl rfl (rtake_ok H (St.obj_set _ _ _) ha0 [123]) fun v st' ⟨_,b,ln,e,_,hb,hst,hr⟩=>?_
 subst hst
 rw [St.set_set]
 rw [ftake_sg H ha0 rfl] at hr
 refine goD ?_
 refine AWP.nilTok 6 41 13 rfl fun tk htk=>?_
 generalize hR:qp (.ok ((),ts.drop a0)) (fblk (k + 1) d)=R at hP
 refine AWP.loop (α:=List Sp × Nat × Nat × Nat × Nat × Nat) (fun y=>[(6,.view 13 (spRows y.1) (.own y.2.2.2.2.1 41)),(1,.int .i64 (d:Int)),(0,.cptr o 4 0 0)]) (fun y=>(st.set o (rsC (ts.map tokRow) y.2.1 y.2.2.1 y.2.2.2.1)).addTok y.2.2.2.2.1)
  (fun y=>y.2.1 < ts.length∧st.tok y.2.2.2.2.1=false∧y.1.length≤ts.length + 1∧((y.2.2.2.1=0∧y.2.2.1=0∧y.1.length≤y.2.1∧a0 < y.2.1∧y.2.2.2.2.2≤k∧3 * (ts.length - y.2.1) + 1 < y.2.2.2.2.2∧R=qb (fsts y.2.2.2.2.2 d y.1 (ts.drop y.2.1)) fun l r=>.ok (((),l),r))∨((y.2.2.2.1=5∨y.2.2.2.1=7)∧∃ t,R=.error (y.2.2.2.1,t)∧y.2.2.1=(hd t).line)))
  (fun y=>if y.2.2.2.1=0 then ts.length - y.2.1 + 1 else 0) ([],b,ln,e,tk,k) ⟨hb,htk,Nat.zero_le _,?_⟩ (tl3 rfl rfl rfl) (.refl _) ?_
 ·rcases hr with ⟨k1,k2,k3⟩|⟨k1,t,k3,k4⟩
  ·have:=drop_lt ha0 (fneed_lt k3 (drop_ne ha0))
   exact .inl ⟨k1,k2,Nat.zero_le _,this,Nat.le_refl _,by simp only; omega,by rw [hP,k3,qp,qb_ok rfl]; simp only [qb_qb,qb_ret]⟩
  ·exact .inr ⟨k1,t,by rw [hP,k3] <;> rfl,k4⟩
 rintro ⟨l,c,ln2,e2,tk3,fu⟩ ⟨h2,h3,h4,h6⟩
 simp only at h2 h3 h4 h6
 refine AWP.weaken (T':=[(6,.view 13 (spRows l) (.own tk3 41)),(1,.int .i64 (d:Int)),(0,.cptr o 4 0 0)]) (st':=(st.set o (rsC (ts.map tokRow) c ln2 e2)).addTok tk3) (tl3 rfl rfl rfl) (.refl _) ?_
 have hok:∀ a ln e,((st.set o (rsC (ts.map tokRow) a ln e)).addTok tk3).obj o=some (rsC (ts.map tokRow) a ln e):=fun _ _ _=>St.obj_set _ _ _
 have hM3:((st.set o (rsC (ts.map tokRow) c ln2 e2)).addTok tk3).obj o=some (.cells 69 4 [[.view 4 (ts.map tokRow) .shared,.int .i64 (c:Int),.int .i64 (ln2:Int),.int .i64 (e2:Int)]]):=hok _ _ _
 rcases h6 with ⟨rfl,rfl,k3,kab,kfk,k4,k5⟩|⟨he,u,k3,k4⟩
 ·obtain ⟨t,A⟩:=at_of H h2
  obtain ⟨fu,rfl⟩:∃ f,fu=f + 1:=⟨fu - 1,by omega⟩
  rw [fsts,A.hd_,A.tl] at k5
  refine goD ?_
  cases hs:wk t [125] with
  | true =>
   rw [if_pos (by rw [← wk_sg A.ok rfl]; exact hs)] at k5
   have hk1:=A.more (wk_kind hs)
   refine cle rfl rfl (A.is (hok c 0 0) [125] true hs) ?_
   refine goD ?_
   refine AWP.exit (blk_hit ?_)
   obtain ⟨t',w1,w2,w3,w4,w5⟩:=map_at h2
   have hw:=A.at_
   rw [w1] at hw
   cases hw
   refine goD ?_
   refine AWP.draw rfl 12 12 (fun _ _=>False) rfl ?_
   repeat (first|refine ds rfl rfl ?_|refine dp (h:=fun _ _=>ZF (z:=nz)) (z:=?_)|refine dp (h:=fun _ _=>ZC (z:=nz)) (z:=?_)|refine dp (h:=fun _ _=>ZM (z:=nz)) (z:=?_)|refine dp (h:=fun _ _=>ZH (z:=nz)) (z:=?_))
   refine dn ⟨fun _=>?_,fun h=>absurd h (by decide)⟩
   refine goD ?_
   refine cl rfl rfl (rtake_t H A (hok c 0 0) h2 hs) fun v st' hst=>?_
   subst hst
   rw [hset]
   refine goD ?_
   refine AWP.ret (rets rfl (.refl _) (.refl _) ⟨l,t.line,c + 1,0,0,tk3,rfl,hk1,h3,rfl,h4,.ok ?_,fun _=>⟨Nat.succ_pos _,?_⟩⟩)
   ·rw [hR,k5] <;> rfl
   ·rw [Nat.add_sub_cancel,A.hd_]
  | false =>
   rw [if_neg (by rw [← wk_sg A.ok rfl,hs]; decide)] at k5
   obtain ⟨fu,rfl⟩:∃ f,fu=f + 1:=⟨fu - 1,by omega⟩
   refine cle rfl rfl (A.is (hok c 0 0) [125] false hs) ?_
   refine goD ?_
   by_cases hb:begS t=true
   rotate_left
   ·refine cle rfl rfl (rbegins_ok A (hok c 0 0) false (by rw [Bool.not_eq_true] at hb; exact hb)) ?_
    refine goD ?_
    refine cl rfl rfl (A.fail (hok c 0 0) 7) fun v st' hst=>?_
    subst hst
    rw [hset]
    refine goD ?_
    exact ⟨(l,c,t.line,7,tk3,0),⟨h2,h3,h4,.inr ⟨.inr rfl,ts.drop c,by rw [k5,fstm,A.hd_,if_neg hb] <;> rfl,by rw [A.hd_]⟩⟩,by simp only [if_pos]; rw [if_neg (by decide)]; omega,(tl3 rfl rfl rfl),.refl _⟩
   refine cle rfl rfl (rbegins_ok A (hok c 0 0) true hb) ?_
   refine goD ?_
   by_cases h8:8 < d
   ·refine goD ?_
    refine cl rfl rfl (A.fail (hok c 0 0) 5) fun v st' hst=>?_
    subst hst
    rw [hset]
    refine goD ?_
    exact ⟨(l,c,t.line,5,tk3,0),⟨h2,h3,h4,.inr ⟨.inl rfl,ts.drop c,by rw [k5,fstm,A.hd_,if_pos hb,if_pos h8] <;> rfl,by rw [A.hd_]⟩⟩,by simp only [if_pos]; rw [if_neg (by decide)]; omega,(tl3 rfl rfl rfl),.refl _⟩
   refine goD ?_
   refine cl rfl rfl (hS (fu + 1) (by omega) d c o _ (by omega) h2 (by rw [A.hd_]; exact hb) (by omega) (hok c 0 0)) fun v st' ⟨s,b2,ln3,e3,hv,hb2,hst,hr2⟩=>?_
   subst hv
   subst hst
   rw [hset]
   refine bs1 (v:=spv s) rfl rfl rfl rfl (by exact spRow_len s) (by rfl) ?_
   refine ap rfl rfl rfl (St.tok_addTok _ _) rfl (by simp only [List.length_cons,List.length_nil,spRows_len]; omega) (by simp only [List.length_cons,List.length_nil,spRows_len,maxLen]; omega) fun tk' htk'=>?_
   have hm:spRows l++[(spv s).cells]=spRows (l++[s]):=by rw [spRows_append,spRows,spRows] <;> rfl
   rw [hm]
   refine goD ?_
   refine ⟨(l++[s],b2,ln3,e3,tk',fu + 1),⟨hb2,St.tok_of_add htk',by simp only [List.length_append,List.length_cons,List.length_nil]; omega,?_⟩,?_,(tl3 rfl rfl rfl),StLe.reTok (st:=st.set o (rsC (ts.map tokRow) b2 ln3 e3)) h3 tk'⟩
   ·simp only
    rcases hr2 with ⟨q1,q2,q3⟩|⟨q1,u,q3,q4⟩
    ·have:=fstm_lt h2 q3
     exact .inl ⟨q1,q2,by simp only [List.length_append,List.length_cons,List.length_nil]; omega,by omega,by omega,by omega,by rw [k5,q3] <;> rfl⟩
    ·exact .inr ⟨q1,u,by rw [k5,q3] <;> rfl,q4⟩
   ·simp only [if_pos]
    rcases hr2 with ⟨q1,q2,q3⟩|⟨q1,u,q3,q4⟩
    ·have:=fstm_lt h2 q3
     rw [if_pos q1]
     omega
    ·rw [if_neg (by omega)]
     omega
 ·have he0:¬ (e2:Int)=0:=by omega
  refine goD ?_
  refine AWP.exit (blk_hit ?_)
  refine goD ?_
  refine cl rfl rfl (rtake_err (hok c ln2 e2) he [125]) fun v st' ⟨_,hst⟩=>?_
  subst hst
  refine goD ?_
  exact AWP.ret (rets rfl (.refl _) (.refl _) ⟨l,0,c,ln2,e2,tk3,rfl,h2,h3,rfl,h4,.inr ⟨he,u,by rw [hR,k3],k4⟩,fun h=>absurd h (by omega)⟩)
end Go.Proofs
namespace Go.Proofs
open Go.AM
attribute [local irreducible] AWP AOps AAny ACalls

theorem rblock_u {α:Type} {ts:List Tk} {K:Nat} (hB:RbOk ts K) {r:QR α} {x:α} {a ln e k d o:Nat} {st:St} (hm:Rm ts r x a ln e) (hk0:k≤K) (hd9:d≤9) (ha:a < ts.length) (hk:e=0→3 * (ts.length - a) < k + 1) (ho:st.obj o=some (rsC (ts.map tokRow) a ln e)) :
  ACalls Tryz.prog 53 [.cptr o 4 0 0,.int .i64 (d:Int)] st (RbR ts o st r x (fblk k d)) (fun _ _=>False):=by
 rcases hm with ⟨rfl,rfl,hr⟩|⟨he,t,hr,hl⟩
 ·refine Go.Proofs.ACalls.toQ (hB k hk0 d a o st hd9 ha (hk rfl) ho) fun v st' ⟨l,ln,a',lnn,e,tk,h1,h2,h3,h4,h5,h6,h7⟩=>⟨l,ln,a',lnn,e,tk,h1,h2,h3,h4,h5,?_,h7⟩
  refine (h6.map fun p=>(x,p.2)).to (fun h=>?_) (fun z h=>?_)
  ·rw [← h,hr]
   simp only [qp,qb_qb,qb_ret]
  ·rw [← h,hr]
   simp only [qp,qb_qb,qb_ret]
 ·refine Go.Proofs.ACalls.toQ (rblock_err ho he d) fun v st' ⟨tk,h1,h2,h3⟩=>⟨[],0,a,ln,e,tk,h1,ha,h2,by rw [h3,St.set_same ho],Nat.zero_le _,?_,fun h=>absurd h (by omega)⟩
  exact .inr ⟨he,t,by rw [qp,qb_err hr],hl⟩
def VB (v:AV) (l:List Sp):Prop:=∃ ln:Nat,v=.tuple [.view 13 (spRows l) .shared,.int .i64 (ln:Int)]
theorem rblock_sh {α:Type} {ts:List Tk} {K:Nat} (hB:RbOk ts K) {r:QR α} {x:α} {a ln e k d o:Nat} {st:St} (hm:Rm ts r x a ln e) (hk0:k≤K) (hd9:d≤9) (ha:a < ts.length) (hk:e=0→3 * (ts.length - a) < k + 1) (ho:st.obj o=some (rsC (ts.map tokRow) a ln e)) :
  ACalls Tryz.prog 53 [.cptr o 4 0 0,.int .i64 (d:Int)] st (RuR ts o st VB r x (fblk k d)) (fun _ _=>False) :=
 Go.Proofs.ACalls.leP (rblock_u hB hm hk0 hd9 ha hk ho) fun v st' ⟨l,ln,a',lnn,e,tk,h1,h2,h3,h4,h5,h6,h7⟩=>⟨_,st.set o (rsC (ts.map tokRow) a' lnn e),by rw [h1]; exact Le.pair (.shared _ _ _) (.refl _),by rw [h4]; exact StLe.addTok _ (.refl _),l,a',lnn,e,⟨ln,rfl⟩,h2,rfl,h6⟩
theorem ftake_kw {ts:List Tk} (H:RdT ts) {a:Nat} (ha:a < ts.length):ftake wCatch (ts.drop a)=fcatch (ts.drop a):=by
 unfold ftake fcatch
 rw [wk_kw (hd_tk H ha) rfl]
theorem rcatch_u {α:Type} {ts:List Tk} (H:RdT ts) {r:QR α} {x:α} {a ln e o:Nat} {st:St} (hm:Rm ts r x a ln e) (ha:a < ts.length) (ho:st.obj o=some (rsC (ts.map tokRow) a ln e)) :
  ACalls Tryz.prog 51 [.cptr o 4 0 0,.str wCatch] st (RuR ts o st VU r x fcatch) (fun _ _=>False) :=
 RuR.of hm ha ho (fun h=>by rw [← ftake_kw H ha]; exact rtake_ok H h ha wCatch) (fun he=>rtake_err ho he wCatch)
set_option maxHeartbeats 4000000 in
theorem rstm_step {ts:List Tk} (H:RdT ts) {K:Nat} (hB:RbOk ts K):RsOk ts (K + 1):=by
 intro k0 hk0 d a o st hd8 ha hb hk ho
 obtain ⟨k,rfl⟩:∃ k,k0=k + 1:=⟨k0 - 1,by omega⟩
 have hkK:k≤K:=by omega
 have h8:¬ 8 < d:=by omega
 have e0:=fstm_pos (k:=k) hb h8
 generalize hF:fstm (k + 1) d (ts.drop a)=F at e0 ⊢
 refine ACalls.inSet ho (ACalls.ofBody Tryz.func86 rfl Tryz.ntmps86 rfl ?_)
 have hlen:=H.len
 obtain ⟨t,A⟩:=at_of H ha
 rw [A.hd_,A.tl] at e0
 rw [A.hd_] at hb
 obtain ⟨t',w1,w2,w3,w4,w5⟩:=map_at ha
 have hw:=A.at_
 rw [w1] at hw
 cases hw
 refine goC ?_
 refine rg ?_
 refine al rfl rfl fun o2 h2=>?_
 replace h2:=none_set h2
 have hM:((st.set o (rsC (ts.map tokRow) a 0 0)).set o2 (.cells 41 13 [sRow 0 0 [] [] 0 nilV [] nilV nilV nilV])).obj o=some (.cells 69 4 [[.view 4 (ts.map tokRow) .shared,.int .i64 (a:Int),.int .i64 0,.int .i64 0]]):=obj1 h2 _ _
 refine goC ?_
 refine AWP.draw rfl 13 12 (fun v s=>∃ o3,v=.cptr o3 13 0 0∧((st.set o (rsC (ts.map tokRow) a 0 0)).set o2 (.cells 41 13 [sRow 0 0 [] [] 0 nilV [] nilV nilV nilV])).obj o3=none∧s=((st.set o (rsC (ts.map tokRow) a 0 0)).set o2 (.cells 41 13 [sRow 0 0 [] [] 0 nilV [] nilV nilV nilV])).set o3 (.cells 41 13 [sRow 0 0 [] [] 0 nilV [] nilV nilV nilV])) rfl ?_
 repeat (first|refine ds rfl rfl ?_|refine dp (h:=fun _ _=>ZF (z:=nz)) (z:=?_)|refine dp (h:=fun _ _=>ZC (z:=nz)) (z:=?_)|refine dp (h:=fun _ _=>ZM (z:=nz)) (z:=?_)|refine dp (h:=fun _ _=>ZH (z:=nz)) (z:=?_))
 refine dp (h:=fun _ _=>bds (cs:=sRow 0 t.line [] [] 0 nilV [] nilV nilV nilV) rfl rfl rfl rfl nz) (z:=?_)
 refine de rfl rfl rfl ?_ ?_
 ·exact al rfl rfl fun o3 h3=>nl ⟨_,rfl,⟨o3,rfl,h3,rfl⟩,⟨fun x c hx=>St.obj_new h3 hx,fun _ h=>(by cases h),rfl⟩⟩
 refine dn ⟨fun h=>absurd h (by decide),fun _=>?_⟩
 rintro v s1 d7 hd7 ⟨o3,rfl,h3,rfl⟩
 cases hd7
 replace h3:=none_set2 h3
 refine soV rfl rfl rfl rfl rfl rfl ?_
 have hM2:(((st.set o (rsC (ts.map tokRow) a 0 0)).set o2 (.cells 41 13 [sRow 0 0 [] [] 0 nilV [] nilV nilV nilV])).set o3 (.cells 41 13 [sRow 0 t.line [] [] 0 nilV [] nilV nilV nilV])).obj o=some (.cells 69 4 [[.view 4 (ts.map tokRow) .shared,.int .i64 (a:Int),.int .i64 0,.int .i64 0]]):=obj2 h2 h3 _ _ _
 obtain ⟨w,a1,hw⟩:∃ w a1,(t.kind=3∧w=t.text∧a1=a + 1)∨(t.kind≠3∧w=[]∧a1=a):=by
  by_cases h:t.kind=3
  ·exact ⟨_,_,.inl ⟨h,rfl,rfl⟩⟩
  ·exact ⟨_,_,.inr ⟨h,rfl,rfl⟩⟩
 have hkw:∀ s,s≠[]→kw t s=decide (w=s):=fun s hs=>by
  unfold kw
  rcases hw with ⟨q1,q2,_⟩|⟨q1,q2,_⟩
  ·rw [q2]
   exact decide_eq_decide.2 ⟨fun h=>h.2,fun h=>⟨q1,h⟩⟩
  ·rw [q2,decide_eq_false (fun h=>q1 h.1),decide_eq_false (fun h=>hs h.symm)]
 have ha1:a1 < ts.length:=by
  rcases hw with ⟨q1,_,q3⟩|⟨_,_,q3⟩
  ·rw [q3]; exact A.more (by rw [q1]; decide)
  ·rw [q3]; exact ha
 refine nl ?_
 refine goC ?_
 refine rg ?_
 refine goE ?_
 refine nl ?_
 refine AWP.seq ?_
 refine midk [(6,.str w),(5,.cptr o3 13 0 0),(4,.cptr o2 13 0 0),(1,.int .i64 (d:Int)),(0,.cptr o 4 0 0)] (((st.set o (rsC (ts.map tokRow) a1 0 0)).set o2 (.cells 41 13 [sRow 0 0 [] [] 0 nilV [] nilV nilV nilV])).set o3 (.cells 41 13 [sRow 0 t.line [] [] 0 nilV [] nilV nilV nilV])) ?_ ?_
 ·rcases hw with ⟨q1,rfl,rfl⟩|⟨q1,rfl,rfl⟩
  ·refine goD ?_
   refine cle rfl rfl (A.kd (obj2 h2 h3 _ _ _) 3 true (decide_eq_true q1)) ?_
   refine goD ?_
   refine AWP.draw rfl 12 12 (fun _ _=>False) rfl ?_
   repeat (first|refine ds rfl rfl ?_|refine dp (h:=fun _ _=>ZF (z:=nz)) (z:=?_)|refine dp (h:=fun _ _=>ZC (z:=nz)) (z:=?_)|refine dp (h:=fun _ _=>ZM (z:=nz)) (z:=?_)|refine dp (h:=fun _ _=>ZH (z:=nz)) (z:=?_))
   refine dn ⟨fun _=>?_,fun h=>absurd h (by decide)⟩
   refine goD ?_
   refine so (rows':=[[.view 4 (ts.map tokRow) .shared,.int .i64 ((a + 1:Nat):Int),.int .i64 0,.int .i64 0]]) rfl rfl rfl hM2 rfl rfl rfl rfl rfl ?_
   rw [push2 h2 h3]
   refine nl ⟨(tl5 rfl rfl rfl rfl rfl),.refl _⟩
  ·refine goD ?_
   refine cle rfl rfl (A.kd (obj2 h2 h3 _ _ _) 3 false (decide_eq_false q1)) ?_
   refine goD ?_
   exact ⟨(tl5 rfl rfl rfl rfl rfl),.refl _⟩
 clear hM hM2 w2 w3 w4 w5
 refine AWP.seq ?_
 refine AWP.cutK (α:=Sp × Nat × Nat × Nat × List AV) (fun _=>[(5,.cptr o3 13 0 0),(4,.cptr o2 13 0 0)]) (fun y=>((st.set o (rsC (ts.map tokRow) y.2.1 y.2.2.1 y.2.2.2.1)).set o2 (.cells 41 13 [sRow 0 0 [] [] 0 nilV [] nilV nilV nilV])).set o3 (.cells 41 13 [y.2.2.2.2]))
  (fun y=>y.2.1 < ts.length∧Le (.agg y.2.2.2.2) (spv y.1)∧(∃ p1 p2 p3 p4 p5 p6 p7 p8 p9 p10,y.2.2.2.2=sRow p1 p2 p3 p4 p5 p6 p7 p8 p9 p10)∧Rm ts F y.1 y.2.1 y.2.2.1 y.2.2.2.1) ?_ ?_
 rotate_left
 ·rintro ⟨s,c,ln,e,row⟩ ⟨hc,hle,hrl,hR⟩
  simp only at hc hle hrl hR
  obtain ⟨p1,p2,p3,p4,p5,p6,p7,p8,p9,p10,rfl⟩:=hrl
  show AWP _ _ _ _ _ _ (((st.set o (rsC (ts.map tokRow) c ln e)).set o2 (.cells 41 13 [sRow 0 0 [] [] 0 nilV [] nilV nilV nilV])).set o3 (.cells 41 13 [sRow p1 p2 p3 p4 p5 p6 p7 p8 p9 p10]))
  refine goD ?_
  refine soU rfl (Ne.symm (set_ne_new (h3 ob0 ob0))) rfl rfl rfl rfl rfl ?_
  refine goD ?_
  exact AWP.ret (rets (resCW rfl (St.obj_under (Ne.symm (set_ne_new (h3 ob0 ob0))) _ _) rfl rfl rfl rfl) hle (drop2 h2 h3 _ _ _) ⟨s,c,ln,e,rfl,hc,rfl,hR⟩)
 have n3:o3≠o:=Ne.symm (ne_inner (h3 ob0 ob0))
 rw [hkw wVar (by decide),hkw wIf (by decide),hkw wWhile (by decide),hkw wTry (by decide),hkw wReturn (by decide),hkw wThrow (by decide),hkw wPrint (by decide)] at e0
 have hsub:∀ s,s≠[]→w=s→a1=a + 1:=fun s hs h=>by
  rcases hw with ⟨_,_,q3⟩|⟨_,q2,_⟩
  ·exact q3
  ·rw [q2] at h; exact absurd h.symm hs
 by_cases c1:w=wVar
 ·obtain rfl:=hsub wVar (by decide) c1
  rw [decide_eq_true c1,if_pos rfl,fdecl_eq] at e0
  have c1':w=[118,97,114]:=c1
  refine goD ?_
  refine cl rfl rfl (rname_ok H (obj2 h2 h3 _ _ _) ha1) fun v st' ⟨n,b,ln,e,hv,hb2,hst,hr⟩=>?_
  subst hv
  subst hst
  rw [push2 h2 h3]
  refine goE ?_
  refine so1 (row':=sRow 1 t.line [] [] 0 nilV [] nilV nilV nilV) rfl rfl rfl rfl rfl (by exact Nat.le_of_ble_eq_true rfl) rfl ?_
  refine goE ?_
  refine so1 (row':=sRow 1 t.line n [] 0 nilV [] nilV nilV nilV) rfl rfl rfl rfl rfl (by exact Nat.le_of_ble_eq_true rfl) rfl ?_
  refine goD ?_
  refine cl rfl rfl (rtake_u H hr hb2 (obj2 h2 h3 _ _ _) [58] rfl) fun v st' ⟨_,b,ln,e,_,hb2,hst,hr⟩=>?_
  subst hst
  rw [push2 h2 h3]
  refine goD ?_
  refine cl rfl rfl (rtyped_u H (line:=t.line) (n:=n) n3 hr (obj2 h2 h3 _ _ _) (St.obj_set _ _ _) hb2) fun v st' ⟨y,b,ln,e,hb2,hst,hr⟩=>?_
  subst hst
  rw [push2 h2 h3,St.set_set]
  refine goD ?_
  refine cl rfl rfl (rtake_u H hr hb2 (obj2 h2 h3 _ _ _) [59] rfl) fun v st' ⟨_,b,ln,e,_,hb2,hst,hr⟩=>?_
  subst hst
  rw [push2 h2 h3]
  refine nl ⟨(.mk 1 t.line n y.1 y.2 [] [] [] [] [],b,ln,e,_),⟨hb2,?_,⟨_,_,_,_,_,_,_,_,_,_,rfl⟩,?_⟩,(tl2 rfl rfl),.refl _⟩
  ·rw [spv,spRow]
   exact sRow_le (.nilShared _ _) (.nilShared _ _) (.nilShared _ _) (.nilShared _ _) rfl rfl rfl rfl
  ·rw [e0]
   have:=hr.map fun p=>Sp.mk 1 t.line p.1.1.1 p.1.2.1 p.1.2.2 [] [] [] [] []
   simpa only [qp,qb_qb,qb_ret] using this
 rw [decide_eq_false c1,if_neg (by decide)] at e0
 have c1':¬ w=[118,97,114]:=c1
 by_cases c2:w=wIf
 ·obtain rfl:=hsub wIf (by decide) c2
  rw [decide_eq_true c2,if_pos rfl] at e0
  have c2':w=[105,102]:=c2
  refine goD ?_
  refine cl rfl rfl (rexpr_ok H (obj2 h2 h3 _ _ _) ha1) fun v st' ⟨x,b,ln,e,hv,hb2,hst,hr⟩=>?_
  subst hst
  rw [push2 h2 h3]
  obtain ⟨op,num,name,field,args,hx⟩:=xrow_ex x
  unfold VX xv at hv
  rw [hx] at hv
  subst hv
  have hx1:xrows [x]=[exRow op num name field (.view 6 args .shared)]:=by show [xrow x]=_; rw [hx] <;> rfl
  refine bsh (cs:=exRow op num name field (.view 6 args .shared)) rfl rfl rfl rfl rfl ?_
  refine goE ?_
  refine so1 (row':=sRow 4 t.line [] [] 0 nilV [] nilV nilV nilV) rfl rfl rfl rfl rfl (by exact Nat.le_of_ble_eq_true rfl) rfl ?_
  refine goE ?_
  refine so1 (row':=sRow 4 t.line [] [] 0 nilV [] (.view 6 [exRow op num name field (.view 6 args .shared)] .shared) nilV nilV) rfl rfl rfl rfl rfl (by exact Nat.le_of_ble_eq_true rfl) rfl ?_
  refine goD ?_
  have hab:∀ y,qx (ts.drop (a + 1))=.ok (y,ts.drop b)→a + 1 < b:=fun y h=>drop_lt ha1 (qx_lt h)
  have hbk:e=0→3 * (ts.length - b) < k + 1:=fun h=>by
   rcases hr with ⟨_,_,q⟩|⟨q,_⟩
   ·have:=hab _ q; omega
   ·omega
  refine cl rfl rfl (rblock_sh hB hr hkK (by omega:d + 1≤9) hb2 hbk (obj2 h2 h3 _ _ _)) fun v st' ⟨bd,c,ln2,e2,⟨lx,hv⟩,hc2,hst,hr2⟩=>?_
  subst hv
  subst hst
  rw [push2 h2 h3]
  refine goD ?_
  refine so1 (row':=sRow 4 t.line [] [] 0 nilV [] (.view 6 [exRow op num name field (.view 6 args .shared)] .shared) (.view 13 (spRows bd) .shared) nilV) rfl rfl rfl rfl rfl (by exact Nat.le_of_ble_eq_true rfl) rfl ?_
  refine goD ?_
  have hM4:(((st.set o (rsC (ts.map tokRow) c ln2 e2)).set o2 (.cells 41 13 [sRow 0 0 [] [] 0 nilV [] nilV nilV nilV])).set o3 (.cells 41 13 [sRow 4 t.line [] [] 0 nilV [] (.view 6 [exRow op num name field (.view 6 args .shared)] .shared) (.view 13 (spRows bd) .shared) nilV])).obj o=some (.cells 69 4 [[.view 4 (ts.map tokRow) .shared,.int .i64 (c:Int),.int .i64 (ln2:Int),.int .i64 (e2:Int)]]):=obj2 h2 h3 _ _ _
  have e1:F=qb (qp (qx (ts.drop (a + 1))) (fblk k (d + 1))) fun p r2=>if kw (hd r2) wElse then qb (fblk k (d + 1) r2.tail) fun e r3=>.ok (.mk 4 t.line [] [] 0 [] [] [p.1] p.2 e,r3) else .ok (.mk 4 t.line [] [] 0 [] [] [p.1] p.2 [],r2):=by
   rw [e0]
   simp only [qp,qb_qb,qb_ret]
  rcases hr2 with ⟨rfl,rfl,q3⟩|⟨q1,z,q3,q4⟩
  ·rw [q3,qb_ok rfl] at e1
   have hbc:a + 1≤c:=by
    rcases hr with ⟨_,_,q⟩|⟨_,_,q,_⟩
    ·have h1:=hab _ q
     rw [q,qp,qb_ok rfl] at q3
     cases hq:fblk k (d + 1) (ts.drop b) with
     | error e=>rw [hq] at q3; cases q3
     | ok p =>
      rw [hq] at q3
      have h5:p.2=ts.drop c:=congrArg Prod.snd (Except.ok.inj q3)
      have:=blk_le hb2 (show fblk k (d + 1) (ts.drop b)=.ok (p.1,ts.drop c) by rw [hq,← h5])
      omega
    ·rw [q] at q3; cases q3
   obtain ⟨u,B⟩:=at_of H hc2
   rw [B.hd_,B.tl] at e1
   refine goD ?_
   cases c9:wk u wElse with
   | true =>
    rw [if_pos (by rw [← wk_kw B.ok rfl]; exact c9)] at e1
    have hc3:=B.more (wk_kind c9)
    refine cle rfl rfl (B.is (obj2 h2 h3 _ _ _) wElse true c9) ?_
    refine goD ?_
    refine so (rows':=[[.view 4 (ts.map tokRow) .shared,.int .i64 ((c + 1:Nat):Int),.int .i64 0,.int .i64 0]]) rfl rfl rfl hM4 rfl rfl rfl rfl rfl ?_
    rw [push2 h2 h3]
    refine goD ?_
    refine cl rfl rfl (rblock_sh hB (.ok rfl:Rm ts (.ok ((),ts.drop (c + 1))) () (c + 1) 0 0) hkK (by omega:d + 1≤9) hc3 (fun _=>by omega) (obj2 h2 h3 _ _ _)) fun v st' ⟨el,c4,ln4,e4,⟨lx,hv⟩,hc4,hst,hr4⟩=>?_
    subst hv
    subst hst
    rw [push2 h2 h3]
    refine goD ?_
    refine so1 (row':=sRow 4 t.line [] [] 0 nilV [] (.view 6 [exRow op num name field (.view 6 args .shared)] .shared) (.view 13 (spRows bd) .shared) (.view 13 (spRows el) .shared)) rfl rfl rfl rfl rfl (by exact Nat.le_of_ble_eq_true rfl) rfl ?_
    refine nl ⟨(.mk 4 t.line [] [] 0 [] [] [x] bd el,c4,ln4,e4,_),⟨hc4,?_,⟨_,_,_,_,_,_,_,_,_,_,rfl⟩,?_⟩,(tl2 rfl rfl),.refl _⟩
    ·rw [spv,spRow]
     exact sRow_le (.nilShared _ _) (by rw [hx1]; exact .refl _) (.refl _) (.refl _) rfl rfl rfl rfl
    ·rw [e1]
     have:=hr4.map fun p=>Sp.mk 4 t.line [] [] 0 [] [] [x] bd p.2
     simpa only [qp,qb_qb,qb_ret] using this
   | false =>
    rw [if_neg (by rw [← wk_kw B.ok rfl,c9]; decide)] at e1
    refine cle rfl rfl (B.is (obj2 h2 h3 _ _ _) wElse false c9) ?_
    refine goD ?_
    refine ⟨(.mk 4 t.line [] [] 0 [] [] [x] bd [],c,0,0,_),⟨hc2,?_,⟨_,_,_,_,_,_,_,_,_,_,rfl⟩,.ok e1⟩,(tl2 rfl rfl),.refl _⟩
    rw [spv,spRow]
    exact sRow_le (.nilShared _ _) (by rw [hx1]; exact .refl _) (.refl _) (.nilShared _ _) rfl rfl rfl rfl
  ·have q0:¬ (e2:Int)=0:=by omega
   refine goD ?_
   refine ⟨(.mk 4 t.line [] [] 0 [] [] [x] bd [],c,ln2,e2,_),⟨hc2,?_,⟨_,_,_,_,_,_,_,_,_,_,rfl⟩,.inr ⟨q1,z,by rw [e1,qb_err q3],q4⟩⟩,(tl2 rfl rfl),.refl _⟩
   rw [spv,spRow]
   exact sRow_le (.nilShared _ _) (by rw [hx1]; exact .refl _) (.refl _) (.nilShared _ _) rfl rfl rfl rfl
 rw [decide_eq_false c2,if_neg (by decide)] at e0
 have c2':¬ w=[105,102]:=c2
 by_cases c3:w=wWhile
 ·obtain rfl:=hsub wWhile (by decide) c3
  rw [decide_eq_true c3,if_pos rfl] at e0
  have c3':w=[119,104,105,108,101]:=c3
  refine goD ?_
  refine cl rfl rfl (rexpr_ok H (obj2 h2 h3 _ _ _) ha1) fun v st' ⟨x,b,ln,e,hv,hb2,hst,hr⟩=>?_
  subst hst
  rw [push2 h2 h3]
  obtain ⟨op,num,name,field,args,hx⟩:=xrow_ex x
  unfold VX xv at hv
  rw [hx] at hv
  subst hv
  have hx1:xrows [x]=[exRow op num name field (.view 6 args .shared)]:=by show [xrow x]=_; rw [hx] <;> rfl
  refine bsh (cs:=exRow op num name field (.view 6 args .shared)) rfl rfl rfl rfl rfl ?_
  refine goE ?_
  refine so1 (row':=sRow 5 t.line [] [] 0 nilV [] nilV nilV nilV) rfl rfl rfl rfl rfl (by exact Nat.le_of_ble_eq_true rfl) rfl ?_
  refine goE ?_
  refine so1 (row':=sRow 5 t.line [] [] 0 nilV [] (.view 6 [exRow op num name field (.view 6 args .shared)] .shared) nilV nilV) rfl rfl rfl rfl rfl (by exact Nat.le_of_ble_eq_true rfl) rfl ?_
  refine goD ?_
  have hab:∀ y,qx (ts.drop (a + 1))=.ok (y,ts.drop b)→a + 1 < b:=fun y h=>drop_lt ha1 (qx_lt h)
  have hbk:e=0→3 * (ts.length - b) < k + 1:=fun h=>by
   rcases hr with ⟨_,_,q⟩|⟨q,_⟩
   ·have:=hab _ q; omega
   ·omega
  refine cl rfl rfl (rblock_sh hB hr hkK (by omega:d + 1≤9) hb2 hbk (obj2 h2 h3 _ _ _)) fun v st' ⟨bd,c,ln2,e2,⟨lx,hv⟩,hc2,hst,hr2⟩=>?_
  subst hv
  subst hst
  rw [push2 h2 h3]
  refine goD ?_
  refine so1 (row':=sRow 5 t.line [] [] 0 nilV [] (.view 6 [exRow op num name field (.view 6 args .shared)] .shared) (.view 13 (spRows bd) .shared) nilV) rfl rfl rfl rfl rfl (by exact Nat.le_of_ble_eq_true rfl) rfl ?_
  refine goD ?_
  refine ⟨(.mk 5 t.line [] [] 0 [] [] [x] bd [],c,ln2,e2,_),⟨hc2,?_,⟨_,_,_,_,_,_,_,_,_,_,rfl⟩,?_⟩,(tl2 rfl rfl),.refl _⟩
  ·rw [spv,spRow]
   exact sRow_le (.nilShared _ _) (by rw [hx1]; exact .refl _) (.refl _) (.nilShared _ _) rfl rfl rfl rfl
  ·rw [e0]
   have:=hr2.map fun p=>Sp.mk 5 t.line [] [] 0 [] [] [p.1] p.2 []
   simpa only [qp,qb_qb,qb_ret] using this
 rw [decide_eq_false c3,if_neg (by decide)] at e0
 have c3':¬ w=[119,104,105,108,101]:=c3
 by_cases c4:w=wTry
 ·obtain rfl:=hsub wTry (by decide) c4
  rw [decide_eq_true c4,if_pos rfl] at e0
  have c4':w=[116,114,121]:=c4
  refine goD ?_
  refine so1 (row':=sRow 8 t.line [] [] 0 nilV [] nilV nilV nilV) rfl rfl rfl rfl rfl (by exact Nat.le_of_ble_eq_true rfl) rfl ?_
  refine goD ?_
  refine cl rfl rfl (rblock_sh hB (.ok rfl:Rm ts (.ok ((),ts.drop (a + 1))) () (a + 1) 0 0) hkK (by omega:d + 1≤9) ha1 (fun _=>by omega) (obj2 h2 h3 _ _ _)) fun v st' ⟨bd,b,ln,e,⟨lx,hv⟩,hb2,hst,hr⟩=>?_
  subst hv
  subst hst
  rw [push2 h2 h3]
  refine goD ?_
  refine so1 (row':=sRow 8 t.line [] [] 0 nilV [] nilV (.view 13 (spRows bd) .shared) nilV) rfl rfl rfl rfl rfl (by exact Nat.le_of_ble_eq_true rfl) rfl ?_
  refine goD ?_
  refine cl rfl rfl (rcatch_u H hr hb2 (obj2 h2 h3 _ _ _)) fun v st' ⟨_,c,ln2,e2,_,hc2,hst,hr2⟩=>?_
  subst hst
  rw [push2 h2 h3]
  refine goD ?_
  refine cl rfl rfl (rname_u H hr2 hc2 (obj2 h2 h3 _ _ _)) fun v st' ⟨n,c3,ln3,e3,hv,hc3,hst,hr3⟩=>?_
  subst hv
  subst hst
  rw [push2 h2 h3]
  refine goD ?_
  refine so1 (row':=sRow 8 t.line n [] 0 nilV [] nilV (.view 13 (spRows bd) .shared) nilV) rfl rfl rfl rfl rfl (by exact Nat.le_of_ble_eq_true rfl) rfl ?_
  refine goD ?_
  have hbk:e3=0→3 * (ts.length - c3) < k + 1:=fun h=>by
   rcases hr3 with ⟨_,_,q⟩|⟨q,_⟩
   ·have hl:(ts.drop c3).length≤(ts.drop (a + 1)).length:=by
     have hq:QLe (ts.drop (a + 1)).length (qp (qp (qp (.ok ((),ts.drop (a + 1))) (fblk k (d + 1))) fcatch) fname):=by
      unfold qp
      simp only [qb_qb,qb_ret]
      refine ((fstm_all k).2.1 (d + 1) _).qb fun y r h=>?_
      refine QLe.qb (n:=(ts.drop (a + 1)).length) ?_ fun _ r h=>((fname_le r).mono h).qb fun _ r h=>.ok h
      unfold fcatch
      split
      ·exact .ok (Nat.le_trans (tail_le r) h)
      ·exact .err
     exact hq _ _ q
    simp only [List.length_drop] at hl
    omega
   ·omega
  refine cl rfl rfl (rblock_sh hB hr3 hkK (by omega:d + 1≤9) hc3 hbk (obj2 h2 h3 _ _ _)) fun v st' ⟨el,c4,ln4,e4,⟨ly,hv⟩,hc4,hst,hr4⟩=>?_
  subst hv
  subst hst
  rw [push2 h2 h3]
  refine goD ?_
  refine so1 (row':=sRow 8 t.line n [] 0 nilV [] nilV (.view 13 (spRows bd) .shared) (.view 13 (spRows el) .shared)) rfl rfl rfl rfl rfl (by exact Nat.le_of_ble_eq_true rfl) rfl ?_
  refine nl ⟨(.mk 8 t.line n [] 0 [] [] [] bd el,c4,ln4,e4,_),⟨hc4,?_,⟨_,_,_,_,_,_,_,_,_,_,rfl⟩,?_⟩,(tl2 rfl rfl),.refl _⟩
  ·rw [spv,spRow]
   exact sRow_le (.nilShared _ _) (.nilShared _ _) (.refl _) (.refl _) rfl rfl rfl rfl
  ·rw [e0]
   have:=hr4.map fun p=>Sp.mk 8 t.line p.1.2 [] 0 [] [] [] p.1.1.1.2 p.2
   simpa only [qp,qb_qb,qb_ret] using this
 rw [decide_eq_false c4,if_neg (by decide)] at e0
 have c4':¬ w=[116,114,121]:=c4
 by_cases c5:w=wReturn
 ·obtain rfl:=hsub wReturn (by decide) c5
  rw [decide_eq_true c5,if_pos rfl] at e0
  have c5':w=[114,101,116,117,114,110]:=c5
  refine goD ?_
  refine so1 (row':=sRow 6 t.line [] [] 0 nilV [] nilV nilV nilV) rfl rfl rfl rfl rfl (by exact Nat.le_of_ble_eq_true rfl) rfl ?_
  refine goD ?_
  refine cl rfl rfl (rvalue_ok H (kind:=6) (line:=t.line) (tgt:=nilV) true n3 (obj2 h2 h3 _ _ _) (St.obj_set _ _ _) ha1) fun v st' ⟨x,b,ln,e,hb2,hst,hr⟩=>?_
  subst hst
  rw [push2 h2 h3,St.set_set]
  refine goD ?_
  refine cl rfl rfl (rtake_u H hr hb2 (obj2 h2 h3 _ _ _) [59] rfl) fun v st' ⟨_,c,ln2,e2,_,hc2,hst,hr2⟩=>?_
  subst hst
  rw [push2 h2 h3]
  refine nl ⟨(.mk 6 t.line [] [] 0 [] x.1 x.2 [] [],c,ln2,e2,_),⟨hc2,?_,⟨_,_,_,_,_,_,_,_,_,_,rfl⟩,?_⟩,(tl2 rfl rfl),.refl _⟩
  ·rw [spv,spRow]
   exact sRow_le (.nilShared _ _) (nlv_le _) (.nilShared _ _) (.nilShared _ _) rfl rfl rfl rfl
  ·rw [e0]
   have:=hr2.map fun p=>Sp.mk 6 t.line [] [] 0 [] p.1.1 p.1.2 [] []
   simpa only [qp,qb_qb,qb_ret] using this
 rw [decide_eq_false c5,if_neg (by decide)] at e0
 have c5':¬ w=[114,101,116,117,114,110]:=c5
 by_cases c6:w=wThrow
 ·obtain rfl:=hsub wThrow (by decide) c6
  rw [decide_eq_true c6,if_pos rfl] at e0
  have c6':w=[116,104,114,111,119]:=c6
  refine goD ?_
  refine so1 (row':=sRow 7 t.line [] [] 0 nilV [] nilV nilV nilV) rfl rfl rfl rfl rfl (by exact Nat.le_of_ble_eq_true rfl) rfl ?_
  refine goD ?_
  refine cl rfl rfl (rvalue_ok H (kind:=7) (line:=t.line) (tgt:=nilV) false n3 (obj2 h2 h3 _ _ _) (St.obj_set _ _ _) ha1) fun v st' ⟨x,b,ln,e,hb2,hst,hr⟩=>?_
  subst hst
  rw [push2 h2 h3,St.set_set]
  refine goD ?_
  refine cl rfl rfl (rtake_u H hr hb2 (obj2 h2 h3 _ _ _) [59] rfl) fun v st' ⟨_,c,ln2,e2,_,hc2,hst,hr2⟩=>?_
  subst hst
  rw [push2 h2 h3]
  refine nl ⟨(.mk 7 t.line [] [] 0 [] x.1 x.2 [] [],c,ln2,e2,_),⟨hc2,?_,⟨_,_,_,_,_,_,_,_,_,_,rfl⟩,?_⟩,(tl2 rfl rfl),.refl _⟩
  ·rw [spv,spRow]
   exact sRow_le (.nilShared _ _) (nlv_le _) (.nilShared _ _) (.nilShared _ _) rfl rfl rfl rfl
  ·rw [e0]
   have:=hr2.map fun p=>Sp.mk 7 t.line [] [] 0 [] p.1.1 p.1.2 [] []
   simpa only [qp,qb_qb,qb_ret] using this
 rw [decide_eq_false c6,if_neg (by decide)] at e0
 have c6':¬ w=[116,104,114,111,119]:=c6
 by_cases c7:w=wPrint
 ·obtain rfl:=hsub wPrint (by decide) c7
  rw [decide_eq_true c7,if_pos rfl] at e0
  have c7':w=[112,114,105,110,116]:=c7
  refine goD ?_
  refine so1 (row':=sRow 9 t.line [] [] 0 nilV [] nilV nilV nilV) rfl rfl rfl rfl rfl (by exact Nat.le_of_ble_eq_true rfl) rfl ?_
  refine goD ?_
  refine cl rfl rfl (rvalue_ok H (kind:=9) (line:=t.line) (tgt:=nilV) false n3 (obj2 h2 h3 _ _ _) (St.obj_set _ _ _) ha1) fun v st' ⟨x,b,ln,e,hb2,hst,hr⟩=>?_
  subst hst
  rw [push2 h2 h3,St.set_set]
  refine goD ?_
  refine cl rfl rfl (rtake_u H hr hb2 (obj2 h2 h3 _ _ _) [59] rfl) fun v st' ⟨_,c,ln2,e2,_,hc2,hst,hr2⟩=>?_
  subst hst
  rw [push2 h2 h3]
  refine nl ⟨(.mk 9 t.line [] [] 0 [] x.1 x.2 [] [],c,ln2,e2,_),⟨hc2,?_,⟨_,_,_,_,_,_,_,_,_,_,rfl⟩,?_⟩,(tl2 rfl rfl),.refl _⟩
  ·rw [spv,spRow]
   exact sRow_le (.nilShared _ _) (nlv_le _) (.nilShared _ _) (.nilShared _ _) rfl rfl rfl rfl
  ·rw [e0]
   have:=hr2.map fun p=>Sp.mk 9 t.line [] [] 0 [] p.1.1 p.1.2 [] []
   simpa only [qp,qb_qb,qb_ret] using this
 rw [decide_eq_false c7,if_neg (by decide)] at e0
 have c7':¬ w=[112,114,105,110,116]:=c7
 obtain rfl:a1=a:=by
  rcases hw with ⟨q1,q2,_⟩|⟨_,_,q3⟩
  ·exfalso
   unfold begS at hb
   rw [q1,← q2] at hb
   have hm:w ∈ stWords:=List.contains_iff_mem.1 (by simpa using hb)
   simp only [stWords,List.mem_cons,List.not_mem_nil,or_false] at hm
   rcases hm with h|h|h|h|h|h|h
   ·exact c1 h
   ·exact c2 h
   ·exact c3 h
   ·exact c5 h
   ·exact c6 h
   ·exact c4 h
   ·exact c7 h
  ·exact q3
 refine goD ?_
 refine cl rfl rfl (reffect_ok H (line:=t.line) n3 (obj2 h2 h3 _ _ _) (St.obj_set _ _ _) ha) fun v st' ⟨m,b,ln,e,hb2,hst,hr⟩=>?_
 subst hst
 rw [push2 h2 h3,St.set_set]
 refine goD ?_
 refine cl rfl rfl (rtake_u H hr hb2 (obj2 h2 h3 _ _ _) [59] rfl) fun v st' ⟨_,c,ln2,e2,_,hc2,hst,hr2⟩=>?_
 subst hst
 rw [push2 h2 h3]
 refine nl ⟨(.mk m.kind t.line [] [] 0 m.target m.fn m.args [] [],c,ln2,e2,_),⟨hc2,?_,⟨_,_,_,_,_,_,_,_,_,_,rfl⟩,?_⟩,(tl2 rfl rfl),.refl _⟩
 ·rw [spv,spRow]
  exact sRow_le (nlv_le _) (nlv_le _) (.nilShared _ _) (.nilShared _ _) rfl rfl rfl rfl
 ·rw [e0]
  have:=hr2.map fun p=>Sp.mk p.1.kind t.line [] [] 0 p.1.target p.1.fn p.1.args [] []
  simpa only [qp,qb_qb,qb_ret] using this
end Go.Proofs
namespace Go.Proofs
open Go.AM
attribute [local irreducible] AWP AOps AAny ACalls

theorem rstm_all {ts:List Tk} (H:RdT ts):∀ K,RsOk ts K∧RbOk ts K
 | 0=>⟨fun k hk d a o st _ ha _ h=>by omega,fun k hk d a o st _ ha h=>by omega⟩
 | K + 1=>⟨rstm_step H (rstm_all H K).2,rblock_step H (rstm_all H K).1⟩
def VG (v:AV) (p:Prg):Prop:=v=.agg (pgRow p)
theorem Rm.fwd {α β:Type} {ts:List Tk} {r:QR α} {R:QR β} {f:α→List Tk→QR β} {x:α} {a ln e:Nat} (h:Rm ts r x a ln e) (hR:R=qb r f) :
  (e=0∧ln=0∧R=f x (ts.drop a)∧r=.ok (x,ts.drop a))∨((e=5∨e=7)∧∃ t,R=.error (e,t)∧ln=(hd t).line):=by
 rcases h with ⟨h1,h2,h3⟩|⟨h1,t,h3,h4⟩
 ·exact .inl ⟨h1,h2,by rw [hR,qb_ok h3],h3⟩
 ·exact .inr ⟨h1,t,by rw [hR,qb_err h3],h4⟩
theorem frecord_qp (ts:List Tk):frecord ts=qb (qp (qp (qp (fname ts) (fneed [123])) fnames) (fneed [125])) fun p r=>.ok (⟨p.1.1.1,p.1.2⟩,r):=by
 simp only [qp,qb_qb,qb_ret,frecord]
theorem tok2_ne {st:St} {tk tk2 tk':Nat} (h:((st.addTok tk).addTok tk2).tok tk'=false):tk'≠tk∧tk'≠tk2∧st.tok tk'=false:=by
 simp only [St.addTok] at h
 split at h
 ·cases h
 ·split at h
  ·cases h
  ·exact ⟨by assumption,by assumption,h⟩
theorem ffunc_qp {l l':List Tk} {t:Tk} (h1:hd l=t) (h2:l.tail=l'):ffunc l=qb (qp (qp (qp (qp (fname l') (fneed [40])) fpar) (fneed [41])) fun r4=>fblk (3 * r4.length + 1) 1 r4) fun p r5=>.ok (⟨t.line,p.1.1.1.1,p.1.1.2,p.2,(ahead l r5).line⟩,r5):=by
 subst h1
 subst h2
 simp only [qp,qb_qb,qb_ret,ffunc]
theorem rblock_f {α:Type} {ts:List Tk} (H:RdT ts) {r:QR α} {x:α} {a ln e o:Nat} {st:St} (hm:Rm ts r x a ln e) (ha:a < ts.length) (ho:st.obj o=some (rsC (ts.map tokRow) a ln e)) :
  ACalls Tryz.prog 53 [.cptr o 4 0 0,.int .i64 1] st (RbR ts o st r x fun r4=>fblk (3 * r4.length + 1) 1 r4) (fun _ _=>False):=by
 refine Go.Proofs.ACalls.toQ (rblock_u (rstm_all H (3 * (ts.drop a).length + 1)).2 hm (Nat.le_refl _) (by decide:1≤9) ha (fun _=>by rw [List.length_drop]; omega) ho) fun v st' ⟨l,ln',a',lnn,e',tk,h1,h2,h3,h4,h5,h6,h7⟩=>⟨l,ln',a',lnn,e',tk,h1,h2,h3,h4,h5,?_,h7⟩
 have e1:qp r (fun r4=>fblk (3 * r4.length + 1) 1 r4)=qp r (fblk (3 * (ts.drop a).length + 1) 1):=by
  unfold qp
  rcases hm with ⟨_,_,q⟩|⟨_,t,q,_⟩
  ·rw [qb_ok q,qb_ok q]
  ·rw [qb_err q,qb_err q]
 rw [e1]
 exact h6
theorem fnRow_le2 {f:Fn} {s:Nat} {rows:List (List AV)} {tk:Go.AM.Tok} (h:Le (.view s rows tk) (.view 1 (nrow f.params) .shared)) :
  Le (.agg [.str f.name,.int .i64 (f.line:Int),.view s rows tk,.view 13 (spRows (f.body++[endSp f.stop])) .shared]) (.agg (fnRow f)):=by
 refine .agg _ _ rfl (fun x hx=>by simp only [fnRow,List.mem_cons,List.not_mem_nil,or_false] at hx; rcases hx with rfl|rfl|rfl|rfl <;> rfl) fun i x y h1 h2=>?_
 match i,h1,h2 with
 | 0,h1,h2=>cases h1; cases h2; exact .refl _
 | 1,h1,h2=>cases h1; cases h2; exact .refl _
 | 2,h1,h2=>cases h1; cases h2; exact h
 | 3,h1,h2=>cases h1; cases h2; exact .refl _
 | n + 4,h1,_=>cases h1
theorem pg_le (R F:List (List AV)) (t1 t2:Go.AM.Tok):Le (.agg [.view 2 R t1,.view 4 F t2]) (.agg [.view 2 R .shared,.view 4 F .shared]):=by
 refine .agg _ _ rfl (fun x hx=>by simp only [List.mem_cons,List.not_mem_nil,or_false] at hx; rcases hx with rfl|rfl <;> rfl) fun i x y h1 h2=>?_
 match i,h1,h2 with
 | 0,h1,h2=>cases h1; cases h2; exact .shared _ _ _
 | 1,h1,h2=>cases h1; cases h2; exact .shared _ _ _
 | n + 2,h1,_=>cases h1
set_option maxHeartbeats 4000000 in
theorem rprogram_ok {ts:List Tk} (H:RdT ts) (h0:0 < ts.length) {o:Nat} {st:St} (ho:st.obj o=some (rsC (ts.map tokRow) 0 0 0)) :
  ACalls Tryz.prog 28 [.cptr o 4 0 0] st (RfR ts o st VG (fprog ts)) (fun _ _=>False):=by
 refine ACalls.inSet ho (ACalls.ofBody Tryz.func28 rfl Tryz.ntmps28 rfl ?_)
 have hlen:=H.len
 refine goC ?_
 refine rg ?_
 refine al rfl rfl fun o2 h2=>?_
 replace h2:=none_set h2
 refine goC ?_
 refine rg ?_
 refine al rfl rfl fun o3 h3=>?_
 replace h3:=none_set2 h3
 refine nl ?_
 have n32:o3≠o2:=Ne.symm (set_ne_new (h3 ob0 ob0))
 have n30:o3≠o:=Ne.symm (ne_inner (h3 ob0 ob0))
 refine AWP.weaken (T':=[(3,.cptr o3 2 0 0),(2,.cptr o2 2 0 0),(0,.cptr o 4 0 0)]) (st':=((st.set o (rsC (ts.map tokRow) 0 0 0)).set o2 (pgC nilV nilV)).set o3 (pgC nilV nilV)) (tl3 rfl rfl rfl) (.refl _) ?_
 refine AWP.nilIn (o:=o3) (i:=0) (j:=0) (row:=[nilV,nilV]) 60 2 (St.obj_set _ _ _) rfl rfl fun tk htk=>?_
 rw [show ∀ a b c e,((((st.set o a).set o2 b).set o3 c).addTok tk).set o3 e=((((st.addTok tk).set o a).set o2 b).set o3 c).set o3 e from fun _ _ _ _=>rfl,St.set_set]
 refine AWP.nilIn (o:=o3) (i:=0) (j:=1) (row:=[.view 2 [] (.own tk 60),nilV]) 36 4 (St.obj_set _ _ _) rfl rfl fun tk2 htk2=>?_
 rw [show ∀ a b c e,(((((st.addTok tk).set o a).set o2 b).set o3 c).addTok tk2).set o3 e=(((((st.addTok tk).addTok tk2).set o a).set o2 b).set o3 c).set o3 e from fun _ _ _ _=>rfl,St.set_set]
 replace htk2:(st.addTok tk).tok tk2=false:=htk2
 replace htk:st.tok tk=false:=htk
 have hG:fprog ts=qb (frecs (ts.length + 1) [] ts) fun R r=>qb (ffuns (r.length + 1) [] r) fun F r2=>if (hd r2).kind=0 then .ok ((R,F),r2) else .error (7,r2):=rfl
 generalize hGG:fprog ts=G at hG ⊢
 refine AWP.seq ?_
 refine AWP.cutK (α:=List Rec × Nat × Nat × Nat × Nat) (fun _=>[(3,.cptr o3 2 0 0),(2,.cptr o2 2 0 0),(0,.cptr o 4 0 0)])
  (fun y=>((((st.addTok y.2.2.2.2).addTok tk2).set o (rsC (ts.map tokRow) y.2.1 y.2.2.1 y.2.2.2.1)).set o2 (pgC nilV nilV)).set o3 (pgC (.view 2 (y.1.map recRow) (.own y.2.2.2.2 60)) (.view 4 [] (.own tk2 36))))
  (fun y=>y.2.1 < ts.length∧st.tok y.2.2.2.2=false∧(st.addTok y.2.2.2.2).tok tk2=false∧((y.2.2.2.1=0∧y.2.2.1=0∧G=qb (ffuns ((ts.drop y.2.1).length + 1) [] (ts.drop y.2.1)) fun F r2=>if (hd r2).kind=0 then .ok ((y.1,F),r2) else .error (7,r2))∨((y.2.2.2.1=5∨y.2.2.2.1=7)∧∃ t,G=.error (y.2.2.2.1,t)∧y.2.2.1=(hd t).line))) ?_ ?_
 ·refine AWP.block ?_
  refine AWP.loop (α:=List Rec × Nat × Nat × Nat × Nat × Nat) (fun _=>[(3,.cptr o3 2 0 0),(2,.cptr o2 2 0 0),(0,.cptr o 4 0 0)])
   (fun y=>((((st.addTok y.2.2.2.2.1).addTok tk2).set o (rsC (ts.map tokRow) y.2.1 y.2.2.1 y.2.2.2.1)).set o2 (pgC nilV nilV)).set o3 (pgC (.view 2 (y.1.map recRow) (.own y.2.2.2.2.1 60)) (.view 4 [] (.own tk2 36))))
   (fun y=>y.2.1 < ts.length∧st.tok y.2.2.2.2.1=false∧(st.addTok y.2.2.2.2.1).tok tk2=false∧y.1.length≤ts.length + 1∧((y.2.2.2.1=0∧y.2.2.1=0∧y.1.length≤y.2.1∧(ts.drop y.2.1).length < y.2.2.2.2.2∧G=qb (frecs y.2.2.2.2.2 y.1 (ts.drop y.2.1)) fun R r=>qb (ffuns (r.length + 1) [] r) fun F r2=>if (hd r2).kind=0 then .ok ((R,F),r2) else .error (7,r2))∨((y.2.2.2.1=5∨y.2.2.2.1=7)∧∃ t,G=.error (y.2.2.2.1,t)∧y.2.2.1=(hd t).line)))
   (fun y=>if y.2.2.2.1=0 then ts.length - y.2.1 + 1 else 0) ([],0,0,0,tk,ts.length + 1) ⟨h0,htk,htk2,Nat.zero_le _,.inl ⟨rfl,rfl,Nat.le_refl _,by simp,hG⟩⟩ (tl3 rfl rfl rfl) (.refl _) ?_
  clear htk htk2 tk
  rintro ⟨R,b,ln,e,tk,fu⟩ ⟨hb,htk,htk2,hRl,hI⟩
  simp only at hb htk htk2 hRl hI
  refine AWP.weaken (T':=[(3,.cptr o3 2 0 0),(2,.cptr o2 2 0 0),(0,.cptr o 4 0 0)]) (st':=((((st.addTok tk).addTok tk2).set o (rsC (ts.map tokRow) b ln e)).set o2 (pgC nilV nilV)).set o3 (pgC (.view 2 (R.map recRow) (.own tk 60)) (.view 4 [] (.own tk2 36)))) (tl3 rfl rfl rfl) (.refl _) ?_
  obtain ⟨B,hBB⟩:∃ B,B=(st.addTok tk).addTok tk2:=⟨_,rfl⟩
  have h2B:∀ r,(B.set o r).obj o2=none:=fun r=>by rw [hBB]; exact h2 r
  have h3B:∀ r z,((B.set o r).set o2 z).obj o3=none:=fun r z=>by rw [hBB]; exact h3 r z
  have htkB:B.tok tk=true:=by
   rw [hBB]
   simp only [St.addTok]
   split
   ·rfl
   ·simp
  rw [← hBB]
  have hM:(((B.set o (rsC (ts.map tokRow) b ln e)).set o2 (pgC nilV nilV)).set o3 (pgC (.view 2 (R.map recRow) (.own tk 60)) (.view 4 [] (.own tk2 36)))).obj o=some (.cells 69 4 [[.view 4 (ts.map tokRow) .shared,.int .i64 (b:Int),.int .i64 (ln:Int),.int .i64 (e:Int)]]):=obj2 h2B h3B _ _ _
  rcases hI with ⟨rfl,rfl,hRb,hfu,hI⟩|⟨he,u,k3,k4⟩
  ·obtain ⟨t,A⟩:=at_of H hb
   obtain ⟨fu,rfl⟩:∃ f,fu=f + 1:=⟨fu - 1,by omega⟩
   rw [frecs,A.hd_,A.tl] at hI
   refine goD ?_
   cases c1:wk t wRecord with
   | false =>
    rw [if_neg (by rw [← wk_kw A.ok rfl,c1]; decide),qb_ok rfl] at hI
    refine cle rfl rfl (A.is (obj2 h2B h3B _ _ _) wRecord false c1) ?_
    refine goD ?_
    refine AWP.exit (blk_hit ?_)
    exact ⟨(R,b,0,0,tk),⟨hb,htk,htk2,.inl ⟨rfl,rfl,hI⟩⟩,(tl3 rfl rfl rfl),by rw [hBB]; exact .refl _⟩
   | true =>
    rw [if_pos (by rw [← wk_kw A.ok rfl]; exact c1)] at hI
    have hb1:=A.more (wk_kind c1)
    refine cle rfl rfl (A.is (obj2 h2B h3B _ _ _) wRecord true c1) ?_
    refine goD ?_
    refine so (rows':=[[.view 4 (ts.map tokRow) .shared,.int .i64 ((b + 1:Nat):Int),.int .i64 0,.int .i64 0]]) rfl rfl rfl hM rfl rfl rfl rfl rfl ?_
    rw [push2 h2B h3B]
    refine goD ?_
    refine cl rfl rfl (rname_ok H (obj2 h2B h3B _ _ _) hb1) fun v st' ⟨n,c,ln,e,hv,hc,hst,hr⟩=>?_
    subst hv
    subst hst
    rw [push2 h2B h3B]
    skip
    refine bds (cs:=[.str n,nilV]) rfl rfl rfl rfl ?_
    refine al rfl rfl fun o4 h4=>?_
    replace h4:=none_set3 h4
    refine soV rfl rfl rfl rfl rfl rfl ?_
    refine goD ?_
    refine cl rfl rfl (rtake_u H hr hc (obj3 h2B h3B h4 _ _ _ _) [123] rfl) fun v st' ⟨_,c,ln,e,_,hc,hst,hr⟩=>?_
    subst hst
    rw [push3 h2B h3B h4]
    refine goD ?_
    refine cl rfl rfl (rnames_u H hr hc (obj3 h2B h3B h4 _ _ _ _)) fun v st' ⟨l,c,ln,e,hv,hc,hst,hr⟩=>?_
    subst hv
    subst hst
    rw [push3 h2B h3B h4]
    refine goD ?_
    refine so1 (row':=[.str n,.view 1 (nrow l) .shared]) rfl rfl rfl rfl rfl (by exact Nat.le_of_ble_eq_true rfl) rfl ?_
    refine goD ?_
    refine cl rfl rfl (rtake_u H hr hc (obj3 h2B h3B h4 _ _ _ _) [125] rfl) fun v st' ⟨_,c,ln,e,_,hc,hst,hr⟩=>?_
    subst hst
    rw [push3 h2B h3B h4]
    have n43:o4≠o3:=Ne.symm (set_ne_new (h4 ob0 ob0 ob0))
    have hO3:((((B.set o (rsC (ts.map tokRow) c ln e)).set o2 (pgC nilV nilV)).set o3 (pgC (.view 2 (R.map recRow) (.own tk 60)) (.view 4 [] (.own tk2 36)))).set o4 (.cells 60 2 [[.str n,.view 1 (nrow l) .shared]])).obj o3=some (.cells 28 2 [[.view 2 (R.map recRow) (.own tk 60),.view 4 [] (.own tk2 36)]]):=St.obj_under n43 _ _
    refine goD ?_
    refine ap rfl rfl rfl htkB rfl (by simp only [List.length_cons,List.length_nil,List.length_map]; omega) (by simp only [List.length_cons,List.length_nil,List.length_map,maxLen]; omega) fun tk' htk'=>?_
    have hm:R.map recRow++[(AV.agg [.str n,.view 1 (nrow l) .shared]).cells]=(R++[(⟨n,l⟩:Rec)]).map recRow:=by rw [List.map_append]; rfl
    rw [hm]
    refine goE ?_
    refine so (rows':=[[.view 2 ((R++[(⟨n,l⟩:Rec)]).map recRow) (.own tk' 60),.view 4 [] (.own tk2 36)]]) rfl rfl rfl hO3 rfl rfl rfl rfl rfl ?_
    refine nl ?_
    obtain ⟨u1,u2,u3⟩:=tok2_ne (st:=st) (tk:=tk) (tk2:=tk2) (tk':=tk') (by rw [hBB] at htk'; exact htk')
    have hrec:=hr.map fun p=>(⟨p.1.1.1,p.1.2⟩:Rec)
    rw [← frecord_qp] at hrec
    have hfw:=hrec.fwd (R:=G) (f:=fun x r=>qb (frecs fu (R++[x]) r) fun R r=>qb (ffuns (r.length + 1) [] r) fun F r2=>if (hd r2).kind=0 then .ok ((R,F),r2) else .error (7,r2)) (by rw [hI,qb_qb])
    refine ⟨(R++[⟨n,l⟩],c,ln,e,tk',fu),⟨hc,u3,?_,by simp only [List.length_append,List.length_cons,List.length_nil]; omega,?_⟩,?_,(tl3 rfl rfl rfl),?_⟩
    ·simp only [St.addTok] at htk2 ⊢
     rw [if_neg (Ne.symm u2)]
     split at htk2
     ·cases htk2
     ·exact htk2
    ·simp only
     rcases hfw with ⟨q1,q2,q3,q4⟩|hq
     ·have hcl:=frecord_l1 _ _ _ q4
      simp only [List.length_drop] at hcl hfu ⊢
      exact .inl ⟨q1,q2,by simp only [List.length_append,List.length_cons,List.length_nil]; omega,by omega,by simp only at q3; exact q3⟩
     ·exact .inr hq
    ·simp only [if_pos]
     rcases hfw with ⟨q1,q2,q3,q4⟩|⟨q1,_⟩
     ·have hcl:=frecord_l1 _ _ _ q4
      simp only [List.length_drop] at hcl
      rw [if_pos q1]
      omega
     ·rw [if_neg (by omega)]
      omega
    ·subst hBB
     show StLe (((((((((st.addTok tk).addTok tk2).untok tk).addTok tk').set o _).set o2 _).set o3 _).set o4 _).set o3 _) _
     rw [St.set_comm _ n43,St.set_set]
     refine StLe.new (h4 _ _ _) ?_
     exact StLe.set _ _ (StLe.set _ _ (StLe.set _ _ (re2 htk htk2)))
  ·have he0:¬ (e:Int)=0:=by omega
   refine goD ?_
   refine AWP.exit (blk_hit ?_)
   exact ⟨(R,b,ln,e,tk),⟨hb,htk,htk2,.inr ⟨he,u,k3,k4⟩⟩,(tl3 rfl rfl rfl),by rw [hBB]; exact .refl _⟩
 clear htk htk2 tk hG
 rintro ⟨R,b0,ln0,e0,tk⟩ ⟨hb0,htk,htk20,hI0⟩
 simp only at hb0 htk htk20 hI0
 refine AWP.seq ?_
 refine AWP.cutK (α:=List Fn × Nat × Nat × Nat × Nat) (fun _=>[(3,.cptr o3 2 0 0),(2,.cptr o2 2 0 0),(0,.cptr o 4 0 0)])
  (fun y=>((((st.addTok tk).addTok y.2.2.2.2).set o (rsC (ts.map tokRow) y.2.1 y.2.2.1 y.2.2.2.1)).set o2 (pgC nilV nilV)).set o3 (pgC (.view 2 (R.map recRow) (.own tk 60)) (.view 4 (y.1.map fnRow) (.own y.2.2.2.2 36))))
  (fun y=>y.2.1 < ts.length∧((y.2.2.2.1=0∧y.2.2.1=0∧G=if (hd (ts.drop y.2.1)).kind=0 then .ok ((R,y.1),ts.drop y.2.1) else .error (7,ts.drop y.2.1))∨((y.2.2.2.1=5∨y.2.2.2.1=7)∧∃ t,G=.error (y.2.2.2.1,t)∧y.2.2.1=(hd t).line))) ?_ ?_
 ·refine AWP.block ?_
  refine AWP.loop (α:=List Fn × Nat × Nat × Nat × Nat × Nat) (fun _=>[(3,.cptr o3 2 0 0),(2,.cptr o2 2 0 0),(0,.cptr o 4 0 0)])
   (fun y=>((((st.addTok tk).addTok y.2.2.2.2.1).set o (rsC (ts.map tokRow) y.2.1 y.2.2.1 y.2.2.2.1)).set o2 (pgC nilV nilV)).set o3 (pgC (.view 2 (R.map recRow) (.own tk 60)) (.view 4 (y.1.map fnRow) (.own y.2.2.2.2.1 36))))
   (fun y=>y.2.1 < ts.length∧(st.addTok tk).tok y.2.2.2.2.1=false∧y.1.length≤ts.length + 1∧((y.2.2.2.1=0∧y.2.2.1=0∧y.1.length≤y.2.1∧(ts.drop y.2.1).length < y.2.2.2.2.2∧G=qb (ffuns y.2.2.2.2.2 y.1 (ts.drop y.2.1)) fun F r2=>if (hd r2).kind=0 then .ok ((R,F),r2) else .error (7,r2))∨((y.2.2.2.1=5∨y.2.2.2.1=7)∧∃ t,G=.error (y.2.2.2.1,t)∧y.2.2.1=(hd t).line)))
   (fun y=>if y.2.2.2.1=0 then ts.length - y.2.1 + 1 else 0) ([],b0,ln0,e0,tk2,(ts.drop b0).length + 1) ⟨hb0,htk20,Nat.zero_le _,?_⟩ (tl3 rfl rfl rfl) (.refl _) ?_
  ·rcases hI0 with ⟨q1,q2,q3⟩|hq
   ·exact .inl ⟨q1,q2,Nat.zero_le _,by simp only; omega,q3⟩
   ·exact .inr hq
  clear htk20 hI0 hb0 tk2
  rintro ⟨F,b,ln,e,tk2,fu⟩ ⟨hb,htk2,hFl,hI⟩
  simp only at hb htk2 hFl hI
  refine AWP.weaken (T':=[(3,.cptr o3 2 0 0),(2,.cptr o2 2 0 0),(0,.cptr o 4 0 0)]) (st':=((((st.addTok tk).addTok tk2).set o (rsC (ts.map tokRow) b ln e)).set o2 (pgC nilV nilV)).set o3 (pgC (.view 2 (R.map recRow) (.own tk 60)) (.view 4 (F.map fnRow) (.own tk2 36)))) (tl3 rfl rfl rfl) (.refl _) ?_
  obtain ⟨B,hBB⟩:∃ B,B=(st.addTok tk).addTok tk2:=⟨_,rfl⟩
  have h2B:∀ r,(B.set o r).obj o2=none:=fun r=>by rw [hBB]; exact h2 r
  have h3B:∀ r z,((B.set o r).set o2 z).obj o3=none:=fun r z=>by rw [hBB]; exact h3 r z
  have htkB:B.tok tk2=true:=by rw [hBB]; exact St.tok_addTok _ _
  rw [← hBB]
  obtain ⟨PG,hPG⟩:∃ PG,PG=pgC (.view 2 (R.map recRow) (.own tk 60)) (.view 4 (F.map fnRow) (.own tk2 36)):=⟨_,rfl⟩
  rw [← hPG]
  have hM:(((B.set o (rsC (ts.map tokRow) b ln e)).set o2 (pgC nilV nilV)).set o3 PG).obj o=some (.cells 69 4 [[.view 4 (ts.map tokRow) .shared,.int .i64 (b:Int),.int .i64 (ln:Int),.int .i64 (e:Int)]]):=obj2 h2B h3B _ _ _
  rcases hI with ⟨rfl,rfl,hRb,hfu,hI⟩|⟨he,u,k3,k4⟩
  ·obtain ⟨t,A⟩:=at_of H hb
   obtain ⟨fu,rfl⟩:∃ f,fu=f + 1:=⟨fu - 1,by omega⟩
   rw [ffuns,A.hd_] at hI
   refine goD ?_
   cases c1:wk t wFunc with
   | false =>
    rw [if_neg (by rw [← wk_kw A.ok rfl,c1]; decide),qb_ok rfl] at hI
    refine cle rfl rfl (A.is (obj2 h2B h3B _ _ _) wFunc false c1) ?_
    refine goD ?_
    refine AWP.exit (blk_hit ?_)
    exact ⟨(F,b,0,0,tk2),⟨hb,.inl ⟨rfl,rfl,hI⟩⟩,(tl3 rfl rfl rfl),by rw [hBB,hPG]; exact .refl _⟩
   | true =>
    rw [if_pos (by rw [← wk_kw A.ok rfl]; exact c1)] at hI
    have hb1:=A.more (wk_kind c1)
    have hqf:=ffunc_qp A.hd_ A.tl
    refine cle rfl rfl (A.is (obj2 h2B h3B _ _ _) wFunc true c1) ?_
    refine goD ?_
    obtain ⟨t',w1,w2,w3,w4,w5⟩:=map_at hb
    have hw:=A.at_
    rw [w1] at hw
    cases hw
    refine AWP.draw rfl 13 12 (fun v s=>∃ o4,v=.cptr o4 4 0 0∧(((B.set o (rsC (ts.map tokRow) b 0 0)).set o2 (pgC nilV nilV)).set o3 PG).obj o4=none∧s=(((B.set o (rsC (ts.map tokRow) b 0 0)).set o2 (pgC nilV nilV)).set o3 PG).set o4 (fC [] 0 nilV nilV)) rfl ?_
    repeat (first|refine ds rfl rfl ?_|refine dp (h:=fun _ _=>ZF (z:=nz)) (z:=?_)|refine dp (h:=fun _ _=>ZC (z:=nz)) (z:=?_)|refine dp (h:=fun _ _=>ZM (z:=nz)) (z:=?_)|refine dp (h:=fun _ _=>ZH (z:=nz)) (z:=?_))
    refine dp (h:=fun _ _=>bds (cs:=[.str [],.int .i64 (t.line:Int),nilV,nilV]) rfl rfl rfl rfl nz) (z:=?_)
    refine de rfl rfl rfl ?_ ?_
    ·exact al rfl rfl fun o4 h4=>nl ⟨_,rfl,⟨o4,rfl,h4,rfl⟩,⟨fun x c hx=>St.obj_new h4 hx,fun _ h=>(by cases h),rfl⟩⟩
    refine dn ⟨fun h=>absurd h (by decide),fun _=>?_⟩
    rintro v s1 d7 hd7 ⟨o4,rfl,h4,rfl⟩
    cases hd7
    replace h4:=none_set3 h4
    have n43:o4≠o3:=Ne.symm (set_ne_new (h4 ob0 ob0 ob0))
    refine soV rfl rfl rfl rfl rfl rfl ?_
    have hM1:((((B.set o (rsC (ts.map tokRow) b 0 0)).set o2 (pgC nilV nilV)).set o3 PG).set o4 (.cells 36 4 [[.str [],.int .i64 (t.line:Int),nilV,nilV]])).obj o=some (.cells 69 4 [[.view 4 (ts.map tokRow) .shared,.int .i64 (b:Int),.int .i64 0,.int .i64 0]]):=obj3 h2B h3B h4 _ _ _ _
    refine goD ?_
    refine so (rows':=[[.view 4 (ts.map tokRow) .shared,.int .i64 ((b + 1:Nat):Int),.int .i64 0,.int .i64 0]]) rfl rfl rfl hM1 rfl rfl rfl rfl rfl ?_
    rw [push3 h2B h3B h4]
    refine goD ?_
    refine cl rfl rfl (rname_ok H (obj3 h2B h3B h4 _ _ _ _) hb1) fun v st' ⟨n,c,ln,e,hv,hc,hst,hr⟩=>?_
    subst hv
    subst hst
    rw [push3 h2B h3B h4]
    refine goD ?_
    refine so1 (row':=[.str n,.int .i64 (t.line:Int),nilV,nilV]) rfl rfl rfl rfl rfl (by exact Nat.le_of_ble_eq_true rfl) rfl ?_
    refine goD ?_
    refine cl rfl rfl (rtake_u H hr hc (obj3 h2B h3B h4 _ _ _ _) [40] rfl) fun v st' ⟨_,c,ln,e,_,hc,hst,hr⟩=>?_
    subst hst
    rw [push3 h2B h3B h4]
    refine nl ?_
    refine AWP.weaken (T':=[(5,.cptr o4 4 0 0),(3,.cptr o3 2 0 0),(2,.cptr o2 2 0 0),(0,.cptr o 4 0 0)]) (st':=(((B.set o (rsC (ts.map tokRow) c ln e)).set o2 (pgC nilV nilV)).set o3 PG).set o4 (fC n t.line nilV nilV)) (tl4 rfl rfl rfl rfl) (.refl _) ?_
    refine AWP.seq ?_
    refine AWP.cutK (α:=Nat × List (List AV) × Go.AM.Tok × Names × Nat × Nat × Nat) (fun _=>[(5,.cptr o4 4 0 0),(3,.cptr o3 2 0 0),(2,.cptr o2 2 0 0),(0,.cptr o 4 0 0)]) (fun y=>(((B.set o (rsC (ts.map tokRow) y.2.2.2.2.1 y.2.2.2.2.2.1 y.2.2.2.2.2.2)).set o2 (pgC nilV nilV)).set o3 PG).set o4 (fC n t.line (.view y.1 y.2.1 y.2.2.1) nilV))
     (fun y=>y.2.2.2.2.1 < ts.length∧Le (.view y.1 y.2.1 y.2.2.1) (.view 1 (nrow y.2.2.2.1) .shared)∧Rm ts (qp (qp (fname (ts.drop (b + 1))) (fneed [40])) fpar) ((n,()),y.2.2.2.1) y.2.2.2.2.1 y.2.2.2.2.2.1 y.2.2.2.2.2.2) ?_ ?_
    ·have hM2:((((B.set o (rsC (ts.map tokRow) c ln e)).set o2 (pgC nilV nilV)).set o3 PG).set o4 (fC n t.line nilV nilV)).obj o=some (.cells 69 4 [[.view 4 (ts.map tokRow) .shared,.int .i64 (c:Int),.int .i64 (ln:Int),.int .i64 (e:Int)]]):=obj3 h2B h3B h4 _ _ _ _
     rcases hr with ⟨rfl,rfl,q3⟩|⟨q1,z,q3,q4⟩
     ·obtain ⟨u,D⟩:=at_of H hc
      have e1:qp (qp (fname (ts.drop (b + 1))) (fneed [40])) fpar=qb (if sg u [41] then .ok ([],ts.drop c) else fnames (ts.drop c)) fun y t'=>.ok (((n,()),y),t'):=by
       rw [q3,qp,qb_ok rfl,fpar,D.hd_]
      refine goD ?_
      cases c2:wk u [41] with
      | true =>
       rw [if_pos (by rw [← wk_sg D.ok rfl]; exact c2)] at e1
       refine cle rfl rfl (D.is (obj3 h2B h3B h4 _ _ _ _) [41] true c2) ?_
       refine goD ?_
       exact ⟨(0,[],.nil,[],c,0,0),⟨hc,.nilShared _ _,.ok e1⟩,(tl4 rfl rfl rfl rfl),.refl _⟩
      | false =>
       rw [if_neg (by rw [← wk_sg D.ok rfl,c2]; decide)] at e1
       refine cle rfl rfl (D.is (obj3 h2B h3B h4 _ _ _ _) [41] false c2) ?_
       refine goD ?_
       refine cl rfl rfl (rnames_ok H (obj3 h2B h3B h4 _ _ _ _) hc) fun v st' ⟨l,c,ln,e,hv,hc,hst,hr⟩=>?_
       subst hv
       subst hst
       rw [push3 h2B h3B h4]
       unfold fC
       refine goE ?_
       refine so1 (row':=[.str n,.int .i64 (t.line:Int),.view 1 (nrow l) .shared,nilV]) rfl rfl rfl rfl rfl (by exact Nat.le_of_ble_eq_true rfl) rfl ?_
       refine nl ⟨(1,nrow l,.shared,l,c,ln,e),⟨hc,.refl _,by rw [e1]; exact hr.map _⟩,(tl4 rfl rfl rfl rfl),.refl _⟩
     ·have q0:¬ (e:Int)=0:=by omega
      refine goD ?_
      exact ⟨(0,[],.nil,[],c,ln,e),⟨hc,.nilShared _ _,.inr ⟨q1,z,by rw [qp,qb_err q3],q4⟩⟩,(tl4 rfl rfl rfl rfl),.refl _⟩
    clear hr hc
    rintro ⟨sz,rows,tkp,ps,c,ln,e⟩ ⟨hc,hps,hr⟩
    simp only at hc hps hr
    show AWP _ _ _ _ _ _ ((((B.set o (rsC (ts.map tokRow) c ln e)).set o2 (pgC nilV nilV)).set o3 PG).set o4 (.cells 36 4 [[.str n,.int .i64 (t.line:Int),.view sz rows tkp,nilV]]))
    refine goD ?_
    refine cl rfl rfl (rtake_u H hr hc (obj3 h2B h3B h4 _ _ _ _) [41] rfl) fun v st' ⟨_,c,ln,e,_,hc,hst,hr⟩=>?_
    subst hst
    rw [push3 h2B h3B h4]
    refine goD ?_
    refine cl rfl rfl (rblock_f H hr hc (obj3 h2B h3B h4 _ _ _ _)) fun v st' ⟨bd,le,c,ln,e,tk5,hv,hc,htk5,hst,hbl,hr,hle⟩=>?_
    subst hv
    subst hst
    rw [push3 h2B h3B h4]
    refine goD ?_
    refine bds (cs:=sRow 10 le [] [] 0 nilV [] nilV nilV nilV) rfl rfl rfl rfl ?_
    refine bs1 (v:=.agg (sRow 10 le [] [] 0 nilV [] nilV nilV nilV)) rfl rfl rfl rfl rfl rfl ?_
    refine ap rfl rfl rfl (St.tok_addTok _ tk5) rfl (by simp only [List.length_cons,List.length_nil,spRows_len]; omega) (by simp only [List.length_cons,List.length_nil,spRows_len,maxLen]; omega) fun tk6 htk6=>?_
    refine AOps.weaken (T':=[(97,.view 13 (spRows (bd++[endSp le])) .shared),(5,.cptr o4 4 0 0),(3,.cptr o3 2 0 0),(2,.cptr o2 2 0 0),(0,.cptr o 4 0 0)]) (st':=(((B.set o (rsC (ts.map tokRow) c ln e)).set o2 (pgC nilV nilV)).set o3 PG).set o4 (.cells 36 4 [[.str n,.int .i64 (t.line:Int),.view sz rows tkp,nilV]])) (TLe.cons rfl (.trans _ _ _ (.shared _ _ _) (endRows_le bd le)) (tl4 rfl rfl rfl rfl)) ((StLe.reTok (st:=(((B.set o (rsC (ts.map tokRow) c ln e)).set o2 (pgC nilV nilV)).set o3 PG).set o4 (.cells 36 4 [[.str n,.int .i64 (t.line:Int),.view sz rows tkp,nilV]])) htk5 tk6).trans (StLe.addTok _ (.refl _))) ?_
    refine goE ?_
    refine so1 (row':=[.str n,.int .i64 (t.line:Int),.view sz rows tkp,.view 13 (spRows (bd++[endSp le])) .shared]) rfl rfl rfl rfl rfl (by exact Nat.le_of_ble_eq_true rfl) rfl ?_
    have hO3:((((B.set o (rsC (ts.map tokRow) c ln e)).set o2 (pgC nilV nilV)).set o3 PG).set o4 (.cells 36 4 [[.str n,.int .i64 (t.line:Int),.view sz rows tkp,.view 13 (spRows (bd++[endSp le])) .shared]])).obj o3=some (.cells 28 2 [[.view 2 (R.map recRow) (.own tk 60),.view 4 (F.map fnRow) (.own tk2 36)]]):=by rw [hPG]; exact St.obj_under n43 _ _
    refine nl ?_
    refine rg ?_
    refine fa rfl rfl ?_
    refine lc rfl rfl hO3 rfl rfl ?_
    refine lcW rfl rfl rfl (St.obj_set _ _ _) rfl rfl ?_
    refine AOps.weaken (T':=[(101,.agg (fnRow ⟨t.line,n,ps,bd,le⟩)),(100,.view 4 (F.map fnRow) (.own tk2 36)),(3,.cptr o3 2 0 0),(2,.cptr o2 2 0 0),(0,.cptr o 4 0 0)]) (TLe.cons rfl (fnRow_le2 (f:=⟨t.line,n,ps,bd,le⟩) hps) (tl4 rfl rfl rfl rfl)) (.refl _) ?_
    refine bs1 (v:=.agg (fnRow ⟨t.line,n,ps,bd,le⟩)) rfl rfl rfl rfl rfl rfl ?_
    refine ap rfl rfl rfl htkB rfl (by simp only [List.length_cons,List.length_nil,List.length_map]; omega) (by simp only [List.length_cons,List.length_nil,List.length_map,maxLen]; omega) fun tk' htk'=>?_
    have hm:F.map fnRow++[(AV.agg (fnRow ⟨t.line,n,ps,bd,le⟩)).cells]=(F++[(⟨t.line,n,ps,bd,le⟩:Fn)]).map fnRow:=by rw [List.map_append]; rfl
    rw [hm]
    refine goE ?_
    refine so (rows':=[[.view 2 (R.map recRow) (.own tk 60),.view 4 ((F++[(⟨t.line,n,ps,bd,le⟩:Fn)]).map fnRow) (.own tk' 36)]]) rfl rfl rfl hO3 rfl rfl rfl rfl rfl ?_
    refine nl ?_
    obtain ⟨u1,u2,u3⟩:=tok2_ne (st:=st) (tk:=tk) (tk2:=tk2) (tk':=tk') (by rw [hBB] at htk'; exact htk')
    have hfn:Rm ts (ffunc (ts.drop b)) ⟨t.line,n,ps,bd,le⟩ c ln e:=by
     refine hr.to (fun h=>?_) (fun z h=>by rw [hqf,qb_err h])
     rw [hqf,qb_ok h]
     have h1:=ffunc_l1 (ts.drop b) _ _ (by rw [hqf,qb_ok h])
     simp only [List.length_drop] at h1
     have he:e=0:=by
      rcases hr with ⟨q,_⟩|⟨_,z,q,_⟩
      ·exact q
      ·rw [h] at q; cases q
     rw [ahead_at (by omega) (by omega),← (hle he).2]
    have hfw:=hfn.fwd (R:=G) (f:=fun x r=>qb (ffuns fu (F++[x]) r) fun F r2=>if (hd r2).kind=0 then .ok ((R,F),r2) else .error (7,r2)) (by rw [hI,qb_qb])
    refine ⟨(F++[⟨t.line,n,ps,bd,le⟩],c,ln,e,tk',fu),⟨hc,?_,by simp only [List.length_append,List.length_cons,List.length_nil]; omega,?_⟩,?_,(tl3 rfl rfl rfl),?_⟩
    ·show (st.addTok tk).tok tk'=false
     simp only [St.addTok]
     rw [if_neg u1]
     exact u3
    ·simp only
     rcases hfw with ⟨q1,q2,q3,q4⟩|hq
     ·have hcl:=ffunc_l1 _ _ _ q4
      simp only [List.length_drop] at hcl hfu ⊢
      exact .inl ⟨q1,q2,by simp only [List.length_append,List.length_cons,List.length_nil]; omega,by omega,q3⟩
     ·exact .inr hq
    ·simp only [if_pos]
     rcases hfw with ⟨q1,q2,q3,q4⟩|⟨q1,_⟩
     ·have hcl:=ffunc_l1 _ _ _ q4
      simp only [List.length_drop] at hcl
      rw [if_pos q1]
      omega
     ·rw [if_neg (by omega)]
      omega
    ·subst hBB
     show StLe (((((((((st.addTok tk).addTok tk2).untok tk2).addTok tk').set o _).set o2 _).set o3 _).set o4 _).set o3 _) _
     rw [St.set_comm _ n43,St.set_set]
     refine StLe.new (h4 _ _ _) ?_
     exact StLe.set _ _ (StLe.set _ _ (StLe.set _ _ (StLe.reTok (st:=st.addTok tk) htk2 tk')))
  ·have he0:¬ (e:Int)=0:=by omega
   refine goD ?_
   refine AWP.exit (blk_hit ?_)
   exact ⟨(F,b,ln,e,tk2),⟨hb,.inr ⟨he,u,k3,k4⟩⟩,(tl3 rfl rfl rfl),by rw [hBB,hPG]; exact .refl _⟩
 rintro ⟨F,b,ln,e,tk2⟩ ⟨hb,hI⟩
 simp only at hb hI
 obtain ⟨B,hBB⟩:∃ B,B=(st.addTok tk).addTok tk2:=⟨_,rfl⟩
 have h2B:∀ r,(B.set o r).obj o2=none:=fun r=>by rw [hBB]; exact h2 r
 have h3B:∀ r z,((B.set o r).set o2 z).obj o3=none:=fun r z=>by rw [hBB]; exact h3 r z
 have hBl:∀ r,StLe (B.set o r) (st.set o r):=fun r=>by rw [hBB]; show StLe (((st.set o r).addTok tk).addTok tk2) _; exact StLe.addTok _ (StLe.addTok _ (.refl _))
 show AWP _ _ _ _ _ _ ((((st.addTok tk).addTok tk2).set o (rsC (ts.map tokRow) b ln e)).set o2 (.cells 28 2 [[nilV,nilV]]) |>.set o3 (.cells 28 2 [[.view 2 (R.map recRow) (.own tk 60),.view 4 (F.map fnRow) (.own tk2 36)]]))
 rw [← hBB]
 have hM:(((B.set o (rsC (ts.map tokRow) b ln e)).set o2 (.cells 28 2 [[nilV,nilV]])).set o3 (.cells 28 2 [[.view 2 (R.map recRow) (.own tk 60),.view 4 (F.map fnRow) (.own tk2 36)]])).obj o=some (.cells 69 4 [[.view 4 (ts.map tokRow) .shared,.int .i64 (b:Int),.int .i64 (ln:Int),.int .i64 (e:Int)]]):=obj2 h2B h3B _ _ _
 have fin:∀ (b ln e:Nat),b < ts.length→Rm ts G (R,F) b ln e→RfR ts o st VG G (.agg (pgRow (R,F))) (st.set o (rsC (ts.map tokRow) b ln e)):=fun b ln e hb h=>⟨(R,F),b,ln,e,rfl,hb,rfl,h⟩
 rcases hI with ⟨rfl,rfl,hI⟩|⟨he,u,k3,k4⟩
 ·obtain ⟨t,A⟩:=at_of H hb
  rw [A.hd_] at hI
  refine goD ?_
  by_cases hk:t.kind=0
  ·rw [if_pos hk] at hI
   refine cle rfl rfl (A.kd (obj2 h2B h3B _ _ _) 0 true (decide_eq_true hk)) ?_
   refine goD ?_
   refine soU rfl (Ne.symm (set_ne_new (h3B ob0 ob0))) rfl rfl rfl rfl rfl ?_
   refine goD ?_
   exact AWP.ret (rets (resCW rfl (St.obj_under (Ne.symm (set_ne_new (h3B ob0 ob0))) _ _) rfl rfl rfl rfl) (pg_le _ _ _ _) ((drop2 h2B h3B _ _ _).trans (hBl _)) (fin b 0 0 hb (.ok hI)))
  ·rw [if_neg hk] at hI
   refine cle rfl rfl (A.kd (obj2 h2B h3B _ _ _) 0 false (decide_eq_false hk)) ?_
   refine goD ?_
   refine cl rfl rfl (A.fail (obj2 h2B h3B _ _ _) 7) fun v st' hst=>?_
   subst hst
   rw [push2 h2B h3B]
   refine goD ?_
   refine soU rfl (Ne.symm (set_ne_new (h3B ob0 ob0))) rfl rfl rfl rfl rfl ?_
   refine goD ?_
   exact AWP.ret (rets (resCW rfl (St.obj_under (Ne.symm (set_ne_new (h3B ob0 ob0))) _ _) rfl rfl rfl rfl) (pg_le _ _ _ _) ((drop2 h2B h3B _ _ _).trans (hBl _)) (fin b t.line 7 hb (.inr ⟨.inr rfl,_,hI,by rw [A.hd_]⟩)))
 ·have he0:¬ (e:Int)=0:=by omega
  refine goD ?_
  refine soU rfl (Ne.symm (set_ne_new (h3B ob0 ob0))) rfl rfl rfl rfl rfl ?_
  refine goD ?_
  exact AWP.ret (rets (resCW rfl (St.obj_under (Ne.symm (set_ne_new (h3B ob0 ob0))) _ _) rfl rfl rfl rfl) (pg_le _ _ _ _) ((drop2 h2B h3B _ _ _).trans (hBl _)) (fin b ln e hb (.inr ⟨he,u,k3,k4⟩)))
end Go.Proofs
namespace Go.Proofs
open Go.AM

theorem rdigit_ok (r:Nat) (st:St):ACalls Tryz.prog 82 [.int .u8 (r:Int)] st (fun v st'=>v=.bool (digA r)∧st'=st) (fun _ _=>False):=by
 refine ACalls.ofBody Tryz.func82 rfl Tryz.ntmps82 rfl ?_
 repeat (first|refine nl ?_|refine AWP.seq ?_|refine rg ?_|refine sm rfl ?_)
 refine AOps.split 5 rfl (fun h=>?_) (fun h=>?_)
 ·have h':48≤r:=by have:(48:Int)≤(r:Int):=h; omega
  repeat (first|refine nl ?_|refine sm rfl ?_)
  refine AWP.ret (rets rfl (.refl _) (.refl _) ⟨?_,rfl⟩)
  simp only [packA,digA,h',decide_true,Bool.true_and]
  congr 1
  exact decide_eq_decide.2 (by omega)
 ·have h':¬ 48≤r:=by have:¬ (48:Int)≤(r:Int):=h; omega
  repeat (first|refine nl ?_|refine sm rfl ?_|refine uw rfl ?_)
  refine AWP.ret (rets rfl (.refl _) (.refl _) ⟨?_,rfl⟩)
  simp [packA,digA,h',absV,abs1]

theorem rletter_ok (r:Nat) (st:St):ACalls Tryz.prog 81 [.int .u8 (r:Int)] st (fun v st'=>v=.bool (letA r)∧st'=st) (fun _ _=>False):=by
 refine ACalls.ofBody Tryz.func81 rfl Tryz.ntmps81 rfl ?_
 have fin:∀ {b:Bool},b=letA r→AV.bool b=.bool (letA r):=fun h=>by rw [h]
 have e95:(decide ((r:Int)=95))=decide (r=95):=decide_eq_decide.2 (by omega)
 repeat (first|refine nl ?_|refine AWP.seq ?_|refine rg ?_|refine sm rfl ?_)
 refine AOps.split 5 rfl (fun h=>?_) (fun h=>?_)
 ·have h':97≤r:=by have:(97:Int)≤(r:Int):=h; omega
  repeat (refine sm rfl ?_)
  refine AOps.split 9 rfl (fun h2=>?_) (fun h2=>?_)
  ·have h2':r≤122:=by have:(r:Int)≤122:=h2; omega
   repeat (first|refine nl ?_|refine sm rfl ?_|refine uw rfl ?_)
   exact AWP.ret (rets rfl (.refl _) (.refl _) ⟨fin (by simp [letA,h',h2']),rfl⟩)
  ·have h2':¬ r≤122:=by have:¬ (r:Int)≤122:=h2; omega
   repeat (refine sm rfl ?_)
   refine AOps.split 12 rfl (fun h3=>?_) (fun h3=>absurd (show (65:Int)≤(r:Int) by omega) h3)
   repeat (refine sm rfl ?_)
   refine AOps.split 17 rfl (fun h4=>absurd (show (r:Int)≤90 from h4) (by omega)) (fun h4=>?_)
   repeat (first|refine nl ?_|refine sm rfl ?_)
   refine AWP.ret (rets rfl (.refl _) (.refl _) ⟨fin ?_,rfl⟩)
   rw [e95]
   simp [letA,h2',show ¬ r≤90 by omega]
 ·have h':¬ 97≤r:=by have:¬ (97:Int)≤(r:Int):=h; omega
  repeat (first|refine sm rfl ?_|refine uw rfl ?_)
  refine AOps.split 12 rfl (fun h3=>?_) (fun h3=>?_)
  ·have h3':65≤r:=by have:(65:Int)≤(r:Int):=h3; omega
   repeat (refine sm rfl ?_)
   refine AOps.split 17 rfl (fun h4=>?_) (fun h4=>?_)
   ·have h4':r≤90:=by have:(r:Int)≤90:=h4; omega
    repeat (first|refine nl ?_|refine sm rfl ?_|refine uw rfl ?_)
    exact AWP.ret (rets rfl (.refl _) (.refl _) ⟨fin (by simp [letA,h3',h4']),rfl⟩)
   ·have h4':¬ r≤90:=by have:¬ (r:Int)≤90:=h4; omega
    repeat (first|refine nl ?_|refine sm rfl ?_)
    refine AWP.ret (rets rfl (.refl _) (.refl _) ⟨fin ?_,rfl⟩)
    rw [e95]
    simp [letA,h',h4']
  ·have h3':¬ 65≤r:=by have:¬ (65:Int)≤(r:Int):=h3; omega
   repeat (first|refine nl ?_|refine sm rfl ?_|refine uw rfl ?_)
   refine AWP.ret (rets rfl (.refl _) (.refl _) ⟨fin ?_,rfl⟩)
   rw [e95]
   simp [letA,h',h3']

theorem words_chunk:chunk 1 12 (words.map AV.str)=words.map fun w=>[.str w]:=rfl

theorem rres_ok (s:List UInt8) (st:St):ACalls Tryz.prog 83 [.str s] st (fun v st'=>v=.bool (decide (s ∈ words))∧st'=st) (fun _ _=>False):=by
 refine ACalls.ofBody Tryz.func83 rfl Tryz.ntmps83 rfl ?_
 repeat (first|refine nl ?_|refine AWP.seq ?_|refine rg ?_|refine sm rfl ?_)
 refine bs (cs:=words.map .str) rfl rfl rfl rfl rfl fun tk _=>?_
 refine AOps.weaken (.refl _) (StLe.addTok _ (.refl _)) ?_
 rw [words_chunk]
 obtain ⟨X,hX⟩:∃ X,X=words.map fun w=>[AV.str w]:=⟨_,rfl⟩
 have hl:X.length=12:=by rw [hX]; rfl
 have hx:∀ i (h:i < 12),∃ w,words[i]?=some w∧X[i]?=some [.str w]:=fun i h=>⟨words[i]'h,List.getElem?_eq_getElem h,by rw [hX,List.getElem?_map,List.getElem?_eq_getElem h]; rfl⟩
 rw [← hX]
 repeat (first|refine nl ?_|refine AWP.block ?_|refine sm rfl ?_|refine lnv rfl rfl ?_)
 refine AWP.loop (α:=Nat) (fun i=>[(7,.int .i64 (i:Int)),(6,.int .i64 (X.length:Int)),(5,.view 1 X (.own tk 9)),(0,.str s)]) (fun _=>st) (fun i=>i≤12∧∀ j w,j < i→words[j]?=some w→w≠s) (fun i=>12 - i) 0 ⟨Nat.zero_le _,fun j w h=>by omega⟩ (tl4 rfl rfl rfl rfl) (.refl _) ?_
 rintro i ⟨hi,hall⟩
 repeat (first|refine nl ?_|refine AWP.seq ?_|refine rg ?_|refine sm rfl ?_)
 refine AWP.cond_dec rfl (fun h=>AWP.skip ?_) (fun h=>AWP.exit (blk_hit ?_))
 ·have hi':i < X.length:=by have:(i:Int) < (X.length:Int):=h; omega
  obtain ⟨w,hw,hr⟩:=hx i (by omega)
  repeat (first|refine nl ?_|refine AWP.seq ?_|refine rg ?_|refine AWP.block ?_|refine sm rfl ?_|refine le rfl rfl (by assumption) rfl ?_|refine ix rfl rfl rfl rfl (by assumption) ?_)
  refine AWP.cond_dec rfl (fun h=>?_) (fun hws=>AWP.skip ?_)
  ·have h':w=s:=h
   subst h'
   repeat (first|refine nl ?_|refine AWP.seq ?_|refine rg ?_|refine sm rfl ?_)
   refine AWP.ret (rets rfl (.refl _) (.refl _) ⟨?_,rfl⟩)
   have:w ∈ words:=List.mem_of_getElem? hw
   simp [packA,absV,abs1,this]
  ·repeat (first|refine nl ?_|refine rg ?_|refine sm rfl ?_|refine inc rfl rfl rfl (by omega) ?_)
   refine ⟨i + 1,⟨by omega,fun j w' hj hw'=>?_⟩,by omega,(tl4 rfl rfl rfl rfl),.refl _⟩
   rcases Nat.lt_or_ge j i with h1|h1
   ·exact hall j w' h1 hw'
   ·have:j=i:=by omega
    subst this
    rw [hw] at hw'
    cases hw'
    exact hws
 ·have hi':i=12:=by have:¬ (i:Int) < (X.length:Int):=h; omega
  subst hi'
  repeat (first|refine nl ?_|refine AWP.seq ?_|refine rg ?_|refine sm rfl ?_)
  refine AWP.ret (rets rfl (.refl _) (.refl _) ⟨?_,rfl⟩)
  have:¬ s ∈ words:=fun h=>by
   obtain ⟨j,hj,he⟩:=List.getElem_of_mem h
   exact hall j s hj (by rw [List.getElem?_eq_getElem hj,he]) rfl
  simp [packA,absV,abs1,this]

theorem signs2_chunk:chunk 1 3 (signs2.map AV.str)=signs2.map fun w=>[.str w]:=rfl
theorem signs1_chunk:chunk 1 21 (signs1.map fun c=>AV.int .u8 (c.toNat:Int))=signs1.map fun c=>[.int .u8 (c.toNat:Int)]:=rfl

theorem rsign_ok (s:List UInt8) (hs:s.length≤1000000) (at_:Nat) (ha:at_ < s.length) (st:St):ACalls Tryz.prog 84 [.str s,.int .i64 (at_:Int)] st (fun v st'=>v=.str (sign (s.drop at_))∧st'=st) (fun _ _=>False):=by
 refine ACalls.ofBody Tryz.func84 rfl Tryz.ntmps84 rfl ?_
 have hd:s.drop at_=s[at_]::s.drop (at_ + 1):=List.drop_eq_getElem_cons ha
 have hc:s[at_]?=some s[at_]:=List.getElem?_eq_getElem ha
 repeat (first|refine nl ?_|refine AWP.seq ?_|refine rg ?_|refine sm rfl ?_|refine lns rfl rfl ?_|refine inc rfl rfl rfl (by omega) ?_)
 refine midp (¬ (s.drop at_).take 2 ∈ signs2) [(0,.str s),(1,.int .i64 (at_:Int))] st ?_ fun hnm=>?_
 ·refine AWP.cond_dec rfl (fun h=>?_) (fun h=>AWP.skip ?_)
  ·have h':at_ + 1 < s.length:=by have:((at_ + 1:Nat):Int) < (s.length:Int):=h; omega
   repeat (first|refine AWP.seq ?_|refine rg ?_)
   refine bs (cs:=signs2.map .str) rfl rfl rfl rfl rfl fun tk _=>?_
   refine AOps.weaken (.refl _) (StLe.addTok _ (.refl _)) ?_
   rw [signs2_chunk]
   obtain ⟨X,hX⟩:∃ X,X=signs2.map fun w=>[AV.str w]:=⟨_,rfl⟩
   have hl:X.length=3:=by rw [hX]; rfl
   have hx:∀ i (h:i < 3),∃ w,signs2[i]?=some w∧X[i]?=some [.str w]:=fun i h=>⟨signs2[i]'h,List.getElem?_eq_getElem h,by rw [hX,List.getElem?_map,List.getElem?_eq_getElem h]; rfl⟩
   rw [← hX]
   repeat (first|refine nl ?_|refine AWP.block ?_|refine sm rfl ?_|refine lnv rfl rfl ?_)
   refine AWP.loop (α:=Nat) (fun i=>[(16,.int .i64 (i:Int)),(15,.int .i64 (X.length:Int)),(14,.view 1 X (.own tk 9)),(1,.int .i64 (at_:Int)),(0,.str s)]) (fun _=>st) (fun i=>i≤3∧∀ j w,j < i→signs2[j]?=some w→w≠(s.drop at_).take 2) (fun i=>3 - i) 0 ⟨Nat.zero_le _,fun j w h=>by omega⟩ (tl5 rfl rfl rfl rfl rfl) (.refl _) ?_
   rintro i ⟨hi,hall⟩
   repeat (first|refine nl ?_|refine AWP.seq ?_|refine rg ?_|refine sm rfl ?_)
   refine AWP.cond_dec rfl (fun h=>AWP.skip ?_) (fun h=>AWP.exit (blk_hit ?_))
   ·have hi':i < X.length:=by have:(i:Int) < (X.length:Int):=h; omega
    obtain ⟨w,hw,hr⟩:=hx i (by omega)
    repeat (first|refine nl ?_|refine AWP.seq ?_|refine rg ?_|refine AWP.block ?_|refine sm rfl ?_|refine le rfl rfl (by assumption) rfl ?_|refine ix rfl rfl rfl rfl (by assumption) ?_)
    refine adn (b:=2) rfl rfl rfl (by omega) ?_
    refine ss2 rfl rfl rfl rfl (by omega) (by omega) ?_
    rw [show at_ + 2 - at_=2 by omega]
    repeat (first|refine nl ?_|refine sm rfl ?_)
    refine AWP.cond_dec rfl (fun hws=>?_) (fun hws=>AWP.skip ?_)
    ·have hm:(s.drop at_).take 2 ∈ signs2:=by
      have h2:(s.drop at_).take 2=w:=hws
      rw [h2]
      exact List.mem_of_getElem? hw
     repeat (first|refine nl ?_|refine AWP.seq ?_|refine rg ?_|refine sm rfl ?_)
     refine AWP.ret (rets rfl (.refl _) (.refl _) ⟨?_,rfl⟩)
     have h2:(s.drop at_).take 2=w:=hws
     unfold sign
     rw [if_pos hm,h2]
     rfl
    ·repeat (first|refine nl ?_|refine rg ?_|refine sm rfl ?_|refine inc rfl rfl rfl (by omega) ?_)
     refine ⟨i + 1,⟨by omega,fun j w' hj hw'=>?_⟩,by omega,(tl5 rfl rfl rfl rfl rfl),.refl _⟩
     rcases Nat.lt_or_ge j i with h1|h1
     ·exact hall j w' h1 hw'
     ·have:j=i:=by omega
      subst this
      rw [hw] at hw'
      cases hw'
      exact fun e=>hws e.symm
   ·have hi':i=3:=by have:¬ (i:Int) < (X.length:Int):=h; omega
    subst hi'
    refine ⟨tl2 rfl rfl,.refl _,fun hm=>?_⟩
    obtain ⟨j,hj,he⟩:=List.getElem_of_mem hm
    exact hall j _ hj (by rw [List.getElem?_eq_getElem hj,he]) rfl
  ·have h':¬ at_ + 1 < s.length:=by have:¬ ((at_ + 1:Nat):Int) < (s.length:Int):=h; omega
   refine ⟨tl2 rfl rfl,.refl _,fun hm=>?_⟩
   have hl:((s.drop at_).take 2).length=1:=by rw [List.length_take,List.length_drop]; omega
   have h2:∀ w ∈ signs2,w.length=2:=by decide
   have:=h2 _ hm
   omega
 ·repeat (first|refine AWP.seq ?_|refine rg ?_)
  refine bs (cs:=signs1.map fun c=>AV.int .u8 (c.toNat:Int)) rfl rfl rfl rfl rfl fun tk htk=>?_
  rw [signs1_chunk]
  skip
  refine cvm rfl rfl (St.tok_addTok _ _) (by decide) ?_
  refine AOps.weaken (.refl _) (StLe.untok_add htk) ?_
  obtain ⟨X,hX⟩:∃ X,X=signs1.map fun c=>[AV.int .u8 (c.toNat:Int)]:=⟨_,rfl⟩
  have hl:X.length=21:=by rw [hX]; rfl
  have hx:∀ i (h:i < 21),∃ c,signs1[i]?=some c∧X[i]?=some [.int .u8 (c.toNat:Int)]:=fun i h=>⟨signs1[i]'h,List.getElem?_eq_getElem h,by rw [hX,List.getElem?_map,List.getElem?_eq_getElem h]; rfl⟩
  rw [← hX]
  generalize s[at_]=c at hd hc
  repeat (first|refine nl ?_|refine AWP.block ?_|refine sm rfl ?_|refine lnv rfl rfl ?_)
  refine AWP.loop (α:=Nat) (fun i=>[(32,.int .i64 (i:Int)),(31,.int .i64 (X.length:Int)),(30,.view 1 X .shared),(1,.int .i64 (at_:Int)),(0,.str s)]) (fun _=>st) (fun i=>i≤21∧∀ j w,j < i→signs1[j]?=some w→w≠c) (fun i=>21 - i) 0 ⟨Nat.zero_le _,fun j w h=>by omega⟩ (tl5 rfl rfl rfl rfl rfl) (.refl _) ?_
  rintro i ⟨hi,hall⟩
  repeat (first|refine nl ?_|refine AWP.seq ?_|refine rg ?_|refine sm rfl ?_)
  refine AWP.cond_dec rfl (fun h=>AWP.skip ?_) (fun h=>AWP.exit (blk_hit ?_))
  ·have hi':i < X.length:=by have:(i:Int) < (X.length:Int):=h; omega
   obtain ⟨w,hw,hr⟩:=hx i (by omega)
   repeat (first|refine nl ?_|refine AWP.seq ?_|refine rg ?_|refine AWP.block ?_|refine sm rfl ?_|refine le rfl rfl (by assumption) rfl ?_|refine ix rfl rfl rfl rfl (by assumption) ?_|refine sx rfl rfl rfl rfl (by assumption) ?_)
   refine AWP.cond_dec rfl (fun hws=>?_) (fun hws=>AWP.skip ?_)
   ·have hcw:c=w:=by
     have:(c.toNat:Int)=(w.toNat:Int):=hws
     exact UInt8.toNat_inj.1 (by omega)
    have hm:c ∈ signs1:=by
     rw [hcw]
     exact List.mem_of_getElem? hw
    repeat (first|refine AWP.seq ?_|refine rg ?_|refine sm rfl ?_|refine inc rfl rfl rfl (by omega) ?_)
    refine ss2 rfl rfl rfl rfl (by omega) (by omega) ?_
    rw [show at_ + 1 - at_=1 by omega]
    repeat (first|refine nl ?_|refine sm rfl ?_)
    refine AWP.ret (rets rfl (.refl _) (.refl _) ⟨?_,rfl⟩)
    unfold sign
    rw [if_neg hnm,hd]
    simp only [hm,if_true]
    rfl
   ·repeat (first|refine nl ?_|refine rg ?_|refine sm rfl ?_|refine inc rfl rfl rfl (by omega) ?_)
    refine ⟨i + 1,⟨by omega,fun j w' hj hw'=>?_⟩,by omega,(tl5 rfl rfl rfl rfl rfl),.refl _⟩
    rcases Nat.lt_or_ge j i with h1|h1
    ·exact hall j w' h1 hw'
    ·have:j=i:=by omega
     subst this
     rw [hw] at hw'
     cases hw'
     rintro rfl
     exact hws rfl
  ·have hi':i=21:=by have:¬ (i:Int) < (X.length:Int):=h; omega
   subst hi'
   repeat (first|refine nl ?_|refine AWP.seq ?_|refine rg ?_|refine sm rfl ?_)
   refine AWP.ret (rets rfl (.refl _) (.refl _) ⟨?_,rfl⟩)
   have hm:¬ c ∈ signs1:=fun hm=>by
    obtain ⟨j,hj,he⟩:=List.getElem_of_mem hm
    exact hall j _ hj (by rw [List.getElem?_eq_getElem hj,he]) rfl
   unfold sign
   rw [if_neg hnm,hd]
   simp only [hm,if_false]
   rfl
end Go.Proofs
namespace Go.Proofs
open Go.AM

def skipAt (s:List UInt8) (p line:Nat):Nat:=s.length - (skip false (s.drop p) line).1.length

set_option maxHeartbeats 2000000 in
theorem rskip_ok (s:List UInt8) (hs:s.length≤1000000) (p0 line0:Nat) (hp0:p0≤s.length) (hl0:line0≤1000000 + p0) (st:St) :
  ACalls Tryz.prog 47 [.str s,.int .i64 (p0:Int),.int .i64 (line0:Int)] st (fun v st'=>v=.tuple [.int .i64 (skipAt s p0 line0:Int),.int .i64 ((skip false (s.drop p0) line0).2:Int)]∧st'=st) (fun _ _=>False):=by
 refine ACalls.ofBody Tryz.func47 rfl Tryz.ntmps47 rfl ?_
 repeat (first|refine nl ?_|refine AWP.seq ?_|refine rg ?_|refine AWP.block ?_|refine sm rfl ?_)
 refine AWP.loop (α:=Nat × Nat) (fun x=>[(2,.int .i64 (x.2:Int)),(1,.int .i64 (x.1:Int)),(0,.str s)]) (fun _=>st) (fun x=>x.1≤s.length∧x.2≤1000000 + x.1∧skip false (s.drop x.1) x.2=skip false (s.drop p0) line0) (fun x=>s.length - x.1) (p0,line0) ⟨hp0,hl0,rfl⟩ (tl3 rfl rfl rfl) (.refl _) ?_
 rintro ⟨p,ln⟩ ⟨h1,h2,h3⟩
 simp only at h1 h2 h3
 refine AWP.weaken (T':=[(2,.int .i64 (ln:Int)),(1,.int .i64 (p:Int)),(0,.str s)]) (st':=st) (tl3 rfl rfl rfl) (.refl _) ?_
 repeat (first|refine nl ?_|refine AWP.seq ?_|refine rg ?_|refine sm rfl ?_|refine lns rfl rfl ?_)
 refine AWP.cond_dec rfl (fun h=>AWP.skip ?_) (fun h=>AWP.exit (blk_hit ?_))
 ·have hp:p < s.length:=by have:(p:Int) < (s.length:Int):=h; omega
  have hd:s.drop p=s[p]::s.drop (p + 1):=List.drop_eq_getElem_cons hp
  have hc:s[p]?=some s[p]:=List.getElem?_eq_getElem hp
  generalize s[p]=c at hd hc
  have out:skip false (s.drop p) ln=(s.drop p,ln)→AV.tuple [.int .i64 (p:Int),.int .i64 (ln:Int)]=.tuple [.int .i64 (skipAt s p0 line0:Int),.int .i64 ((skip false (s.drop p0) line0).2:Int)]:=by
   intro e
   unfold skipAt
   rw [← h3,e]
   simp only [List.length_drop]
   rw [show s.length - (s.length - p)=p by omega]
  by_cases h47:c=47
  ·subst h47
   repeat (first|refine nl ?_|refine AWP.seq ?_|refine rg ?_|refine AWP.block ?_|refine sm rfl ?_|refine lns rfl rfl ?_|refine inc rfl rfl rfl (by omega) ?_|refine sx rfl rfl rfl rfl (by assumption) ?_)
   refine AOps.split 25 rfl (fun h5=>?_) (fun h5=>?_)
   ·have hp1:p + 1 < s.length:=by have:((p + 1:Nat):Int) < (s.length:Int):=h5; omega
    have hd2:s.drop (p + 1)=s[p + 1]::s.drop (p + 1 + 1):=List.drop_eq_getElem_cons hp1
    have hc2:s[p + 1]?=some s[p + 1]:=List.getElem?_eq_getElem hp1
    generalize s[p + 1]=d at hd2 hc2
    repeat (first|refine nl ?_|refine sm rfl ?_|refine inc rfl rfl rfl (by omega) ?_|refine sx rfl rfl rfl rfl (by assumption) ?_)
    refine AWP.cond_dec rfl (fun h6=>?_) (fun h6=>AWP.skip ?_)
    ·have hd47:d=47:=by
      have:(d.toNat:Int)=47:=h6
      exact UInt8.toNat_inj.1 (by show d.toNat=47; omega)
     subst hd47
     have ht:skip true (s.drop p) ln=skip false (s.drop p0) line0:=by
      rw [← h3,hd,hd2]
      rfl
     repeat (first|refine AWP.seq ?_|refine AWP.block ?_)
     refine AWP.loop (α:=Nat) (fun q=>[(2,.int .i64 (ln:Int)),(1,.int .i64 (q:Int)),(0,.str s)]) (fun _=>st) (fun q=>q≤s.length∧ln≤1000000 + q∧skip true (s.drop q) ln=skip false (s.drop p0) line0∧(q=p∨p < q)) (fun q=>s.length - q) p ⟨h1,h2,ht,.inl rfl⟩ (tl3 rfl rfl rfl) (.refl _) ?_
     rintro q ⟨q1,q2,q3,q4⟩
     repeat (first|refine AWP.seq ?_|refine rg ?_|refine sm rfl ?_|refine lns rfl rfl ?_)
     refine AOps.split 36 rfl (fun h7=>?_) (fun h7=>?_)
     ·have hq:q < s.length:=by have:(q:Int) < (s.length:Int):=h7; omega
      have hdq:s.drop q=s[q]::s.drop (q + 1):=List.drop_eq_getElem_cons hq
      have hcq:s[q]?=some s[q]:=List.getElem?_eq_getElem hq
      generalize s[q]=b at hdq hcq
      have hqp:b=10→p < q:=by
       rintro rfl
       rcases q4 with rfl|h
       ·rw [hd] at hdq
        cases hdq
       ·exact h
      repeat (first|refine nl ?_|refine sm rfl ?_|refine sx rfl rfl rfl rfl (by assumption) ?_)
      refine AWP.cond_dec rfl (fun h8=>AWP.skip ?_) (fun h8=>AWP.exit (blk_hit ?_))
      ·have hb:¬ b=10:=by
        rintro rfl
        exact h8 rfl
       repeat (first|refine nl ?_|refine rg ?_|refine AWP.block ?_|refine sm rfl ?_|refine inc rfl rfl rfl (by omega) ?_)
       refine ⟨q + 1,⟨by omega,by omega,?_,.inr (by omega)⟩,by omega,(tl3 rfl rfl rfl),.refl _⟩
       rw [← q3,hdq,skip_cons true b,if_neg hb]
       rfl
      ·have hb:b=10:=by
        have h9:¬ (b.toNat:Int)≠10:=h8
        exact UInt8.toNat_inj.1 (by show b.toNat=10; omega)
       have hlt:=hqp hb
       subst hb
       skip
       refine AWP.exit ?_
       refine ⟨(q,ln),⟨q1,q2,?_⟩,by simp only; omega,(tl3 rfl rfl rfl),.refl _⟩
       simp only
       rw [← q3,hdq]
       rfl
     ·have hq:q=s.length:=by have:¬ (q:Int) < (s.length:Int):=h7; omega
      subst hq
      repeat (first|refine nl ?_|refine sm rfl ?_|refine uw rfl ?_)
      refine AWP.cond_false rfl (AWP.exit (blk_hit ?_))
      refine AWP.exit ?_
      refine ⟨(s.length,ln),⟨Nat.le_refl _,q2,?_⟩,by simp only; omega,(tl3 rfl rfl rfl),.refl _⟩
      simp only
      rw [← q3,List.drop_length]
      rfl
    ·have hd47:¬ d=47:=by
      rintro rfl
      exact h6 rfl
     repeat (first|refine nl ?_|refine AWP.seq ?_|refine rg ?_|refine sm rfl ?_)
     refine AWP.cond_true rfl ?_
     repeat (first|refine nl ?_|refine AWP.seq ?_|refine rg ?_|refine sm rfl ?_)
     refine AWP.ret (rets rfl (.refl _) (.refl _) ⟨out ?_,rfl⟩)
     rw [hd,hd2,skip_cons,if_neg (by decide),if_neg (by decide),if_neg (by rintro ⟨_,h9⟩; exact hd47 (by simpa using h9))]
     rfl
   ·have hp1:s.drop (p + 1)=[]:=List.drop_eq_nil_of_le (by have:¬ ((p + 1:Nat):Int) < (s.length:Int):=h5; omega)
    repeat (first|refine nl ?_|refine sm rfl ?_|refine uw rfl ?_)
    refine AWP.cond_false rfl (AWP.skip ?_)
    repeat (first|refine nl ?_|refine AWP.seq ?_|refine rg ?_|refine sm rfl ?_)
    refine AWP.cond_true rfl ?_
    repeat (first|refine nl ?_|refine AWP.seq ?_|refine rg ?_|refine sm rfl ?_)
    refine AWP.ret (rets rfl (.refl _) (.refl _) ⟨out ?_,rfl⟩)
    rw [hd,hp1]
    rfl
  ·repeat (first|refine nl ?_|refine AWP.seq ?_|refine rg ?_|refine AWP.block ?_|refine sm rfl ?_|refine sx rfl rfl rfl rfl (by assumption) ?_)
   refine AOps.split 18 rfl (fun h5=>absurd (UInt8.toNat_inj.1 (show c.toNat=47 by have:(c.toNat:Int)=47:=h5; omega)) h47) (fun _=>?_)
   repeat (first|refine nl ?_|refine sm rfl ?_|refine uw rfl ?_)
   refine AWP.cond_false rfl (AWP.skip ?_)
   by_cases hbl:c=32∨c=9∨c=13
   ·have hsk:skip false (s.drop (p + 1)) ln=skip false (s.drop p0) line0:=by
     rw [← h3,hd,skip_cons,if_neg (by rcases hbl with rfl|rfl|rfl <;> decide),cond_false,if_pos hbl]
    rcases hbl with rfl|rfl|rfl
    ·repeat (first|refine nl ?_|refine AWP.seq ?_|refine rg ?_|refine sm rfl ?_|refine uw rfl ?_)
     refine AWP.cond_false rfl (AWP.skip ?_)
     repeat (first|refine nl ?_|refine AWP.seq ?_|refine rg ?_|refine sm rfl ?_)
     refine AWP.cond_false rfl (AWP.skip ?_)
     repeat (first|refine nl ?_|refine rg ?_|refine sm rfl ?_|refine inc rfl rfl rfl (by omega) ?_)
     exact ⟨(p + 1,ln),⟨hp,by simp only; omega,hsk⟩,by simp only; omega,(tl3 rfl rfl rfl),.refl _⟩
    ·repeat (first|refine nl ?_|refine AWP.seq ?_|refine rg ?_|refine sm rfl ?_|refine uw rfl ?_)
     refine AWP.cond_false rfl (AWP.skip ?_)
     repeat (first|refine nl ?_|refine AWP.seq ?_|refine rg ?_|refine sm rfl ?_)
     refine AWP.cond_false rfl (AWP.skip ?_)
     repeat (first|refine nl ?_|refine rg ?_|refine sm rfl ?_|refine inc rfl rfl rfl (by omega) ?_)
     exact ⟨(p + 1,ln),⟨hp,by simp only; omega,hsk⟩,by simp only; omega,(tl3 rfl rfl rfl),.refl _⟩
    ·repeat (first|refine nl ?_|refine AWP.seq ?_|refine rg ?_|refine sm rfl ?_|refine uw rfl ?_)
     refine AWP.cond_false rfl (AWP.skip ?_)
     repeat (first|refine nl ?_|refine AWP.seq ?_|refine rg ?_|refine sm rfl ?_)
     refine AWP.cond_false rfl (AWP.skip ?_)
     repeat (first|refine nl ?_|refine rg ?_|refine sm rfl ?_|refine inc rfl rfl rfl (by omega) ?_)
     exact ⟨(p + 1,ln),⟨hp,by simp only; omega,hsk⟩,by simp only; omega,(tl3 rfl rfl rfl),.refl _⟩
   ·by_cases h10:c=10
    ·have hsk:skip false (s.drop (p + 1)) (ln + 1)=skip false (s.drop p0) line0:=by
      rw [← h3,hd,skip_cons,if_pos h10]
     subst h10
     repeat (first|refine nl ?_|refine AWP.seq ?_|refine rg ?_|refine sm rfl ?_)
     refine AWP.cond_false rfl (AWP.skip ?_)
     repeat (first|refine nl ?_|refine AWP.seq ?_|refine rg ?_|refine sm rfl ?_)
     refine AWP.cond_true rfl ?_
     repeat (first|refine nl ?_|refine rg ?_|refine sm rfl ?_|refine inc rfl rfl rfl (by omega) ?_)
     exact ⟨(p + 1,ln + 1),⟨hp,by simp only; omega,hsk⟩,by simp only; omega,(tl3 rfl rfl rfl),.refl _⟩
    ·have n32:¬ (c.toNat:Int)=32:=fun h=>hbl (.inl (UInt8.toNat_inj.1 (show c.toNat=32 by omega)))
     have n9:¬ (c.toNat:Int)=9:=fun h=>hbl (.inr (.inl (UInt8.toNat_inj.1 (show c.toNat=9 by omega))))
     have n13:¬ (c.toNat:Int)=13:=fun h=>hbl (.inr (.inr (UInt8.toNat_inj.1 (show c.toNat=13 by omega))))
     have n10:¬ (c.toNat:Int)=10:=fun h=>h10 (UInt8.toNat_inj.1 (show c.toNat=10 by omega))
     repeat (first|refine AWP.seq ?_|refine rg ?_|refine sm rfl ?_)
     refine AOps.split 46 rfl (fun _=>?_) (fun h=>absurd n32 h)
     repeat (refine sm rfl ?_)
     refine AOps.split 50 rfl (fun _=>?_) (fun h=>absurd n9 h)
     repeat (refine sm rfl ?_)
     refine AOps.split 54 rfl (fun _=>?_) (fun h=>absurd n13 h)
     repeat (first|refine nl ?_|refine sm rfl ?_)
     refine AWP.cond_dec rfl (fun _=>?_) (fun h=>absurd n10 h)
     repeat (first|refine nl ?_|refine AWP.seq ?_|refine rg ?_|refine sm rfl ?_)
     refine AWP.ret (rets rfl (.refl _) (.refl _) ⟨out ?_,rfl⟩)
     rw [hd,skip_cons,if_neg h10,cond_false,if_neg hbl,if_neg (fun h=>h47 h.1)]
 ·have hp:p=s.length:=by have:¬ (p:Int) < (s.length:Int):=h; omega
  subst hp
  rw [List.drop_length] at h3
  repeat (first|refine nl ?_|refine AWP.seq ?_|refine rg ?_|refine sm rfl ?_)
  refine AWP.ret (rets rfl (.refl _) (.refl _) ⟨?_,rfl⟩)
  unfold skipAt
  rw [← h3]
  rfl
end Go.Proofs
namespace Go.Proofs
open Go.AM

theorem wrap8 {a:Int} (h:0≤a∧a < 256):IntKind.u8.wrap a=a:=by
 simp only [IntKind.wrap,IntKind.bits,IntKind.signed]
 simp
 omega

def roneV (at_:Nat):Except Nat (Tk × Nat)→AV
 | .error e=>.tuple [.agg (tokRow zTk),.int .i64 0,.int .i64 (e:Int)]
 | .ok (t,m)=>.tuple [.agg (tokRow t),.int .i64 ((at_ + m:Nat):Int),.int .i64 0]

set_option maxHeartbeats 8000000 in
theorem rone_ok (s:List UInt8) (hs:s.length≤1000000) (at_ line:Nat) (hat:at_ < s.length) (st:St) :
  ACalls Tryz.prog 48 [.str s,.int .i64 (at_:Int),.int .i64 (line:Int)] st (fun v st'=>v=roneV at_ (one (s.drop at_) line)∧st'=st) (fun _ _=>False):=by
 refine ACalls.ofBody Tryz.func48 rfl Tryz.ntmps48 rfl ?_
 have hd:s.drop at_=s[at_]::s.drop (at_ + 1):=List.drop_eq_getElem_cons hat
 have hc:s[at_]?=some s[at_]:=List.getElem?_eq_getElem hat
 have hone:one (s.drop at_) line=bif isLet s[at_] then (let nm:=(s.drop at_).takeWhile isNP; if 12 < nm.length then .error 5 else .ok (⟨if nm ∈ words then 3 else 1,line,nm,0⟩,nm.length))
  else bif isDig s[at_] then (let ds:=(s.drop at_).takeWhile isDig; if 18 < ds.length then .error 5 else if (((s.drop at_).drop ds.length).head?.map isNP).getD false=true then .error 6 else .ok (⟨2,line,[],digits ds⟩,ds.length))
  else if sign (s.drop at_)=[] then .error 6 else .ok (⟨4,line,sign (s.drop at_),0⟩,(sign (s.drop at_)).length):=by
  rw [hd]
  rfl
 have hll:∀ c:UInt8,letA c.toNat=isLet c:=fun _=>rfl
 have hdd:∀ c:UInt8,digA c.toNat=isDig c:=fun _=>rfl
 generalize s[at_]=c at hd hc hone
 refine goC ?_
 refine rg ?_
 refine al rfl rfl fun o6 ho6=>?_
 repeat (first|refine nl ?_|refine AWP.seq ?_|refine rg ?_|refine sm rfl ?_|refine sx rfl rfl rfl rfl (by assumption) ?_)
 refine cle rfl rfl (rletter_ok c.toNat _) ?_
 repeat (refine nl ?_)
 refine AWP.cond_bool rfl (fun hb=>?_) (fun hb=>AWP.skip ?_)
 ·have hcl:isLet c=true:=hb
  rw [hcl,cond_true] at hone
  have hnle:=(List.takeWhile_prefix isNP (l:=s.drop at_)).length_le
  rw [List.length_drop] at hnle
  have hnt:=fun p=>tw_len (q:=isNP) (l:=s.drop at_) (p:=p)
  have htk:(s.drop at_).take ((s.drop at_).takeWhile isNP).length=(s.drop at_).takeWhile isNP:=(List.prefix_iff_eq_take.1 (List.takeWhile_prefix isNP)).symm
  generalize (s.drop at_).takeWhile isNP=nm at hone hnle hnt htk
  refine AWP.seq ?_
  refine midk [(9,.int .i64 (at_:Int)),(6,.cptr o6 4 0 0),(2,.int .i64 (line:Int)),(1,.int .i64 ((at_ + nm.length:Nat):Int)),(0,.str s)] (st.set o6 (.cells 64 4 [tokRow zTk])) ?_ ?_
  ·repeat (refine AWP.block ?_)
   refine AWP.loop (α:=Nat) (fun q=>[(9,.int .i64 (at_:Int)),(6,.cptr o6 4 0 0),(2,.int .i64 (line:Int)),(1,.int .i64 (q:Int)),(0,.str s)]) (fun _=>st.set o6 (.cells 64 4 [tokRow zTk]))
    (fun q=>at_≤q∧q≤s.length∧∀ j,j < q - at_→∃ b,(s.drop at_)[j]?=some b∧isNP b=true) (fun q=>s.length - q) at_ ⟨Nat.le_refl _,by omega,fun j h=>by omega⟩ (tl5 rfl rfl rfl rfl rfl) (.refl _) ?_
   rintro q ⟨q1,q2,q3⟩
   repeat (first|refine AWP.seq ?_|refine rg ?_|refine sm rfl ?_|refine lns rfl rfl ?_)
   refine AOps.split 22 rfl (fun h7=>?_) (fun h7=>?_)
   ·have hq:q < s.length:=by have:(q:Int) < (s.length:Int):=h7; omega
    have hcq:s[q]?=some s[q]:=List.getElem?_eq_getElem hq
    have hcd:(s.drop at_)[q - at_]?=some s[q]:=by rw [List.getElem?_drop,show at_ + (q - at_)=q by omega]; exact hcq
    generalize s[q]=b at hcq hcd
    have next:isNP b=true→∀ j,j < q + 1 - at_→∃ b,(s.drop at_)[j]?=some b∧isNP b=true:=by
     intro hb j hj
     rcases Nat.lt_or_ge j (q - at_) with h1|h1
     ·exact q3 j h1
     ·have:j=q - at_:=by omega
      subst this
      exact ⟨b,hcd,hb⟩
    repeat (first|refine sm rfl ?_|refine sx rfl rfl rfl rfl (by assumption) ?_)
    refine cle rfl rfl (rletter_ok b.toNat _) ?_
    repeat (refine sm rfl ?_)
    refine AOps.splitB 27 rfl (fun hl=>?_) (fun hl=>?_)
    ·have hl':isLet b=true:=hl
     repeat (first|refine nl ?_|refine sm rfl ?_|refine uw rfl ?_)
     refine AWP.cond_true rfl (AWP.skip ?_)
     repeat (first|refine nl ?_|refine rg ?_|refine AWP.block ?_|refine sm rfl ?_|refine inc rfl rfl rfl (by omega) ?_)
     exact ⟨q + 1,⟨by omega,by omega,next (by simp [isNP,hl'])⟩,by omega,(tl5 rfl rfl rfl rfl rfl),.refl _⟩
    ·have hl':isLet b=false:=hl
     repeat (first|refine sm rfl ?_|refine sx rfl rfl rfl rfl (by assumption) ?_)
     refine cle rfl rfl (rdigit_ok b.toNat _) ?_
     repeat (first|refine nl ?_|refine sm rfl ?_)
     refine AWP.cond_bool rfl (fun hg=>AWP.skip ?_) (fun hg=>AWP.exit (blk_hit ?_))
     ·have hg':isDig b=true:=hg
      repeat (first|refine nl ?_|refine rg ?_|refine AWP.block ?_|refine sm rfl ?_|refine inc rfl rfl rfl (by omega) ?_)
      exact ⟨q + 1,⟨by omega,by omega,next (by simp [isNP,hg'])⟩,by omega,(tl5 rfl rfl rfl rfl rfl),.refl _⟩
     ·have hg':isDig b=false:=(by simpa using hg:digA b.toNat=false)
      have:=hnt (q - at_) q3 (.inl ⟨b,hcd,by simp [isNP,hl',hg']⟩) (by rw [List.length_drop]; omega)
      have hqe:q=at_ + nm.length:=by omega
      subst hqe
      exact ⟨(tl5 rfl rfl rfl rfl rfl),.refl _⟩
   ·have hq:q=s.length:=by have:¬ (q:Int) < (s.length:Int):=h7; omega
    have:=hnt (q - at_) q3 (.inr (by rw [List.length_drop]; omega)) (by rw [List.length_drop]; omega)
    have hqe:q=at_ + nm.length:=by omega
    subst hqe
    repeat (first|refine nl ?_|refine sm rfl ?_|refine uw rfl ?_)
    refine AWP.cond_false rfl (AWP.exit (blk_hit ?_))
    exact ⟨(tl5 rfl rfl rfl rfl rfl),.refl _⟩
  ·repeat (first|refine AWP.seq ?_|refine rg ?_|refine sm rfl ?_)
   refine Go.AM.sb rfl rfl rfl (by omega) ?_
   rw [show ((at_ + nm.length:Nat):Int) - (at_:Int)=(nm.length:Int) by omega]
   repeat (first|refine nl ?_|refine sm rfl ?_)
   refine AWP.cond_dec rfl (fun h2=>?_) (fun h2=>AWP.skip ?_)
   ·have h2':12 < nm.length:=by have:(12:Int) < (nm.length:Int):=h2; omega
    simp only [if_pos h2'] at hone
    rw [hone]
    refine goC ?_
    refine rg ?_
    refine bds (cs:=tokRow zTk) rfl rfl rfl rfl ?_
    refine soV rfl rfl rfl rfl rfl rfl ?_
    repeat (first|refine nl ?_|refine sm rfl ?_)
    exact AWP.ret (rets (resCW rfl (St.obj_set _ _ _) rfl rfl rfl rfl) (.refl _) (StLe.new ho6 (.refl _)) ⟨rfl,rfl⟩)
   ·have h2':¬ 12 < nm.length:=by have:¬ (12:Int) < (nm.length:Int):=h2; omega
    simp only [if_neg h2'] at hone
    rw [hone]
    repeat (first|refine AWP.seq ?_|refine rg ?_|refine sm rfl ?_)
    refine ss2 rfl rfl rfl rfl (by omega) (by omega) ?_
    rw [Nat.add_sub_cancel_left,htk]
    repeat (first|refine nl ?_|refine AWP.seq ?_|refine rg ?_|refine sm rfl ?_)
    refine cle rfl rfl (rres_ok nm _) ?_
    repeat (refine nl ?_)
    refine AWP.cond_dec rfl (fun h3=>?_) (fun h3=>AWP.skip ?_)
    ·rw [if_pos h3]
     repeat (first|refine AWP.seq ?_|refine rg ?_|refine sm rfl ?_)
     refine bds (cs:=tokRow ⟨3,line,nm,0⟩) rfl rfl rfl rfl ?_
     repeat (refine sm rfl ?_)
     refine soV rfl rfl rfl rfl rfl rfl ?_
     repeat (first|refine nl ?_|refine sm rfl ?_)
     exact AWP.ret (rets (resCW rfl (St.obj_set _ _ _) rfl rfl rfl rfl) (.refl _) (StLe.new ho6 (.refl _)) ⟨rfl,rfl⟩)
    ·rw [if_neg h3]
     repeat (first|refine AWP.seq ?_|refine rg ?_|refine sm rfl ?_)
     refine bds (cs:=tokRow ⟨1,line,nm,0⟩) rfl rfl rfl rfl ?_
     repeat (refine sm rfl ?_)
     refine soV rfl rfl rfl rfl rfl rfl ?_
     repeat (first|refine nl ?_|refine sm rfl ?_)
     exact AWP.ret (rets (resCW rfl (St.obj_set _ _ _) rfl rfl rfl rfl) (.refl _) (StLe.new ho6 (.refl _)) ⟨rfl,rfl⟩)
 ·have hcl:isLet c=false:=(by simpa using hb:letA c.toNat=false)
  rw [hcl,cond_false] at hone
  repeat (first|refine AWP.seq ?_|refine rg ?_|refine sm rfl ?_|refine sx rfl rfl rfl rfl (by assumption) ?_)
  refine cle rfl rfl (rdigit_ok c.toNat _) ?_
  repeat (refine nl ?_)
  refine AWP.cond_bool rfl (fun hb2=>?_) (fun hb2=>AWP.skip ?_)
  ·have hcd:isDig c=true:=hb2
   rw [hcd,cond_true] at hone
   have hnle:=(List.takeWhile_prefix isDig (l:=s.drop at_)).length_le
   rw [List.length_drop] at hnle
   have htk:(s.drop at_).take ((s.drop at_).takeWhile isDig).length=(s.drop at_).takeWhile isDig:=(List.prefix_iff_eq_take.1 (List.takeWhile_prefix isDig)).symm
   have hall:∀ x ∈ (s.drop at_).takeWhile isDig,isDig x=true:=fun x hx=>mem_tw hx
   have hstop:∀ b,s[at_ + ((s.drop at_).takeWhile isDig).length]?=some b→isDig b=false:=by
    intro b hb
    have h1:((s.drop at_).drop ((s.drop at_).takeWhile isDig).length).head?=some b:=by rw [List.drop_drop,List.head?_drop]; exact hb
    have h2:(s.drop at_).dropWhile isDig=(s.drop at_).drop ((s.drop at_).takeWhile isDig).length:=by
     have h3:=List.takeWhile_append_dropWhile (p:=isDig) (l:=s.drop at_)
     conv=>rhs; arg 2; rw [← h3]
     rw [List.drop_left]
    rw [← h2] at h1
    have h4:=List.head?_dropWhile_not isDig (s.drop at_)
    rw [h1] at h4
    simpa using h4
   have hhd:(((s.drop at_).drop ((s.drop at_).takeWhile isDig).length).head?.map isNP).getD false=((s[at_ + ((s.drop at_).takeWhile isDig).length]?).map isLet).getD false:=by
    rw [List.drop_drop,List.head?_drop]
    cases hb:s[at_ + ((s.drop at_).takeWhile isDig).length]? with
    | none=>rfl
    | some b=>simp [isNP,hstop b hb]
   simp only [hhd] at hone
   clear hhd
   generalize (s.drop at_).takeWhile isDig=ds at hone hnle htk hall hstop
   refine AWP.seq ?_
   refine rg ?_
   repeat (refine sm rfl ?_)
   refine nl ?_
   refine AWP.seq ?_
   refine midk [(11,.int .i64 ((digits (ds.take (min ds.length 18)):Nat):Int)),(9,.int .i64 (at_:Int)),(6,.cptr o6 4 0 0),(2,.int .i64 (line:Int)),(1,.int .i64 ((at_ + ds.length:Nat):Int)),(0,.str s)] (st.set o6 (.cells 64 4 [tokRow zTk])) ?_ ?_
   ·repeat (refine AWP.block ?_)
    refine AWP.loop (α:=Nat) (fun q=>[(11,.int .i64 ((digits (ds.take (min (q - at_) 18)):Nat):Int)),(9,.int .i64 (at_:Int)),(6,.cptr o6 4 0 0),(2,.int .i64 (line:Int)),(1,.int .i64 (q:Int)),(0,.str s)]) (fun _=>st.set o6 (.cells 64 4 [tokRow zTk]))
     (fun q=>at_≤q∧q≤at_ + ds.length) (fun q=>s.length - q) at_ ⟨Nat.le_refl _,by omega⟩ ?_ (.refl _) ?_
    ·rw [Nat.sub_self]
     exact (tl6 rfl rfl rfl rfl rfl rfl)
    rintro q ⟨q1,q2⟩
    repeat (first|refine AWP.seq ?_|refine rg ?_|refine sm rfl ?_|refine lns rfl rfl ?_)
    refine AOps.split 63 rfl (fun h7=>?_) (fun h7=>?_)
    ·have hq:q < s.length:=by have:(q:Int) < (s.length:Int):=h7; omega
     have hcq:s[q]?=some s[q]:=List.getElem?_eq_getElem hq
     rcases Nat.lt_or_ge (q - at_) ds.length with hk|hk
     ·have hdq:ds[q - at_]?=some s[q]:=by
       conv=>lhs; rw [← htk]
       rw [List.getElem?_take_of_lt hk,List.getElem?_drop,show at_ + (q - at_)=q by omega]
       exact hcq
      generalize s[q]=b at hcq hdq
      have hb:=hall b (List.mem_of_getElem? hdq)
      have hb':=hb
      simp only [isDig,Bool.and_eq_true,decide_eq_true_eq] at hb'
      repeat (first|refine sm rfl ?_|refine sx rfl rfl rfl rfl (by assumption) ?_)
      refine cle rfl rfl (rdigit_ok b.toNat _) ?_
      repeat (first|refine nl ?_|refine sm rfl ?_)
      refine AWP.cond_bool rfl (fun _=>AWP.skip ?_) (fun hg=>absurd (hb:digA b.toNat=true) (by rw [show isDig b=false from (by simpa using hg:digA b.toNat=false)]; decide))
      repeat (first|refine AWP.seq ?_|refine rg ?_|refine AWP.block ?_|refine sm rfl ?_)
      refine Go.AM.sb rfl rfl rfl (by omega) ?_
      rw [show (q:Int) - (at_:Int)=((q - at_:Nat):Int) by omega]
      repeat (first|refine nl ?_|refine sm rfl ?_)
      refine AWP.cond_dec rfl (fun h18=>?_) (fun h18=>AWP.skip ?_)
      ·have h18':q - at_ < 18:=by have:((q - at_:Nat):Int) < 18:=h18; omega
       have hm:min (q - at_) 18=q - at_:=by omega
       have hm1:min (q + 1 - at_) 18=q - at_ + 1:=by omega
       have hsn:digits (ds.take (q - at_ + 1))=digits (ds.take (q - at_)) * 10 + (b.toNat - 48):=by
        rw [List.take_add_one,hdq,Option.toList_some,digits_snoc]
       have hlt:digits (ds.take (q - at_)) < 10 ^ (q - at_):=digits_lt _ _ (by rw [List.length_take]; omega) fun c hc=>hall c (List.mem_of_mem_take hc)
       have hb2:10 ^ (q - at_)≤10 ^ 17:=Nat.pow_le_pow_right (by omega) (by omega)
       rw [hm]
       generalize digits (ds.take (q - at_))=v at hsn hlt
       repeat (first|refine rg ?_|refine sm rfl ?_)
       refine mlk (c:=((10 * v:Nat):Int)) rfl rfl rfl (by rw [wrap64 (by omega)]; omega) ?_
       repeat (first|refine sm rfl ?_|refine sx rfl rfl rfl rfl (by assumption) ?_)
       refine sbk (c:=((b.toNat - 48:Nat):Int)) rfl rfl rfl (by rw [wrap8 (by omega)]; omega) ?_
       refine cv (c:=((b.toNat - 48:Nat):Int)) rfl rfl (wrap64 (by omega)) ?_
       repeat (first|refine nl ?_|refine rg ?_|refine sm rfl ?_|refine inc rfl rfl rfl (by omega) ?_|refine adn rfl rfl rfl (by omega) ?_)
       refine ⟨q + 1,⟨by omega,by omega⟩,by omega,?_,.refl _⟩
       rw [hm1,hsn,Nat.mul_comm v 10]
       exact (tl6 rfl rfl rfl rfl rfl rfl)
      ·have h18':¬ q - at_ < 18:=by have:¬ ((q - at_:Nat):Int) < 18:=h18; omega
       have hm:min (q + 1 - at_) 18=min (q - at_) 18:=by omega
       repeat (first|refine nl ?_|refine rg ?_|refine sm rfl ?_|refine inc rfl rfl rfl (by omega) ?_)
       refine ⟨q + 1,⟨by omega,by omega⟩,by omega,?_,.refl _⟩
       rw [hm]
       exact (tl6 rfl rfl rfl rfl rfl rfl)
     ·have hqe:q=at_ + ds.length:=by omega
      have hnd:=hstop s[q] (by rw [← hqe]; exact hcq)
      generalize s[q]=b at hcq hnd
      repeat (first|refine sm rfl ?_|refine sx rfl rfl rfl rfl (by assumption) ?_)
      refine cle rfl rfl (rdigit_ok b.toNat _) ?_
      repeat (first|refine nl ?_|refine sm rfl ?_)
      refine AWP.cond_bool rfl (fun hg=>absurd (show isDig b=true from hg) (by rw [hnd]; decide)) (fun _=>AWP.exit (blk_hit ?_))
      subst hqe
      rw [Nat.add_sub_cancel_left]
      exact ⟨(tl6 rfl rfl rfl rfl rfl rfl),.refl _⟩
    ·have hq:q=s.length:=by have:¬ (q:Int) < (s.length:Int):=h7; omega
     have hqe:q=at_ + ds.length:=by omega
     subst hqe
     rw [Nat.add_sub_cancel_left]
     repeat (first|refine nl ?_|refine sm rfl ?_|refine uw rfl ?_)
     refine AWP.cond_false rfl (AWP.exit (blk_hit ?_))
     exact ⟨(tl6 rfl rfl rfl rfl rfl rfl),.refl _⟩
   ·repeat (first|refine AWP.seq ?_|refine rg ?_|refine sm rfl ?_)
    refine Go.AM.sb rfl rfl rfl (by omega) ?_
    rw [show ((at_ + ds.length:Nat):Int) - (at_:Int)=(ds.length:Int) by omega]
    repeat (first|refine nl ?_|refine sm rfl ?_)
    refine AWP.cond_dec rfl (fun h2=>?_) (fun h2=>AWP.skip ?_)
    ·have h2':18 < ds.length:=by have:(18:Int) < (ds.length:Int):=h2; omega
     simp only [if_pos h2'] at hone
     rw [hone]
     refine goC ?_
     refine rg ?_
     refine bds (cs:=tokRow zTk) rfl rfl rfl rfl ?_
     refine soV rfl rfl rfl rfl rfl rfl ?_
     repeat (first|refine nl ?_|refine sm rfl ?_)
     exact AWP.ret (rets (resCW rfl (St.obj_set _ _ _) rfl rfl rfl rfl) (.refl _) (StLe.new ho6 (.refl _)) ⟨rfl,rfl⟩)
    ·have h2':¬ 18 < ds.length:=by have:¬ (18:Int) < (ds.length:Int):=h2; omega
     simp only [if_neg h2'] at hone
     have hm:ds.take (min ds.length 18)=ds:=by rw [show min ds.length 18=ds.length by omega,List.take_length]
     rw [hm]
     repeat (first|refine AWP.seq ?_|refine rg ?_|refine sm rfl ?_|refine lns rfl rfl ?_)
     refine AOps.split 92 rfl (fun h7=>?_) (fun h7=>?_)
     ·have hq:at_ + ds.length < s.length:=by have:((at_ + ds.length:Nat):Int) < (s.length:Int):=h7; omega
      have hcq:s[at_ + ds.length]?=some s[at_ + ds.length]:=List.getElem?_eq_getElem hq
      generalize s[at_ + ds.length]=b at hcq
      rw [hcq] at hone
      simp only [Option.map_some,Option.getD_some] at hone
      repeat (first|refine sm rfl ?_|refine sx rfl rfl rfl rfl (by assumption) ?_)
      refine cle rfl rfl (rletter_ok b.toNat _) ?_
      repeat (first|refine nl ?_|refine sm rfl ?_)
      refine AWP.cond_bool rfl (fun hg=>?_) (fun hg=>AWP.skip ?_)
      ·have hg':isLet b=true:=hg
       rw [if_pos hg'] at hone
       rw [hone]
       refine goC ?_
       refine rg ?_
       refine bds (cs:=tokRow zTk) rfl rfl rfl rfl ?_
       refine soV rfl rfl rfl rfl rfl rfl ?_
       repeat (first|refine nl ?_|refine sm rfl ?_)
       exact AWP.ret (rets (resCW rfl (St.obj_set _ _ _) rfl rfl rfl rfl) (.refl _) (StLe.new ho6 (.refl _)) ⟨rfl,rfl⟩)
      ·have hg':¬ isLet b=true:=by rw [show isLet b=false from (by simpa using hg:letA b.toNat=false)]; decide
       rw [if_neg hg'] at hone
       rw [hone]
       repeat (first|refine AWP.seq ?_|refine rg ?_|refine sm rfl ?_)
       refine bds (cs:=tokRow ⟨2,line,[],digits ds⟩) rfl rfl rfl rfl ?_
       repeat (refine sm rfl ?_)
       refine soV rfl rfl rfl rfl rfl rfl ?_
       repeat (first|refine nl ?_|refine sm rfl ?_)
       exact AWP.ret (rets (resCW rfl (St.obj_set _ _ _) rfl rfl rfl rfl) (.refl _) (StLe.new ho6 (.refl _)) ⟨rfl,rfl⟩)
     ·have hn:s[at_ + ds.length]?=none:=List.getElem?_eq_none (by have:¬ ((at_ + ds.length:Nat):Int) < (s.length:Int):=h7; omega)
      rw [hn] at hone
      simp only [Option.map_none,Option.getD_none] at hone
      rw [if_neg (by decide)] at hone
      rw [hone]
      repeat (first|refine nl ?_|refine sm rfl ?_|refine uw rfl ?_)
      refine AWP.cond_false rfl (AWP.skip ?_)
      repeat (first|refine AWP.seq ?_|refine rg ?_|refine sm rfl ?_)
      refine bds (cs:=tokRow ⟨2,line,[],digits ds⟩) rfl rfl rfl rfl ?_
      repeat (refine sm rfl ?_)
      refine soV rfl rfl rfl rfl rfl rfl ?_
      repeat (first|refine nl ?_|refine sm rfl ?_)
      exact AWP.ret (rets (resCW rfl (St.obj_set _ _ _) rfl rfl rfl rfl) (.refl _) (StLe.new ho6 (.refl _)) ⟨rfl,rfl⟩)
  ·have hcd:isDig c=false:=(by simpa using hb2:digA c.toNat=false)
   rw [hcd,cond_false] at hone
   repeat (first|refine AWP.seq ?_|refine rg ?_|refine sm rfl ?_)
   refine cle rfl rfl (rsign_ok s hs at_ hat _) ?_
   have hsl:=sign_le (s.drop at_)
   rw [List.length_drop] at hsl
   generalize sign (s.drop at_)=sg at hone hsl
   repeat (first|refine nl ?_|refine AWP.seq ?_|refine rg ?_|refine sm rfl ?_)
   refine AWP.cond_dec rfl (fun h3=>?_) (fun h3=>AWP.skip ?_)
   ·have h3':sg=[]:=h3
    rw [if_pos h3'] at hone
    rw [hone]
    refine goC ?_
    refine rg ?_
    refine bds (cs:=tokRow zTk) rfl rfl rfl rfl ?_
    refine soV rfl rfl rfl rfl rfl rfl ?_
    repeat (first|refine nl ?_|refine sm rfl ?_)
    exact AWP.ret (rets (resCW rfl (St.obj_set _ _ _) rfl rfl rfl rfl) (.refl _) (StLe.new ho6 (.refl _)) ⟨rfl,rfl⟩)
   ·have h3':¬ sg=[]:=h3
    rw [if_neg h3'] at hone
    rw [hone]
    repeat (first|refine AWP.seq ?_|refine rg ?_|refine sm rfl ?_)
    refine bds (cs:=tokRow ⟨4,line,sg,0⟩) rfl rfl rfl rfl ?_
    repeat (first|refine sm rfl ?_|refine lns rfl rfl ?_|refine adn rfl rfl rfl (by omega) ?_)
    refine soV rfl rfl rfl rfl rfl rfl ?_
    repeat (first|refine nl ?_|refine sm rfl ?_)
    exact AWP.ret (rets (resCW rfl (St.obj_set _ _ _) rfl rfl rfl rfl) (.refl _) (StLe.new ho6 (.refl _)) ⟨rfl,rfl⟩)
end Go.Proofs
namespace Go.Proofs
open Go.AM

theorem skipAt_tail (s:List UInt8) (p line:Nat) (hp:p≤s.length):s.drop (skipAt s p line)=(skip false (s.drop p) line).1∧skipAt s p line≤s.length∧p≤skipAt s p line∧(skip false (s.drop p) line).2≤1000000 + skipAt s p line∨1000000 + p < line:=by
 rcases Nat.lt_or_ge (1000000 + p) line with h|h
 ·exact .inr h
 ·left
  obtain ⟨w1,w2,w3,w4⟩:=skip_le false (s.drop p) line
  have w6:=skip_sum false (s.drop p) line
  have w7:=skip_tail (s.drop p) line
  rw [List.length_drop] at w1 w2 w6 w7
  rw [List.drop_drop] at w7
  unfold skipAt
  refine ⟨?_,by omega,by omega,by omega⟩
  rw [← w7]
  congr 1
  rw [w7]
  omega

set_option maxHeartbeats 4000000 in
theorem rscan_ok (s:List UInt8) (hs:s.length≤140737488351232) (st:St):ACalls Tryz.prog 27 [.str s] st (fun v st'=>v=scanV (scan s)∧st'=st) (fun _ _=>False):=by
 refine ACalls.ofBody Tryz.func27 rfl Tryz.ntmps27 rfl ?_
 repeat (first|refine nl ?_|refine AWP.seq ?_|refine rg ?_|refine sm rfl ?_|refine lns rfl rfl ?_)
 refine AWP.cond_dec rfl (fun h=>?_) (fun h=>AWP.skip ?_)
 ·have h':4000 < s.length:=by have:(4000:Int) < (s.length:Int):=h; omega
  repeat (first|refine nl ?_|refine AWP.seq ?_|refine rg ?_|refine sm rfl ?_)
  refine AWP.ret (rets rfl (Le.tri (.nilShared 0 4) (.refl _) (.refl _)) (.refl _) ⟨?_,rfl⟩)
  rw [scan,if_pos h']
  rfl
 ·have h':s.length≤4000:=by have:¬ (4000:Int) < (s.length:Int):=h; omega
  have hscan:scan s=scanL (s.length + 1) (skip false s 1).1 (skip false s 1).2 []:=by rw [scan,if_neg (by omega)]
  refine goC ?_
  refine rg ?_
  refine sm rfl ?_
  refine nl ?_
  refine AWP.nilTok 5 64 4 rfl fun tk htk=>?_
  repeat (first|refine AWP.seq ?_|refine rg ?_|refine sm rfl ?_)
  refine cle rfl rfl (rskip_ok s (by omega) 0 1 (Nat.zero_le _) (by omega) _) ?_
  have hsk:=skipAt_tail s 0 1 (Nat.zero_le _)
  rw [List.drop_zero] at hsk ⊢
  obtain ⟨k1,k2,k3,k4⟩:=hsk.resolve_right (by omega)
  generalize skipAt s 0 1=p0 at k1 k2 k3 k4
  rw [← k1] at hscan
  generalize (skip false s 1).2=l0 at hscan k4
  repeat (first|refine nl ?_|refine AWP.seq ?_|refine AWP.block ?_|refine sm rfl ?_)
  refine AWP.loop (α:=Nat × Nat × Nat × List Tk × Nat)
   (fun x=>[(7,.int .i64 (x.2.2.1:Int)),(6,.int .i64 (x.2.1:Int)),(5,.view 4 (x.2.2.2.1.map tokRow) (.own x.2.2.2.2 64)),(0,.str s)])
   (fun x=>st.addTok x.2.2.2.2)
   (fun x=>x.2.1≤s.length∧x.2.2.1≤1000000 + x.2.1∧scan s=scanL x.1 (s.drop x.2.1) x.2.2.1 x.2.2.2.1∧s.length - x.2.1 < x.1∧x.2.2.2.1.length≤2000∧st.tok x.2.2.2.2=false) (fun x=>x.1)
   (s.length + 1,p0,l0,[],tk) ⟨k2,k4,hscan,by simp only; omega,by simp,htk⟩ (tl4 rfl rfl rfl rfl) (.refl _) ?_
  rintro ⟨fuel,pos,line,out,tk⟩ ⟨h1,h2,h3,h4,h5,h6⟩
  simp only at h1 h2 h3 h4 h5 h6
  refine AWP.weaken (T':=[(7,.int .i64 (line:Int)),(6,.int .i64 (pos:Int)),(5,.view 4 (out.map tokRow) (.own tk 64)),(0,.str s)]) (st':=st.addTok tk) (tl4 rfl rfl rfl rfl) (.refl _) ?_
  repeat (first|refine nl ?_|refine AWP.seq ?_|refine rg ?_|refine sm rfl ?_|refine lns rfl rfl ?_)
  refine AWP.cond_dec rfl (fun h=>AWP.skip ?_) (fun h=>AWP.exit (blk_hit ?_))
  ·have hlt:pos < s.length:=by have:(pos:Int) < (s.length:Int):=h; omega
   obtain ⟨fuel,rfl⟩:∃ k,fuel=k + 1:=⟨fuel - 1,by omega⟩
   have hd:s.drop pos=s[pos]::s.drop (pos + 1):=List.drop_eq_getElem_cons hlt
   have hstep:scan s=match one (s.drop pos) line with
     | .error e=>([],line,e)
     | .ok (t,m)=>if 2000≤out.length then ([],line,5) else scanL fuel (skip false ((s.drop pos).drop m) line).1 (skip false ((s.drop pos).drop m) line).2 (out++[t]):=by
    rw [h3,hd]
    rfl
   clear h3
   repeat (first|refine AWP.seq ?_|refine rg ?_|refine AWP.block ?_|refine sm rfl ?_)
   refine cle rfl rfl (rone_ok s (by omega) pos line hlt _) ?_
   cases ho:one (s.drop pos) line with
   | error e =>
    rw [ho] at hstep
    refine AOps.weaken (T':=[(27,roneV pos (.error e)),(7,.int .i64 (line:Int)),(5,.view 4 (out.map tokRow) (.own tk 64)),(0,.str s)]) (tl4 rfl rfl rfl rfl) (.refl _) ?_
    unfold roneV
    repeat (refine sm rfl ?_)
    refine al rfl rfl fun o8 ho8=>?_
    refine soN 8 rfl rfl rfl rfl rfl rfl ho8 ?_
    have he:=one_err ho
    repeat (first|refine nl ?_|refine AWP.seq ?_|refine rg ?_|refine sm rfl ?_)
    refine AOps.split 33 rfl (fun h8=>absurd (show (e:Int)=0 from h8) (by omega)) (fun _=>?_)
    repeat (first|refine nl ?_|refine sm rfl ?_|refine uw rfl ?_)
    refine AWP.cond_false rfl (AWP.skip ?_)
    repeat (first|refine nl ?_|refine AWP.seq ?_|refine rg ?_|refine sm rfl ?_)
    refine AWP.cond_dec rfl (fun _=>?_) (fun h8=>absurd (show (e:Int)≠0 by omega) h8)
    repeat (first|refine nl ?_|refine AWP.seq ?_|refine rg ?_|refine sm rfl ?_)
    refine AWP.ret (rets rfl (Le.tri (.nilShared 0 4) (.refl _) (.refl _)) (StLe.addTok _ (.refl _)) ⟨?_,rfl⟩)
    rw [hstep]
    rfl
   | ok p =>
    obtain ⟨t,m⟩:=p
    rw [ho] at hstep
    simp only at hstep
    obtain ⟨m1,m2,m3⟩:=one_ok ho
    rw [List.length_drop] at m2
    refine AOps.weaken (T':=[(27,roneV pos (.ok (t,m))),(7,.int .i64 (line:Int)),(5,.view 4 (out.map tokRow) (.own tk 64)),(0,.str s)]) (tl4 rfl rfl rfl rfl) (.refl _) ?_
    unfold roneV
    repeat (refine sm rfl ?_)
    refine al rfl rfl fun o8 ho8=>?_
    refine soN 8 rfl rfl rfl rfl rfl rfl ho8 ?_
    repeat (first|refine nl ?_|refine AWP.seq ?_|refine rg ?_|refine sm rfl ?_|refine lnv rfl rfl ?_)
    refine AWP.cond_dec rfl (fun h8=>?_) (fun h8=>AWP.skip ?_)
    ·have hge:2000≤out.length:=by
      rw [List.length_map] at h8
      omega
     rw [if_pos hge] at hstep
     repeat (first|refine nl ?_|refine AWP.seq ?_|refine rg ?_|refine sm rfl ?_)
     refine AWP.cond_true rfl ?_
     repeat (first|refine nl ?_|refine AWP.seq ?_|refine rg ?_|refine sm rfl ?_)
     refine AWP.ret (rets rfl (Le.tri (.nilShared 0 4) (.refl _) (.refl _)) (StLe.addTok _ (.refl _)) ⟨?_,rfl⟩)
     rw [hstep]
     rfl
    ·have hge:¬ 2000≤out.length:=by
      rw [List.length_map] at h8
      omega
     rw [if_neg hge] at hstep
     repeat (first|refine nl ?_|refine AWP.seq ?_|refine rg ?_|refine sm rfl ?_)
     refine AWP.cond_false rfl (AWP.skip ?_)
     repeat (first|refine AWP.seq ?_|refine rg ?_|refine sm rfl ?_|refine leW rfl rfl rfl rfl rfl ?_|refine bs1 rfl rfl rfl rfl rfl rfl ?_)
     refine ap rfl rfl rfl (St.tok_addTok _ _) rfl (by simp only [List.length_cons,List.length_nil,List.length_map]; omega) (by simp only [List.length_cons,List.length_nil,List.length_map,maxLen]; omega) fun tk' htk'=>?_
     have hm:out.map tokRow++[(AV.agg (AV.agg (tokRow t)).cells).cells]=(out++[t]).map tokRow:=by rw [List.map_append]; rfl
     rw [hm]
     have htk2:st.tok tk'=false:=St.tok_of_add (st:=st) htk'
     repeat (first|refine nl ?_|refine rg ?_|refine sm rfl ?_)
     have hdd:(s.drop pos).drop m=s.drop (pos + m):=List.drop_drop ..
     rw [hdd] at hstep
     refine cle rfl rfl (rskip_ok s (by omega) (pos + m) line (by omega) (by omega) _) ?_
     obtain ⟨w1,w2,w3,w4⟩:=(skipAt_tail s (pos + m) line (by omega)).resolve_right (by omega)
     generalize skipAt s (pos + m) line=p' at w1 w2 w3 w4
     rw [← w1] at hstep
     generalize (skip false (s.drop (pos + m)) line).2=l' at hstep w4
     repeat (first|refine nl ?_|refine sm rfl ?_)
     exact ⟨(fuel,p',l',out++[t],tk'),⟨w2,w4,hstep,by simp only; omega,by simp only [List.length_append,List.length_cons,List.length_nil]; omega,htk2⟩,by simp only; omega,(tl4 rfl rfl rfl rfl),StLe.reTok h6 tk'⟩
  ·have hlt:pos=s.length:=by have:¬ (pos:Int) < (s.length:Int):=h; omega
   subst hlt
   obtain ⟨fuel,rfl⟩:∃ k,fuel=k + 1:=⟨fuel - 1,by omega⟩
   rw [List.drop_length] at h3
   have hstep:scan s=(out++[(⟨0,line,[],0⟩:Tk)],0,0):=h3
   repeat (first|refine AWP.seq ?_|refine rg ?_|refine sm rfl ?_)
   refine bds (cs:=tokRow ⟨0,line,[],0⟩) rfl rfl rfl rfl ?_
   repeat (refine bs1 rfl rfl rfl rfl rfl rfl ?_)
   refine ap rfl rfl rfl (St.tok_addTok _ _) rfl (by simp only [List.length_cons,List.length_nil,List.length_map]; omega) (by simp only [List.length_cons,List.length_nil,List.length_map,maxLen]; omega) fun tk' htk'=>?_
   have hm:out.map tokRow++[(AV.agg (tokRow ⟨0,line,[],0⟩)).cells]=(out++[(⟨0,line,[],0⟩:Tk)]).map tokRow:=by rw [List.map_append]; rfl
   rw [hm]
   repeat (first|refine nl ?_|refine sm rfl ?_)
   refine AWP.ret (rets rfl (Le.tri (.shared _ _ _) (.refl _) (.refl _)) ((StLe.reTok h6 tk').trans (StLe.addTok _ (.refl _))) ⟨?_,rfl⟩)
   rw [hstep]
   rfl
end Go.Proofs
namespace Go.Proofs
open Go.AM
attribute [local irreducible] AWP AOps AAny ACalls

set_option maxHeartbeats 2000000 in
theorem rparse_ok (s:List UInt8) (hs:s.length≤140737488351232) (st:St) :
  ACalls Tryz.prog 15 [.str s] st (fun v st'=>v=parV (pparse s)∧st'=st) (fun _ _=>False):=by
 refine ACalls.ofBody Tryz.func15 rfl Tryz.ntmps15 rfl ?_
 refine goC ?_
 refine rg ?_
 refine al rfl rfl fun o2 h2=>?_
 refine goD ?_
 refine cle rfl rfl (rscan_ok s hs _) ?_
 unfold scanV
 refine goD ?_
 have hz:∀ S:St,(S.set o2 (.cells 28 2 [[nilV,nilV]])).set o2 (.cells 28 2 [[nilV,nilV]])=S.set o2 (.cells 28 2 [[nilV,nilV]]):=fun S=>St.set_set _ _ _ _
 by_cases he:(scan s).2.2=0
 rotate_left
 ·have hp:=pparse_err he
  have he':¬ ((scan s).2.2:Int)=0:=by omega
  refine goD ?_
  refine bds (cs:=[nilV,nilV]) rfl rfl rfl rfl ?_
  refine goE ?_
  refine so (rows':=[[nilV,nilV]]) rfl rfl rfl (St.obj_set _ _ _) rfl rfl rfl rfl rfl ?_
  rw [St.set_set]
  refine goD ?_
  exact AWP.ret (rets (resCW rfl (St.obj_set _ _ _) rfl rfl rfl rfl) (.refl _) (StLe.new h2 (.refl _)) ⟨by rw [hp] <;> rfl,rfl⟩)
 obtain ⟨H,h0⟩:=scan_RdT he
 have hp:=pparse_of he
 rw [he]
 generalize (scan s).1=ts at H h0 hp
 generalize (scan s).2.1=l0
 have hlen:=H.len
 refine goD ?_
 refine bds (cs:=[.view 4 (ts.map tokRow) .shared,.int .i64 0,.int .i64 0,.int .i64 0]) rfl rfl rfl rfl ?_
 refine bx rfl rfl rfl rfl fun o3 h3=>?_
 have n32:o3≠o2:=Ne.symm (set_ne_new h3)
 refine goD ?_
 refine cl rfl rfl (rprogram_ok H h0 (St.obj_set _ _ _)) fun v st' ⟨p,a,ln,e,hv,ha,hst,hr⟩=>?_
 subst hst
 unfold VG pgRow at hv
 subst hv
 rw [St.set_set]
 have hM:((st.set o2 (.cells 28 2 [[nilV,nilV]])).set o3 (rsC (ts.map tokRow) a ln e)).obj o3=some (.cells 69 4 [[.view 4 (ts.map tokRow) .shared,.int .i64 (a:Int),.int .i64 (ln:Int),.int .i64 (e:Int)]]):=St.obj_set _ _ _
 have hP:((st.set o2 (.cells 28 2 [[nilV,nilV]])).set o3 (rsC (ts.map tokRow) a ln e)).obj o2=some (.cells 28 2 [[nilV,nilV]]):=St.obj_under n32 _ _
 have hS:∀ c d,StLe ((st.set o2 c).set o3 d) st:=fun c d=>StLe.new (none_set h3 c) (StLe.new h2 (.refl _))
 rcases hr with ⟨rfl,rfl,hr⟩|⟨he1,t,hr,hl⟩
 ·refine goD ?_
  refine soU rfl n32 rfl rfl rfl rfl rfl ?_
  refine goD ?_
  exact AWP.ret (rets (resCW rfl (St.obj_under n32 _ _) rfl rfl rfl rfl) (.refl _) (hS _ _) ⟨by rw [hp,hr] <;> rfl,rfl⟩)
 ·have he0:¬ (e:Int)=0:=by omega
  generalize hSS:(st.set o2 (.cells 28 2 [[nilV,nilV]])).set o3 (rsC (ts.map tokRow) a ln e)=S at hM hP
  refine goE ?_
  refine nl ?_
  refine AWP.weaken (T':=[(8,.cptr o3 4 0 0),(2,.cptr o2 2 0 0)]) (st':=S) (tl2 rfl rfl) (by rw [← hSS]; exact .refl _) ?_
  refine goD ?_
  refine AWP.any rfl ?_
  apply AAny.segY (k':=12) (S:=_) (Es:=[9]) (sts:=fun bs=>match bs with|[_]=>some S|_=>none) (F:=fun x y=>y=x) (base:=S) (hok:=by decide +kernel) (hS:=rfl) (h0:=rfl) (hF:=rfl) (hb:=.refl _)
  apply dqY (hi:=rfl) (hd:=rfl) (hw:=rfl) (h:=fun _ _=>bds (cs:=[nilV,nilV]) rfl rfl rfl rfl nz)
  repeat (first|apply dsY (hi:=rfl) (hs:=rfl)|apply dqY (hi:=rfl) (hd:=rfl) (hw:=rfl) (h:=fun _ _=>ZC (z:=nz))|apply dqY (hi:=rfl) (hd:=rfl) (hw:=rfl) (h:=fun _ _=>ZH (z:=nz)))
  apply deY (L:=[[false]]) (hL:=rfl) (hd:=rfl) (hw:=rfl) (h:=by
   refine ⟨?_,trivial⟩
   intro s0 e
   cases e
   refine ⟨_,rfl,fun S2 hs hle=>?_⟩
   rw [hs]
   refine so (rows':=[[nilV,nilV]]) rfl rfl rfl hP rfl rfl rfl rfl rfl ?_
   exact nl ⟨rfl,St.set_same hP,by rw [St.set_same hP]; exact .refl _⟩)
  repeat (apply dsY (hi:=rfl) (hs:=rfl))
  refine dnY rfl fun S2 hs _=>?_
  rw [hs]
  refine AAny.text rfl ?_
  refine nl ?_
  refine AWP.ret (rets (resCW rfl hP rfl rfl rfl rfl) (.refl _) (by rw [← hSS]; exact hS _ _) ⟨?_,rfl⟩)
  rw [hp,hr,hl]
  rfl
end Go.Proofs
namespace Go.Proofs
open Go.AM
attribute [local irreducible] AWP AOps ACalls AAny

def SameX (l:List Xp):Prop:=∀ st,ACalls Tryz.prog 64 [.view 6 (xrows l) .shared,.view 6 (xrows l) .shared] st (fun v st'=>v=.bool true∧st'=st) (fun _ _=>False)
def argsX:Xp→List Xp
 | .elt _ a=>[a]
 | .una _ a=>[a]
 | .bin _ a b=>[a,b]
 | _=>[]
theorem xrow_args (x:Xp):∃ (op num:Int) (name field:List UInt8),xrow x=exRow op num name field (.view 6 (xrows (argsX x)) .shared):=by
 cases x <;> exact ⟨_,_,_,_,rfl⟩
set_option maxHeartbeats 2000000 in
theorem sameX_of {l:List Xp} (hl:l.length≤100000) (h:∀ x ∈ l,SameX (argsX x)):SameX l:=by
 intro st
 refine ACalls.ofBody Tryz.func64 rfl Tryz.ntmps64 rfl ?_
 have hnl:=xrows_len l
 refine goD ?_
 refine AWP.loop (α:=Nat) (fun i=>[(5,.int .i64 (i:Int)),(1,.view 6 (xrows l) .shared),(0,.view 6 (xrows l) .shared)]) (fun _=>st) (fun i=>i≤l.length) (fun i=>l.length - i) 0 (Nat.zero_le _) (tl3 rfl rfl rfl) (.refl _) ?_
 intro i hi
 refine AWP.weaken (T':=[(5,.int .i64 (i:Int)),(1,.view 6 (xrows l) .shared),(0,.view 6 (xrows l) .shared)]) (tl3 rfl rfl rfl) (.refl _) ?_
 by_cases hlt:i < l.length
 ·obtain ⟨x,hs⟩:∃ x,l[i]?=some x:=⟨_,List.getElem?_eq_getElem hlt⟩
  have hx:=h x (List.mem_of_getElem? hs)
  obtain ⟨op,num,name,field,hxr⟩:=xrow_args x
  generalize hargs:xrows (argsX x)=args at hxr
  unfold SameX at hx
  rw [hargs] at hx
  have hr:(xrows l)[i]?=some (exRow op num name field (.view 6 args .shared)):=by unfold xrows; rw [List.getElem?_map,hs,← hxr]; rfl
  have hir:i < (xrows l).length:=by omega
  refine goD ?_
  refine AWP.any rfl ?_
  apply AAny.segX (X:=fun _ _=>False) (hX:=fun _ _ h=>h.elim) (k':=12) (Es:=[8,9,10,11]) (J:=Al2J st 95 6 (exRow 0 0 [] [] nilV) (exRow op num name field (.view 6 args .shared)) (exRow op num name field (.view 6 args .shared))) (base:=st) (hok:=by decide +kernel) (hJ:=rfl) (hb:=.refl _)
  repeat (first|apply dsP (hi:=rfl) (hs:=rfl)|apply dqP (hi:=rfl) (hd:=rfl) (hw:=rfl) (h:=fun _ _=>ZD (z:=nz))|apply dqP (hi:=rfl) (hd:=rfl) (hw:=rfl) (h:=fun _ _=>ZM (z:=nz)))
  apply deP0 (Q:=fun v=>∃ o,v=.cptr o 6 0 0) (L:=[[false,false,false,false],[false,true,false,false]]) (hL:=rfl) (hd:=rfl) (hw:=rfl) (hex:=⟨_,0,rfl⟩) (h:=by
   refine ⟨?_,?_,trivial⟩
   ·intro vs hvs _ s hJ _
    match vs,hvs,hJ with
    | [none,none,none,none],_,hJ =>
     have hJ:s=st:=hJ
     subst hJ
     exact al rfl rfl fun o ho=>nl ⟨_,rfl,⟨o,rfl⟩,⟨o,rfl,ho,rfl⟩,StLe.new ho (.refl _)⟩
   ·intro vs hvs _ s hJ _
    match vs,hvs,hJ with
    | [none,some w,none,none],_,hJ =>
     obtain ⟨p,hp1,hp2,rfl⟩:=hJ
     exact al rfl rfl fun o ho=>nl ⟨_,rfl,⟨o,rfl⟩,⟨o,p,rfl,hp1,(new_ne ho).2,hp2,(new_ne ho).1.symm,set_swap _ _ (new_ne ho).1⟩,StLe.new ho (StLe.new hp2 (.refl _))⟩)
  rintro v ⟨oA,rfl⟩
  apply deP0 (Q:=fun v=>∃ o,v=.cptr o 6 0 0) (L:=[[false,false,false,false],[true,false,false,false]]) (hL:=rfl) (hd:=rfl) (hw:=rfl) (hex:=⟨_,0,rfl⟩) (h:=by
   refine ⟨?_,?_,trivial⟩
   ·intro vs hvs _ s hJ _
    match vs,hvs,hJ with
    | [none,none,none,none],_,hJ =>
     have hJ:s=st:=hJ
     subst hJ
     exact al rfl rfl fun o ho=>nl ⟨_,rfl,⟨o,rfl⟩,⟨o,rfl,ho,rfl⟩,StLe.new ho (.refl _)⟩
   ·intro vs hvs _ s hJ _
    match vs,hvs,hJ with
    | [some v,none,none,none],_,hJ =>
     obtain ⟨p,hp1,hp2,rfl⟩:=hJ
     exact al rfl rfl fun o ho=>nl ⟨_,rfl,⟨o,rfl⟩,⟨p,o,hp1,rfl,hp2,(new_ne ho).2,(new_ne ho).1,rfl⟩,StLe.new ho (StLe.new hp2 (.refl _))⟩)
  rintro v ⟨oB,rfl⟩
  apply dnWP (L:=[[true,true,false,false]]) (hL:=rfl) (hd:=rfl) (hw:=rfl) (h:=by
   refine ⟨?_,trivial⟩
   ·intro vs hvs hlk s hJ hle
    match vs,hvs,hlk,hJ with
    | [some v,some w,none,none],_,hlk,hJ =>
     obtain rfl:v=.cptr oA 6 0 0:=hlk (8,some v) (by simp) (by exact Nat.le_of_ble_eq_true rfl) v rfl
     obtain ⟨o,p,ho1,hp1,ho2,hp2,hne,rfl⟩:=hJ
     cases ho1
     exact soU rfl hne.symm rfl rfl rfl rfl rfl (nl ⟨rfl,fun _=>⟨oA,p,rfl,hp1,ho2,hp2,hne,rfl⟩,StLe.new2 ho2 hp2 hne⟩))
  intro _
  apply dnWP (L:=[[true,true,true,false]]) (hL:=rfl) (hd:=rfl) (hw:=rfl) (h:=by
   refine ⟨?_,trivial⟩
   ·intro vs hvs hlk s hJ hle
    match vs,hvs,hlk,hJ with
    | [some v,some w,some _,none],_,hlk,hJ =>
     obtain rfl:v=.cptr oA 6 0 0:=hlk (8,some v) (by simp) (by exact Nat.le_of_ble_eq_true rfl) v rfl
     obtain rfl:w=.cptr oB 6 0 0:=hlk (9,some w) (by simp) (by exact Nat.le_of_ble_eq_true rfl) w rfl
     obtain ⟨o,p,ho1,hp1,ho2,hp2,hne,rfl⟩:=hJ
     cases ho1
     cases hp1
     exact soV rfl rfl rfl rfl rfl rfl (nl ⟨rfl,fun _=>⟨oA,oB,rfl,rfl,ho2,hp2,hne,rfl⟩,StLe.new2 ho2 hp2 hne⟩))
  intro _
  refine dnP fun s hs=>?_
  obtain ⟨o,p,ho1,hp1,ho2,hp2,hne,rfl⟩:=hs
  cases ho1
  cases hp1
  refine AAny.text rfl ?_
  refine nl ?_
  have hA:((st.set oA (.cells 95 6 [(exRow op num name field (.view 6 args .shared))])).set oB (.cells 95 6 [(exRow op num name field (.view 6 args .shared))])).obj oA=some (.cells 95 6 [(exRow op num name field (.view 6 args .shared))]):=by rw [St.obj_set_ne hne]; exact St.obj_set _ _ _
  have hB:((st.set oA (.cells 95 6 [(exRow op num name field (.view 6 args .shared))])).set oB (.cells 95 6 [(exRow op num name field (.view 6 args .shared))])).obj oB=some (.cells 95 6 [(exRow op num name field (.view 6 args .shared))]):=St.obj_set _ _ _
  have kn:¬ (name≠name):=fun h=>h rfl
  have kf:¬ (field≠field):=fun h=>h rfl
  refine goD ?_
  refine cle rfl rfl (hx _) ?_
  refine goD ?_
  exact ⟨i + 1,by omega,by omega,(tl3 rfl rfl rfl),StLe.new2 ho2 hp2 hne⟩
 ·have hil:i=l.length:=by omega
  subst hil
  refine goD ?_
  refine AWP.exit (blk_hit ?_)
  refine goD ?_
  exact AWP.ret (rets rfl (.refl _) (.refl _) ⟨rfl,rfl⟩)
theorem sameX:∀ (n:Nat) (l:List Xp),l.length≤100000→(∀ x ∈ l,SizeOf.sizeOf x≤n)→SameX l
 | 0,l,hl,h=>by
  cases l with
  | nil=>exact sameX_of (by decide) (fun x hx=>by cases hx)
  | cons a r=>have:=h a (by simp); cases a <;> simp at this
 | n + 1,l,hl,h=>sameX_of hl fun x hx=>sameX n (argsX x) (by cases x <;> simp [argsX]) fun y hy=>by
  have h1:=h x hx
  cases x with
  | lit n=>cases hy
  | var s=>cases hy
  | fld s f=>cases hy
  | elt s a=>simp only [argsX,List.mem_singleton] at hy; subst hy; simp at h1; omega
  | una op a=>simp only [argsX,List.mem_singleton] at hy; subst hy; simp at h1; omega
  | bin op a b =>
   simp only [argsX,List.mem_cons,List.not_mem_nil,or_false] at hy
   rcases hy with rfl|rfl <;> simp at h1 <;> omega
theorem sameX_all {l:List Xp} (hl:l.length≤100000):SameX l:=by
 have key:∀ l:List Xp,∃ n,∀ x ∈ l,SizeOf.sizeOf x≤n:=by
  intro l
  induction l with
  | nil=>exact ⟨0,fun x h=>by cases h⟩
  | cons a r ih =>
   obtain ⟨n,hn⟩:=ih
   exact ⟨max n (SizeOf.sizeOf a),fun x hx=>by
    rcases List.mem_cons.1 hx with h|h
    ·rw [h]; omega
    ·have:=hn x h; omega⟩
 obtain ⟨n,hn⟩:=key l
 exact sameX n l hl hn
set_option maxHeartbeats 1000000 in
theorem sameN {l:Names} (hl:l.length≤100000) (st:St):ACalls Tryz.prog 35 [.view 1 (nrow l) .shared,.view 1 (nrow l) .shared] st (fun v st'=>v=.bool true∧st'=st) (fun _ _=>False):=by
 refine ACalls.ofBody Tryz.func35 rfl Tryz.ntmps35 rfl ?_
 have hnl:=nrow_len l
 refine goD ?_
 refine AWP.loop (α:=Nat) (fun i=>[(5,.int .i64 (i:Int)),(1,.view 1 (nrow l) .shared),(0,.view 1 (nrow l) .shared)]) (fun _=>st) (fun i=>i≤l.length) (fun i=>l.length - i) 0 (Nat.zero_le _) (tl3 rfl rfl rfl) (.refl _) ?_
 intro i hi
 refine AWP.weaken (T':=[(5,.int .i64 (i:Int)),(1,.view 1 (nrow l) .shared),(0,.view 1 (nrow l) .shared)]) (tl3 rfl rfl rfl) (.refl _) ?_
 by_cases hlt:i < l.length
 ·obtain ⟨s,hs⟩:∃ x,l[i]?=some x:=⟨_,List.getElem?_eq_getElem hlt⟩
  have hr:(nrow l)[i]?=some [.str s]:=by unfold nrow; rw [List.getElem?_map,hs]; rfl
  have hir:i < (nrow l).length:=by omega
  have kn:¬ (s≠s):=fun h=>h rfl
  refine goD ?_
  refine AWP.any rfl ?_
  apply AAny.segQ (k':=9) (hok:=by decide +kernel)
  repeat (first|apply dsY (hi:=rfl) (hs:=rfl)|apply dqY (hi:=rfl) (hd:=rfl) (hw:=rfl) (h:=fun _ _=>ZF (z:=nz))|apply dqY (hi:=rfl) (hd:=rfl) (hw:=rfl) (h:=fun _ _=>ZM (z:=nz)))
  refine dnQ ?_
  refine AAny.text rfl ?_
  refine nl ?_
  refine goD ?_
  exact ⟨i + 1,by omega,by omega,(tl3 rfl rfl rfl),.refl _⟩
 ·have hil:i=l.length:=by omega
  subst hil
  refine goD ?_
  refine AWP.exit (blk_hit ?_)
  refine goD ?_
  exact AWP.ret (rets rfl (.refl _) (.refl _) ⟨rfl,rfl⟩)
end Go.Proofs
