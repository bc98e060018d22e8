/- The program that prints an expression: its tokens, its parse. No program in sight. -/
import Derived.Test.YthjcphjabiajbaaDoorB4
namespace Go.Proofs
open Go.AM

def LexP (p:List UInt8) (T:List Tk):Prop:=∀ rest,NF rest→lex (p++rest) 1=(T++(lex rest 1).1,(lex rest 1).2)
theorem NFc {c:UInt8} (h:isNP c=false) (r:List UInt8):NF (c::r):=.inr ⟨c,r,rfl,h⟩
def tK (s:List UInt8):Tk:=⟨3,1,s,0⟩
theorem lex_kw {s rest:List UInt8} (hw:s ∈ words) (hr:NF rest):lex (s++rest) 1=(tK s::(lex rest 1).1,(lex rest 1).2):=by
 have hf:s≠[]∧s.length≤12∧(∀ c ∈ s,isNP c=true)∧(s.head?.map isLet).getD false=true:=by
  revert s
  decide
 obtain ⟨h0,h12,hnp,hlet⟩:=hf
 cases s with
 | nil=>exact absurd rfl h0
 | cons c r =>
  have hlet:isLet c=true:=by simpa using hlet
  refine lex_tok (by simp) (let_skip (hnp c (by simp))) ?_
  have ht:((c::r)++rest).takeWhile isNP=c::r:=tw_app hr hnp
  show (bif isLet c then _ else _)=_
  rw [hlet,cond_true]
  have e:(c::(r++rest)).takeWhile isNP=c::r:=ht
  show (if 12 < ((c::(r++rest)).takeWhile isNP).length then _ else _)=_
  rw [e,if_neg (by omega)]
  show Except.ok (({ kind:=if (c::(r++rest)).takeWhile isNP ∈ words then 3 else 1,line:=1,text:=(c::(r++rest)).takeWhile isNP,num:=0 }:Tk),((c::(r++rest)).takeWhile isNP).length)=_
  rw [e,if_pos hw]
  rfl
def solo:List UInt8:=[40,41,123,125,91,93,44,59,58,46,43,45,42,37,38,124,94]
theorem solo_facts:∀ c ∈ solo,c ∈ signs1∧(∀ d,[c,d] ∉ signs2)∧c≠10∧c≠32∧c≠9∧c≠13∧c≠47∧isLet c=false∧isDig c=false∧[c] ∉ signs2:=by
 intro c hc
 simp only [solo,List.mem_cons,List.not_mem_nil,or_false] at hc
 rcases hc with rfl|rfl|rfl|rfl|rfl|rfl|rfl|rfl|rfl|rfl|rfl|rfl|rfl|rfl|rfl|rfl|rfl <;> exact ⟨by decide,fun d=>by simp [signs2],by decide,by decide,by decide,by decide,by decide,by decide,by decide,by decide⟩
theorem lex_solo {c:UInt8} (hc:c ∈ solo) (rest:List UInt8):lex (c::rest) 1=(tS [c]::(lex rest 1).1,(lex rest 1).2):=by
 obtain ⟨f1,f2,f3,f4,f5,f6,f7,f8,f9,f10⟩:=solo_facts c hc
 have hs:sign (c::rest)=[c]:=by
  unfold sign
  have:(c::rest).take 2 ∉ signs2:=by
   cases rest with
   | nil=>exact f10
   | cons d r=>exact f2 d
  rw [if_neg this]
  simp only [if_pos f1]
 refine lex_tok (w:=[c]) (by simp) ?_ ?_
 ·show skip false (c::rest) 1=_
  rw [skip_cons,if_neg f3,cond_false,if_neg (by simp [f4,f5,f6]),if_neg (by simp [f7])]
  rfl
 ·show (bif isLet c then _ else bif isDig c then _ else if sign (c::rest)=[] then _ else Except.ok (({ kind:=4,line:=1,text:=sign (c::rest),num:=0 }:Tk),(sign (c::rest)).length))=_
  rw [hs,f8,f9]
  rfl
theorem lex_opn {op:Nat} (h6:6≤op) (h17:op≤17) {rest:List UInt8} (h61:rest.head?≠some 61) (h47:rest.head?≠some 47):lex (sgO op++rest) 1=(tS (sgO op)::(lex rest 1).1,(lex rest 1).2):=by
 have hlt:∀ c:UInt8,(c=60∨c=47)→sign (c::rest)=[c]:=by
  intro c hc
  unfold sign
  have:(c::rest).take 2 ∉ signs2:=by
   cases rest with
   | nil=>rcases hc with rfl|rfl <;> decide
   | cons d r =>
    have hd:d≠61:=fun e=>h61 (by rw [e]; rfl)
    rcases hc with rfl|rfl <;> simp [signs2,hd]
  rw [if_neg this]
  rcases hc with rfl|rfl <;> rfl
 have:op=6∨op=7∨op=8∨op=9∨op=10∨op=11∨op=12∨op=13∨op=14∨op=15∨op=16∨op=17:=by omega
 rcases this with rfl|rfl|rfl|rfl|rfl|rfl|rfl|rfl|rfl|rfl|rfl|rfl
 ·exact lex_solo (c:=43) (by decide) rest
 ·exact lex_solo (c:=45) (by decide) rest
 ·exact lex_solo (c:=42) (by decide) rest
 ·refine lex_tok (w:=[47]) (by decide) ?_ ?_
  ·show skip false (47::rest) 1=_
   rw [skip_cons,if_neg (by decide),cond_false,if_neg (by decide),if_neg (by rintro ⟨_,h⟩; exact h47 h)]
   rfl
  ·show (if sign (47::rest)=[] then Except.error 6 else Except.ok (({ kind:=4,line:=1,text:=sign (47::rest),num:=0 }:Tk),(sign (47::rest)).length))=_
   rw [hlt 47 (.inr rfl)]
   rfl
 ·exact lex_solo (c:=37) (by decide) rest
 ·exact lex_solo (c:=38) (by decide) rest
 ·exact lex_solo (c:=124) (by decide) rest
 ·exact lex_solo (c:=94) (by decide) rest
 ·refine lex_tok (w:=[60]) (by decide) rfl ?_
  show (if sign (60::rest)=[] then Except.error 6 else Except.ok (({ kind:=4,line:=1,text:=sign (60::rest),num:=0 }:Tk),(sign (60::rest)).length))=_
  rw [hlt 60 (.inl rfl)]
  rfl
 ·exact lex_tok (w:=[60,61]) (by decide) rfl rfl
 ·exact lex_tok (w:=[61,61]) (by decide) rfl rfl
 ·exact lex_tok (w:=[33,61]) (by decide) rfl rfl
def pPre:List UInt8:=[102,117,110,99,32,102,40,41,32,123,32,112,114,105,110,116,32]
def pText (s:List UInt8):List UInt8:=pPre++s++[59,32,125]
def hTk:List Tk:=[tK wFunc,tN [102],tS [40],tS [41],tS [123],tK wPrint]
def eTk:List Tk:=[tS [59],tS [125],⟨0,1,[],0⟩]
theorem lex_pText {s:List UInt8} {T:List Tk} (h:LexP s T):lex (pText s) 1=(hTk++T++[tS [59],tS [125]],1,0):=by
 have e:pText s=[102,117,110,99]++(32::([102]++(40::(41::(32::(123::(32::([112,114,105,110,116]++(32::(s++(59::(32::(125::[]))))))))))))):=by simp [pText,pPre]
 rw [e,lex_kw (by decide) (NFc (by decide) _),lex_blank,lex_name ⟨102,[],rfl,by decide,by decide,by decide,by decide⟩ (NFc (by decide) _),lex_solo (by decide),lex_solo (by decide),lex_blank,lex_solo (by decide),lex_blank,
  lex_kw (by decide) (NFc (by decide) _),lex_blank,h _ (NFc (by decide) _),lex_solo (by decide),lex_blank,lex_solo (by decide)]
 have e0:lex [] 1=([],1,0):=rfl
 rw [e0]
 simp [hTk,wFunc,wPrint]
theorem scan_pText {s:List UInt8} {T:List Tk} (h:LexP s T) (hl:s.length≤1000):scan (pText s)=(hTk++(T++eTk),0,0):=by
 have h1:(pText s).length=s.length + 20:=by simp [pText,pPre]
 have h2:=ink_le (pText s)
 rw [scan_lex _ (by omega) (by omega),lex_pText h]
 simp [fin,eTk]
def vProg (x:Xp):Prg:=([],[⟨1,[102],[],[.mk 9 1 [] [] 0 [] [] [x] [] []],1⟩])
theorem fprog_T {T:List Tk} {x:Xp} (hq:qe 1 0 (T++eTk)=.ok (x,eTk)):∃ r,fprog (hTk++(T++eTk))=.ok (vProg x,r):=by
 have hqx:=qx_qe.2 hq
 have hx:fstm (3 * (T.length + 3 + 2) - 1) 1 (tK wPrint::(T++eTk))=.ok (.mk 9 1 [] [] 0 [] [] [x] [] [],[tS [125],⟨0,1,[],0⟩]):=by
  obtain ⟨k,hk⟩:∃ k,3 * (T.length + 3 + 2) - 1=k + 1:=⟨3 * (T.length + 3 + 2) - 2,by omega⟩
  rw [hk,fstm,hd_cons,List.tail_cons,if_pos (by decide),if_neg (by decide),if_neg (by decide),if_neg (by decide),if_neg (by decide),if_neg (by decide),fsimple,hd_cons,List.tail_cons,if_neg (by decide),if_neg (by decide),if_pos (by decide),qb_ok hqx]
  rfl
 have hb:fblk (3 * (T.length + 3 + 2) + 1) 1 (tS [123]::tK wPrint::(T++eTk))=.ok ([.mk 9 1 [] [] 0 [] [] [x] [] []],[⟨0,1,[],0⟩]):=by
  rw [fblk,fneed,hd_cons,if_pos (by decide),qb_ok rfl,List.tail_cons]
  obtain ⟨k,hk⟩:∃ k,3 * (T.length + 3 + 2)=k + 2:=⟨3 * (T.length + 3 + 2) - 2,by omega⟩
  rw [show 3 * (T.length + 3 + 2) - 1=k + 1 by omega] at hx
  rw [hk,fsts,hd_cons,if_neg (by decide),qb_ok hx,fsts]
  rfl
 have hf:ffunc (hTk++(T++eTk))=.ok (⟨1,[102],[],[.mk 9 1 [] [] 0 [] [] [x] [] []],1⟩,[⟨0,1,[],0⟩]):=by
  have e:hTk++(T++eTk)=tK wFunc::tN [102]::tS [40]::tS [41]::tS [123]::tK wPrint::(T++eTk):=rfl
  have e3:(tS [123]::tK wPrint::(T++eTk)).length=T.length + 3 + 2:=by simp [eTk]
  rw [e,ffunc,List.tail_cons,fname,hd_cons,if_pos (by decide),qb_ok rfl,List.tail_cons,fneed,hd_cons,if_pos (by decide),qb_ok rfl,List.tail_cons,fpar,hd_cons,if_pos (by decide),qb_ok rfl,fneed,hd_cons,if_pos (by decide),qb_ok rfl,List.tail_cons,e3,qb_ok hb]
  have ea:ahead (tK wFunc::tN [102]::tS [40]::tS [41]::tS [123]::tK wPrint::(T++eTk)) [⟨0,1,[],0⟩]=tS [125]:=by
   unfold ahead
   have el:(tK wFunc::tN [102]::tS [40]::tS [41]::tS [123]::tK wPrint::(T++eTk)).length - [(⟨0,1,[],0⟩:Tk)].length - 1=(tK wFunc::tN [102]::tS [40]::tS [41]::tS [123]::tK wPrint::(T++[tS [59]])).length:=by simp [eTk]
   have ed:tK wFunc::tN [102]::tS [40]::tS [41]::tS [123]::tK wPrint::(T++eTk)=(tK wFunc::tN [102]::tS [40]::tS [41]::tS [123]::tK wPrint::(T++[tS [59]]))++[tS [125],⟨0,1,[],0⟩]:=by simp [eTk]
   rw [el,ed,List.drop_left]
   rfl
  rw [ea]
  rfl
 refine ⟨[⟨0,1,[],0⟩],?_⟩
 have hk:hd (hTk++(T++eTk))=tK wFunc:=rfl
 rw [fprog,frecs,hk,if_neg (by decide),qb_ok rfl]
 obtain ⟨k,hk2⟩:∃ k,(hTk++(T++eTk)).length + 1=k + 2:=⟨(hTk++(T++eTk)).length - 1,by simp [hTk]⟩
 rw [hk2,ffuns,hk,if_pos (by decide),qb_ok hf,ffuns]
 rfl
theorem pparse_T {s:List UInt8} {T:List Tk} {x:Xp} (h:LexP s T) (hl:s.length≤1000) (hq:qe 1 0 (T++eTk)=.ok (x,eTk)):pparse (pText s)=.ok (vProg x):=by
 obtain ⟨r,hr⟩:=fprog_T hq
 unfold pparse
 rw [scan_pText h hl]
 simp only
 rw [hr]
theorem pparse_E {s:List UInt8} {T:List Tk} {x:Xp} {t:Tk} {r:List Tk} (h:LexP s T) (hl:s.length≤1000) (hq:qe 1 0 (T++eTk)=.ok (x,t::r)) (ht:sg t [59]=false):∃ l,pparse (pText s)=.error (l,7):=by
 have hqx:=qx_qe.2 hq
 have hx:∀ k,fstm (k + 1) 1 (tK wPrint::(T++eTk))=.error (7,t::r):=by
  intro k
  rw [fstm,hd_cons,List.tail_cons,if_pos (by decide),if_neg (by decide),if_neg (by decide),if_neg (by decide),if_neg (by decide),if_neg (by decide),fsimple,hd_cons,List.tail_cons,if_neg (by decide),if_neg (by decide),if_pos (by decide),qb_ok hqx,qb_ok rfl,fneed,hd_cons,if_neg (by rw [ht]; decide)]
  rfl
 have hb:fblk (3 * (T.length + 3 + 2) + 1) 1 (tS [123]::tK wPrint::(T++eTk))=.error (7,t::r):=by
  rw [fblk,fneed,hd_cons,if_pos (by decide),qb_ok rfl,List.tail_cons]
  obtain ⟨k,hk⟩:∃ k,3 * (T.length + 3 + 2)=k + 2:=⟨3 * (T.length + 3 + 2) - 2,by omega⟩
  rw [hk,fsts,hd_cons,if_neg (by decide),qb_err (hx k)]
 have hf:ffunc (hTk++(T++eTk))=.error (7,t::r):=by
  have e:hTk++(T++eTk)=tK wFunc::tN [102]::tS [40]::tS [41]::tS [123]::tK wPrint::(T++eTk):=rfl
  have e3:(tS [123]::tK wPrint::(T++eTk)).length=T.length + 3 + 2:=by simp [eTk]
  rw [e,ffunc,List.tail_cons,fname,hd_cons,if_pos (by decide),qb_ok rfl,List.tail_cons,fneed,hd_cons,if_pos (by decide),qb_ok rfl,List.tail_cons,fpar,hd_cons,if_pos (by decide),qb_ok rfl,fneed,hd_cons,if_pos (by decide),qb_ok rfl,List.tail_cons,e3,qb_err hb]
 refine ⟨t.line,?_⟩
 unfold pparse
 rw [scan_pText h hl]
 simp only
 have hk:hd (hTk++(T++eTk))=tK wFunc:=rfl
 obtain ⟨k,hk2⟩:∃ k,(hTk++(T++eTk)).length + 1=k + 1:=⟨_,rfl⟩
 rw [fprog,frecs,hk,if_neg (by decide),qb_ok rfl,hk2,ffuns,hk,if_pos (by decide),qb_err hf,qb_err rfl]
 rfl
end Go.Proofs
namespace Go.Proofs
open Go.AM

def opdX:Nat→Xp
 | 0=>.var [97]
 | 1=>.lit 7
 | 2=>.fld [112] [120]
 | 3=>.elt [116] (.var [97])
 | 4=>.una 4 (.var [97])
 | 5=>.una 5 (.var [98])
 | 6=>.bin 6 (.var [97]) (.var [98])
 | _=>.elt [116] (.bin 14 (.var [97]) (.var [98]))
def opdT:Nat→List UInt8
 | 0=>[97]
 | 1=>[55]
 | 2=>[112,46,120]
 | 3=>[116,91,97,93]
 | 4=>[45,97]
 | 5=>[33,98]
 | 6=>[40,97,32,43,32,98,41]
 | _=>[116,91,97,32,60,32,98,93]
def opdK (k:Nat):List Tk:=par (decide (k=6)) (xtk (opdX k))
theorem opd_facts:∀ k,k < 8→opdT k=pby (decide (k=6)) (xby (opdX k))∧(opdT k).head?≠some 61∧(opdT k).head?≠some 47∧(opdT k).length≤8:=by
 intro k hk
 rcases (by omega:k=0∨k=1∨k=2∨k=3∨k=4∨k=5∨k=6∨k=7) with rfl|rfl|rfl|rfl|rfl|rfl|rfl|rfl <;> exact ⟨by decide,by decide,by decide,by decide⟩
theorem nm1 {c:UInt8} (h:isLet c=true) (hw:[c] ∉ words):Nm [c]:=⟨c,[],rfl,h,fun x hx=>by rw [List.mem_singleton.1 hx]; simp [isNP,h],by simp,hw⟩
theorem opd_wf:∀ k,k < 8→Wop (opdX k)∧WX Nm Nu (opdX k):=by
 intro k hk
 have a:=nm1 (c:=97) (by decide) (by decide)
 have b:=nm1 (c:=98) (by decide) (by decide)
 have p:=nm1 (c:=112) (by decide) (by decide)
 have t:=nm1 (c:=116) (by decide) (by decide)
 have x:=nm1 (c:=120) (by decide) (by decide)
 rcases (by omega:k=0∨k=1∨k=2∨k=3∨k=4∨k=5∨k=6∨k=7) with rfl|rfl|rfl|rfl|rfl|rfl|rfl|rfl
 ·exact ⟨trivial,a⟩
 ·exact ⟨trivial,show (7:Nat) < 10 ^ 18 by decide⟩
 ·exact ⟨trivial,p,x⟩
 ·exact ⟨trivial,t,a⟩
 ·exact ⟨⟨.inl rfl,trivial⟩,a⟩
 ·exact ⟨⟨.inr rfl,trivial⟩,b⟩
 ·exact ⟨⟨by decide,by decide,trivial,trivial⟩,a,b⟩
 ·exact ⟨⟨by decide,by decide,trivial,trivial⟩,t,a,b⟩
theorem opd_lex {k:Nat} (hk:k < 8):LexP (opdT k) (opdK k):=by
 intro rest hr
 obtain ⟨h1,_,_,_⟩:=opd_facts k hk
 obtain ⟨w1,w2⟩:=opd_wf k hk
 rw [h1]
 exact lex_par (lex_x _ w1 w2) _ rest hr
theorem opd_ok {k:Nat} (hk:k < 8):OpdT (opdK k) (opdX k) 2:=by
 have hw:=(opd_wf k hk).1
 rcases (by omega:k=0∨k=1∨k=2∨k=3∨k=4∨k=5∨k=6∨k=7) with rfl|rfl|rfl|rfl|rfl|rfl|rfl|rfl
 ·exact OpdT.of hw (by decide) (by decide)
 ·exact OpdT.of hw (by decide) (by decide)
 ·exact OpdT.of hw (by decide) (by decide)
 ·exact OpdT.of hw (by decide) (by decide)
 ·exact OpdT.of hw (by decide) (by decide)
 ·exact OpdT.of hw (by decide) (by decide)
 ·exact OpdT.par hw (by decide)
 ·exact OpdT.of hw (by decide) (by decide)
theorem opS_facts:∀ x,6≤x→x≤17→(∀ r,NF (sgO x++r))∧(sgO x).length≤2:=by
 intro x h6 h17
 rcases (by omega:x=6∨x=7∨x=8∨x=9∨x=10∨x=11∨x=12∨x=13∨x=14∨x=15∨x=16∨x=17) with rfl|rfl|rfl|rfl|rfl|rfl|rfl|rfl|rfl|rfl|rfl|rfl <;> exact ⟨fun r=>NFc (by decide) _,by decide⟩
theorem hd_app {p r:List UInt8} {c:UInt8} (h:p.head?≠some c) (h0:p≠[]):(p++r).head?≠some c:=by
 cases p with
 | nil=>exact absurd rfl h0
 | cons a p=>exact h
section
variable {a b c x y:Nat} (ha:a < 8) (hb:b < 8) (hc:c < 8) (h6:6≤x) (h17:x≤17) (k6:6≤y) (k17:y≤17)
def gotT (a b c x y:Nat):List UInt8:=opdT a++[32]++sgO x++[32]++opdT b++sgO y++opdT c
def leftT (a b c x y:Nat):List UInt8:=[40]++opdT a++[32]++sgO x++[32]++opdT b++[41,32]++sgO y++[32]++opdT c
def rightT (a b c x y:Nat):List UInt8:=opdT a++[32]++sgO x++[32,40]++opdT b++[32]++sgO y++[32]++opdT c++[41]
theorem opdT_ne (k:Nat):opdT k≠[]:=by
 unfold opdT
 split <;> simp
include ha hb hc h6 h17 k6 k17 in
theorem got_lex:LexP (gotT a b c x y) (opdK a++tS (sgO x)::(opdK b++tS (sgO y)::opdK c)):=by
 intro rest hr
 obtain ⟨_,f61,f47,_⟩:=opd_facts c hc
 have e:gotT a b c x y++rest=opdT a++(32::(sgO x++32::(opdT b++(sgO y++(opdT c++rest))))):=by simp [gotT]
 rw [e,opd_lex ha _ (NFc (by decide) _),lex_blank,lex_op h6 h17,opd_lex hb _ ((opS_facts y k6 k17).1 _),lex_opn k6 k17 (hd_app f61 (opdT_ne c)) (hd_app f47 (opdT_ne c)),opd_lex hc rest hr]
 simp
include ha hb hc h6 h17 k6 k17 in
theorem left_lex:LexP (leftT a b c x y) (par true (opdK a++tS (sgO x)::opdK b)++tS (sgO y)::opdK c):=by
 intro rest hr
 have e:leftT a b c x y++rest=40::(opdT a++(32::(sgO x++32::(opdT b++(41::(32::(sgO y++32::(opdT c++rest)))))))):=by simp [leftT]
 rw [e,lex_solo (by decide),opd_lex ha _ (NFc (by decide) _),lex_blank,lex_op h6 h17,opd_lex hb _ (NFc (by decide) _),lex_solo (by decide),lex_blank,lex_op k6 k17,opd_lex hc rest hr]
 simp [par]
include ha hb hc h6 h17 k6 k17 in
theorem right_lex:LexP (rightT a b c x y) (opdK a++tS (sgO x)::par true (opdK b++tS (sgO y)::opdK c)):=by
 intro rest hr
 have e:rightT a b c x y++rest=opdT a++(32::(sgO x++32::(40::(opdT b++(32::(sgO y++32::(opdT c++(41::rest)))))))):=by simp [rightT]
 rw [e,opd_lex ha _ (NFc (by decide) _),lex_blank,lex_op h6 h17,lex_solo (by decide),opd_lex hb _ (NFc (by decide) _),lex_blank,lex_op k6 k17,opd_lex hc _ (NFc (by decide) _),lex_solo (by decide)]
 simp [par]
theorem St0_e:St0 eTk:=⟨by decide,by decide⟩
theorem bin_e:(bin (hd eTk)).1=0:=by decide
theorem len_T (a b c x y:Nat) (ha:a < 8) (hb:b < 8) (hc:c < 8) (h6:6≤x) (h17:x≤17) (k6:6≤y) (k17:y≤17):(gotT a b c x y).length≤100∧(leftT a b c x y).length≤100∧(rightT a b c x y).length≤100:=by
 have l1:=(opd_facts a ha).2.2.2
 have l2:=(opd_facts b hb).2.2.2
 have l3:=(opd_facts c hc).2.2.2
 have l4:=(opS_facts x h6 h17).2
 have l5:=(opS_facts y k6 k17).2
 simp only [gotT,leftT,rightT,List.length_append,List.length_cons,List.length_nil]
 omega
include ha hb hc h6 h17 k6 k17 in
theorem levels:(lvO x=1∧lvO y=1→∃ l,pparse (pText (gotT a b c x y))=.error (l,7))∧(¬ (lvO x=1∧lvO y=1)→pparse (pText (gotT a b c x y))=.ok (vProg (lev2 x y (opdX a) (opdX b) (opdX c)))) ∧
  pparse (pText (leftT a b c x y))=.ok (vProg (.bin y (.bin x (opdX a) (opdX b)) (opdX c)))∧pparse (pText (rightT a b c x y))=.ok (vProg (.bin x (opdX a) (.bin y (opdX b) (opdX c)))):=by
 obtain ⟨n1,n2,n3⟩:=len_T a b c x y ha hb hc h6 h17 k6 k17
 have ga:=opd_ok ha
 have gb:=opd_ok hb
 have gc:=opd_ok hc
 have ga3:OpdT (opdK a) (opdX a) 3:=⟨fun d r h hs=>ga.c d r (by omega) hs⟩
 have gc3:OpdT (opdK c) (opdX c) 3:=⟨fun d r h hs=>gc.c d r (by omega) hs⟩
 have h3:=three (d:=0) (rest:=eTk) ga gb gc h6 h17 k6 k17 (by omega) bin_e St0_e
 have eg:opdK a++tS (sgO x)::(opdK b++tS (sgO y)::opdK c)++eTk=opdK a++tS (sgO x)::(opdK b++tS (sgO y)::(opdK c++eTk)):=by simp
 have gl:=got_lex ha hb hc h6 h17 k6 k17
 refine ⟨fun h11=>?_,fun h11=>?_,?_,?_⟩
 ·rw [if_pos h11,← eg] at h3
  refine pparse_E gl (by omega) h3 ?_
  rcases (by omega:y=6∨y=7∨y=8∨y=9∨y=10∨y=11∨y=12∨y=13∨y=14∨y=15∨y=16∨y=17) with rfl|rfl|rfl|rfl|rfl|rfl|rfl|rfl|rfl|rfl|rfl|rfl <;> decide
 ·rw [if_neg h11,← eg] at h3
  exact pparse_T gl (by omega) h3
 ·refine pparse_T (left_lex ha hb hc h6 h17 k6 k17) (by omega) ?_
  have:=bin1 (d:=0) (rest:=eTk) (ga.bin2 gb h6 h17) gc3 k6 k17 (by omega) bin_e St0_e
  simpa using this
 ·refine pparse_T (right_lex ha hb hc h6 h17 k6 k17) (by omega) ?_
  have:=bin1 (d:=0) (rest:=eTk) ga3 (gb.bin2 gc k6 k17) h6 h17 (by omega) bin_e St0_e
  simpa using this
def parA (a b x:Nat):List UInt8:=opdT a++sgO x++opdT b
def parB (a b x:Nat):List UInt8:=[40,40]++opdT a++[41]++sgO x++[40]++opdT b++[41,41]
include ha hb h6 h17 in
theorem parens:pparse (pText (parA a b x))=.ok (vProg (.bin x (opdX a) (opdX b)))∧pparse (pText (parB a b x))=.ok (vProg (.bin x (opdX a) (opdX b))):=by
 have l1:=(opd_facts a ha).2.2.2
 have l2:=(opd_facts b hb).2.2.2
 have l4:=(opS_facts x h6 h17).2
 have ga:=opd_ok ha
 have gb:=opd_ok hb
 obtain ⟨_,f61,f47,_⟩:=opd_facts b hb
 constructor
 ·refine pparse_T (T:=opdK a++tS (sgO x)::opdK b) (fun rest hr=>?_) (by simp only [parA,List.length_append]; omega) ?_
  ·have e:parA a b x++rest=opdT a++(sgO x++(opdT b++rest)):=by simp [parA]
   rw [e,opd_lex ha _ ((opS_facts x h6 h17).1 _),lex_opn h6 h17 (hd_app f61 (opdT_ne b)) (hd_app f47 (opdT_ne b)),opd_lex hb rest hr]
   simp
  ·have:=bin1 (d:=0) (rest:=eTk) ga gb h6 h17 (by omega) bin_e St0_e
   simpa using this
 ·refine pparse_T (T:=par true (par true (opdK a)++tS (sgO x)::par true (opdK b))) (fun rest hr=>?_) (by simp only [parB,List.length_append,List.length_cons,List.length_nil]; omega) ?_
  ·have e:parB a b x++rest=40::(40::(opdT a++(41::(sgO x++(40::(opdT b++(41::(41::rest)))))))):=by simp [parB]
   rw [e,lex_solo (by decide),lex_solo (by decide),opd_lex ha _ (NFc (by decide) _),lex_solo (by decide),lex_opn h6 h17 (by simp) (by simp),lex_solo (by decide),opd_lex hb _ (NFc (by decide) _),lex_solo (by decide),lex_solo (by decide)]
   simp [par]
  ·exact (ga.par1.bin2 gb.par1 h6 h17).at (d:=0) (by omega) (by omega) (by omega) (by rw [bin_e]; omega) St0_e
end
end Go.Proofs
namespace Go.Proofs
open Go.AM
attribute [local irreducible] AWP AOps ACalls AAny

def vPre:List UInt8:=[102,117,110,99,32,102,40,41,32,123,32,112,114,105,110,116,32]
def vText (s:List UInt8):List UInt8:=vPre++s++[59,32,125]
def valV:Except (Nat × Nat) Prg→AV
 | .ok p=>.tuple [.agg (pgRow p),.int .i64 0]
 | .error (_,e)=>.tuple [.agg [nilV,nilV],.int .i64 (e:Int)]
theorem pgRow_or (r:Except (Nat × Nat) Prg):∃ (a b:List (List AV)) (ta tb:Go.AM.Tok) (sa sb:Nat) (l e:Nat),parV r=.tuple [.agg [.view sa a ta,.view sb b tb],.int .i64 (l:Int),.int .i64 (e:Int)]∧valV r=.tuple [.agg [.view sa a ta,.view sb b tb],.int .i64 (e:Int)]:=by
 rcases r with ⟨l,e⟩|⟨R,F⟩
 ·exact ⟨[],[],.nil,.nil,0,0,l,e,rfl,rfl⟩
 ·exact ⟨R.map recRow,F.map fnRow,.shared,.shared,2,4,0,0,rfl,rfl⟩
theorem value_ok (s:List UInt8) (hs:s.length≤1000000) (st:St) (hT:LTp st):ACalls Tryd.prog 11 [.str s] st (fun v st'=>v=valV (pparse (vText s))∧st'=st) (fun _ _=>False):=by
 refine ACalls.ofBody Tryd.func11 rfl Tryd.ntmps11 rfl ?_
 obtain ⟨a,b,ta,tb,sa,sb,l,e,h1,h2⟩:=pgRow_or (pparse (vText s))
 rw [h2]
 refine goC ?_
 refine rg ?_
 refine al rfl rfl fun o ho=>?_
 have hp:=(hT.set o (.cells 25 2 [zrow (.agg #[.slice none 0 0,.slice none 0 0])])).parse (vText s)
 rw [h1] at hp
 refine goD ?_
 refine sad rfl rfl rfl (by simp only [List.length_cons,List.length_nil]; omega) ?_
 refine sad rfl rfl rfl (by simp only [List.length_append,List.length_cons,List.length_nil]; omega) ?_
 refine cle rfl rfl hp ?_
 refine goD ?_
 refine soV rfl rfl rfl rfl rfl rfl ?_
 refine goD ?_
 exact AWP.ret (rets (resCW rfl (St.obj_set _ _ _) rfl rfl rfl rfl) (.refl _) (StLe.new ho (.refl _)) ⟨rfl,rfl⟩)
end Go.Proofs
namespace Go.Proofs
open Go.AM

theorem tmod_gt (n k:Int) (hk:0 < k):-k < n.tmod k:=by
 have:=Int.tmod_lt_of_pos (-n) hk
 rw [Int.neg_tmod] at this
 omega

theorem mod_rem (n k:Int) (hk:0 < k):n % k=if n.tmod k < 0 then n.tmod k + k else n.tmod k:=by
 have h1:n % k=n.tmod k % k:=by
  conv=>lhs; rw [← Int.tmod_add_mul_tdiv n k]
  rw [Int.add_mul_emod_self_left]
 have h2:=Int.tmod_lt_of_pos n hk
 have h3:=tmod_gt n k hk
 rw [h1]
 split
 ·rw [← Int.add_emod_right,Int.emod_eq_of_lt (by omega) (by omega)]
 ·exact Int.emod_eq_of_lt (by omega) (by omega)

theorem mod_ok (n k:Int) (hk:0 < k) (hk2:k≤4611686018427387904) (st:St):ACalls Tryd.prog 13 [.int .i64 n,.int .i64 k] st (fun v st'=>v=.int .i64 (n % k)∧st'=st) (fun _ _=>False):=by
 refine ACalls.ofBody Tryd.func13 rfl Tryd.ntmps13 rfl ?_
 have hm:=mod_rem n k hk
 repeat (first|refine nl ?_|refine AWP.seq ?_|refine rg ?_|refine sm rfl ?_)
 refine rm rfl rfl rfl (by omega) ?_
 repeat (first|refine nl ?_|refine AWP.seq ?_|refine rg ?_|refine sm rfl ?_)
 refine AWP.cond_dec rfl (fun h=>?_) (fun h=>AWP.skip ?_)
 ·rw [if_pos h] at hm
  have h3:=tmod_gt n k hk
  have h4:=Int.tmod_lt_of_pos n hk
  repeat (first|refine rg ?_|refine sm rfl ?_)
  refine ad rfl rfl rfl (by omega) ?_
  repeat (first|refine nl ?_|refine AWP.seq ?_|refine rg ?_|refine sm rfl ?_)
  refine AWP.ret (rets rfl (.refl _) (.refl _) ⟨?_,rfl⟩)
  rw [hm]
  rfl
 ·rw [if_neg h] at hm
  repeat (first|refine nl ?_|refine AWP.seq ?_|refine rg ?_|refine sm rfl ?_)
  refine AWP.ret (rets rfl (.refl _) (.refl _) ⟨?_,rfl⟩)
  rw [hm]
  rfl
end Go.Proofs
namespace Go.Proofs
open Go.AM
attribute [local irreducible] AWP AOps ACalls AAny

theorem lopd_ok (n:Int) (k:Nat) (hk:n % 8=(k:Int)) (h8:k < 8) (st:St):ACalls Tryd.prog 10 [.int .i64 n] st (fun v st'=>v=.str (opdT k)∧st'=st) (fun _ _=>False):=by
 refine ACalls.ofBody Tryd.func10 rfl Tryd.ntmps10 rfl ?_
 have hrow:(chunk (0 + 1) 8 [AV.str [97],.str [55],.str [112,46,120],.str [116,91,97,93],.str [45,97],.str [33,98],.str [40,97,32,43,32,98,41],.str [116,91,97,32,60,32,98,93]])[k]?=some [.str (opdT k)]:=by
  rcases (by omega:k=0∨k=1∨k=2∨k=3∨k=4∨k=5∨k=6∨k=7) with rfl|rfl|rfl|rfl|rfl|rfl|rfl|rfl <;> rfl
 refine goC ?_
 refine rg ?_
 refine goE ?_
 refine nl ?_
 refine goC ?_
 refine rg ?_
 refine bsh (cs:=[AV.str [97],.str [55],.str [112,46,120],.str [116,91,97,93],.str [45,97],.str [33,98],.str [40,97,32,43,32,98,41],.str [116,91,97,32,60,32,98,93]]) rfl rfl rfl rfl rfl ?_
 refine goE ?_
 refine cle rfl rfl (mod_ok n 8 (by decide) (by decide) _) ?_
 rw [hk]
 refine ix (m:=k) rfl rfl rfl rfl h8 ?_
 refine le rfl rfl hrow rfl ?_
 refine goD ?_
 exact AWP.ret (rets rfl (.refl _) (.refl _) ⟨rfl,rfl⟩)
theorem lopr_ok (n:Int) (k:Nat) (hk:n % 12=(k:Int)) (h8:k < 12) (st:St):ACalls Tryd.prog 9 [.int .i64 n] st (fun v st'=>v=.tuple [.str (sgO (6 + k)),.int .i64 (lvO (6 + k):Int)]∧st'=st) (fun _ _=>False):=by
 refine ACalls.ofBody Tryd.func9 rfl Tryd.ntmps9 rfl ?_
 have hrow:(chunk (0 + 1) 12 [AV.str [43],.str [45],.str [42],.str [47],.str [37],.str [38],.str [124],.str [94],.str [60],.str [60,61],.str [61,61],.str [33,61]])[k]?=some [.str (sgO (6 + k))]:=by
  rcases (by omega:k=0∨k=1∨k=2∨k=3∨k=4∨k=5∨k=6∨k=7∨k=8∨k=9∨k=10∨k=11) with rfl|rfl|rfl|rfl|rfl|rfl|rfl|rfl|rfl|rfl|rfl|rfl <;> rfl
 have hrow2:(chunk (0 + 1) 12 [AV.int .i64 3,.int .i64 3,.int .i64 4,.int .i64 4,.int .i64 4,.int .i64 2,.int .i64 2,.int .i64 2,.int .i64 1,.int .i64 1,.int .i64 1,.int .i64 1])[k]?=some [.int .i64 (lvO (6 + k):Int)]:=by
  rcases (by omega:k=0∨k=1∨k=2∨k=3∨k=4∨k=5∨k=6∨k=7∨k=8∨k=9∨k=10∨k=11) with rfl|rfl|rfl|rfl|rfl|rfl|rfl|rfl|rfl|rfl|rfl|rfl <;> rfl
 have hl1:k < (chunk (0 + 1) 12 [AV.str [43],.str [45],.str [42],.str [47],.str [37],.str [38],.str [124],.str [94],.str [60],.str [60,61],.str [61,61],.str [33,61]]).length:=h8
 have hl2:k < (chunk (0 + 1) 12 [AV.int .i64 3,.int .i64 3,.int .i64 4,.int .i64 4,.int .i64 4,.int .i64 2,.int .i64 2,.int .i64 2,.int .i64 1,.int .i64 1,.int .i64 1,.int .i64 1]).length:=h8
 refine goD ?_
 refine cle rfl rfl (mod_ok n 12 (by decide) (by decide) _) ?_
 rw [hk]
 refine goD ?_
 refine AWP.draw rfl 10 10 (fun _ _=>False) rfl ?_
 refine dp (h:=fun _ _=>bsh (cs:=[AV.str [43],.str [45],.str [42],.str [47],.str [37],.str [38],.str [124],.str [94],.str [60],.str [60,61],.str [61,61],.str [33,61]]) rfl rfl rfl rfl rfl nz) (z:=?_)
 repeat (first|refine ds rfl rfl ?_|refine dq rfl rfl rfl (fun st1 hle=>le rfl rfl (by assumption) rfl (nl ⟨_,rfl,rfl,rfl⟩)) ?_|refine dq rfl rfl rfl (fun st1 hle=>ix rfl rfl rfl rfl (by assumption) (nl ⟨_,rfl,rfl,rfl⟩)) ?_)
 refine dp (h:=fun _ _=>bsh (cs:=[AV.int .i64 3,.int .i64 3,.int .i64 4,.int .i64 4,.int .i64 4,.int .i64 2,.int .i64 2,.int .i64 2,.int .i64 1,.int .i64 1,.int .i64 1,.int .i64 1]) rfl rfl rfl rfl rfl nz) (z:=?_)
 repeat (first|refine ds rfl rfl ?_|refine dq rfl rfl rfl (fun st1 hle=>le rfl rfl (by assumption) rfl (nl ⟨_,rfl,rfl,rfl⟩)) ?_|refine dq rfl rfl rfl (fun st1 hle=>ix rfl rfl rfl rfl (by assumption) (nl ⟨_,rfl,rfl,rfl⟩)) ?_)
 refine dn ⟨fun _=>?_,fun h=>absurd h (by decide)⟩
 refine goD ?_
 exact AWP.ret (rets rfl (.refl _) (.refl _) ⟨rfl,rfl⟩)
end Go.Proofs
namespace Go.Proofs
open Go.AM
attribute [local irreducible] AWP AOps ACalls AAny

def SameX (l:List Xp):Prop:=∀ st,ACalls Tryd.prog 36 [.view 6 (xrows l) .shared,.view 6 (xrows l) .shared] st (fun v st'=>v=.bool true∧st'=st) (fun _ _=>False)
def argsX:Xp→List Xp
 | .elt _ a=>[a]
 | .una _ a=>[a]
 | .bin _ a b=>[a,b]
 | _=>[]
theorem xrow_args (x:Xp):∃ (op num:Int) (name field:List UInt8),xrow x=exRow op num name field (.view 6 (xrows (argsX x)) .shared):=by
 cases x <;> exact ⟨_,_,_,_,rfl⟩
set_option maxHeartbeats 2000000 in
theorem sameX_of {l:List Xp} (hl:l.length≤100000) (h:∀ x ∈ l,SameX (argsX x)):SameX l:=by
 intro st
 refine ACalls.ofBody Tryd.func36 rfl Tryd.ntmps36 rfl ?_
 have hnl:=xrows_len l
 refine goD ?_
 refine AWP.loop (α:=Nat) (fun i=>[(5,.int .i64 (i:Int)),(1,.view 6 (xrows l) .shared),(0,.view 6 (xrows l) .shared)]) (fun _=>st) (fun i=>i≤l.length) (fun i=>l.length - i) 0 (Nat.zero_le _) (tl3 rfl rfl rfl) (.refl _) ?_
 intro i hi
 refine AWP.weaken (T':=[(5,.int .i64 (i:Int)),(1,.view 6 (xrows l) .shared),(0,.view 6 (xrows l) .shared)]) (tl3 rfl rfl rfl) (.refl _) ?_
 by_cases hlt:i < l.length
 ·obtain ⟨x,hs⟩:∃ x,l[i]?=some x:=⟨_,List.getElem?_eq_getElem hlt⟩
  have hx:=h x (List.mem_of_getElem? hs)
  obtain ⟨op,num,name,field,hxr⟩:=xrow_args x
  generalize hargs:xrows (argsX x)=args at hxr
  unfold SameX at hx
  rw [hargs] at hx
  have hr:(xrows l)[i]?=some (exRow op num name field (.view 6 args .shared)):=by unfold xrows; rw [List.getElem?_map,hs,← hxr]; rfl
  have hir:i < (xrows l).length:=by omega
  refine goD ?_
  refine AWP.any rfl ?_
  apply AAny.segX (X:=fun _ _=>False) (hX:=fun _ _ h=>h.elim) (k':=12) (Es:=[8,9,10,11]) (J:=Al2J st 37 6 (exRow 0 0 [] [] nilV) (exRow op num name field (.view 6 args .shared)) (exRow op num name field (.view 6 args .shared))) (base:=st) (hok:=by decide +kernel) (hJ:=rfl) (hb:=.refl _)
  repeat (first|apply dsP (hi:=rfl) (hs:=rfl)|apply dqP (hi:=rfl) (hd:=rfl) (hw:=rfl) (h:=fun _ _=>ZD (z:=nz))|apply dqP (hi:=rfl) (hd:=rfl) (hw:=rfl) (h:=fun _ _=>ZM (z:=nz)))
  apply deP0 (Q:=fun v=>∃ o,v=.cptr o 6 0 0) (L:=[[false,false,false,false],[false,true,false,false]]) (hL:=rfl) (hd:=rfl) (hw:=rfl) (hex:=⟨_,0,rfl⟩) (h:=by
   refine ⟨?_,?_,trivial⟩
   ·intro vs hvs _ s hJ _
    match vs,hvs,hJ with
    | [none,none,none,none],_,hJ =>
     have hJ:s=st:=hJ
     subst hJ
     exact al rfl rfl fun o ho=>nl ⟨_,rfl,⟨o,rfl⟩,⟨o,rfl,ho,rfl⟩,StLe.new ho (.refl _)⟩
   ·intro vs hvs _ s hJ _
    match vs,hvs,hJ with
    | [none,some w,none,none],_,hJ =>
     obtain ⟨p,hp1,hp2,rfl⟩:=hJ
     exact al rfl rfl fun o ho=>nl ⟨_,rfl,⟨o,rfl⟩,⟨o,p,rfl,hp1,(new_ne ho).2,hp2,(new_ne ho).1.symm,set_swap _ _ (new_ne ho).1⟩,StLe.new ho (StLe.new hp2 (.refl _))⟩)
  rintro v ⟨oA,rfl⟩
  apply deP0 (Q:=fun v=>∃ o,v=.cptr o 6 0 0) (L:=[[false,false,false,false],[true,false,false,false]]) (hL:=rfl) (hd:=rfl) (hw:=rfl) (hex:=⟨_,0,rfl⟩) (h:=by
   refine ⟨?_,?_,trivial⟩
   ·intro vs hvs _ s hJ _
    match vs,hvs,hJ with
    | [none,none,none,none],_,hJ =>
     have hJ:s=st:=hJ
     subst hJ
     exact al rfl rfl fun o ho=>nl ⟨_,rfl,⟨o,rfl⟩,⟨o,rfl,ho,rfl⟩,StLe.new ho (.refl _)⟩
   ·intro vs hvs _ s hJ _
    match vs,hvs,hJ with
    | [some v,none,none,none],_,hJ =>
     obtain ⟨p,hp1,hp2,rfl⟩:=hJ
     exact al rfl rfl fun o ho=>nl ⟨_,rfl,⟨o,rfl⟩,⟨p,o,hp1,rfl,hp2,(new_ne ho).2,(new_ne ho).1,rfl⟩,StLe.new ho (StLe.new hp2 (.refl _))⟩)
  rintro v ⟨oB,rfl⟩
  apply dnWP (L:=[[true,true,false,false]]) (hL:=rfl) (hd:=rfl) (hw:=rfl) (h:=by
   refine ⟨?_,trivial⟩
   ·intro vs hvs hlk s hJ hle
    match vs,hvs,hlk,hJ with
    | [some v,some w,none,none],_,hlk,hJ =>
     obtain rfl:v=.cptr oA 6 0 0:=hlk (8,some v) (by simp) (by exact Nat.le_of_ble_eq_true rfl) v rfl
     obtain ⟨o,p,ho1,hp1,ho2,hp2,hne,rfl⟩:=hJ
     cases ho1
     exact soU rfl hne.symm rfl rfl rfl rfl rfl (nl ⟨rfl,fun _=>⟨oA,p,rfl,hp1,ho2,hp2,hne,rfl⟩,StLe.new2 ho2 hp2 hne⟩))
  intro _
  apply dnWP (L:=[[true,true,true,false]]) (hL:=rfl) (hd:=rfl) (hw:=rfl) (h:=by
   refine ⟨?_,trivial⟩
   ·intro vs hvs hlk s hJ hle
    match vs,hvs,hlk,hJ with
    | [some v,some w,some _,none],_,hlk,hJ =>
     obtain rfl:v=.cptr oA 6 0 0:=hlk (8,some v) (by simp) (by exact Nat.le_of_ble_eq_true rfl) v rfl
     obtain rfl:w=.cptr oB 6 0 0:=hlk (9,some w) (by simp) (by exact Nat.le_of_ble_eq_true rfl) w rfl
     obtain ⟨o,p,ho1,hp1,ho2,hp2,hne,rfl⟩:=hJ
     cases ho1
     cases hp1
     exact soV rfl rfl rfl rfl rfl rfl (nl ⟨rfl,fun _=>⟨oA,oB,rfl,rfl,ho2,hp2,hne,rfl⟩,StLe.new2 ho2 hp2 hne⟩))
  intro _
  refine dnP fun s hs=>?_
  obtain ⟨o,p,ho1,hp1,ho2,hp2,hne,rfl⟩:=hs
  cases ho1
  cases hp1
  refine AAny.text rfl ?_
  refine nl ?_
  have hA:((st.set oA (.cells 37 6 [(exRow op num name field (.view 6 args .shared))])).set oB (.cells 37 6 [(exRow op num name field (.view 6 args .shared))])).obj oA=some (.cells 37 6 [(exRow op num name field (.view 6 args .shared))]):=by rw [St.obj_set_ne hne]; exact St.obj_set _ _ _
  have hB:((st.set oA (.cells 37 6 [(exRow op num name field (.view 6 args .shared))])).set oB (.cells 37 6 [(exRow op num name field (.view 6 args .shared))])).obj oB=some (.cells 37 6 [(exRow op num name field (.view 6 args .shared))]):=St.obj_set _ _ _
  have kn:¬ (name≠name):=fun h=>h rfl
  have kf:¬ (field≠field):=fun h=>h rfl
  refine goD ?_
  refine cle rfl rfl (hx _) ?_
  refine goD ?_
  exact ⟨i + 1,by omega,by omega,(tl3 rfl rfl rfl),StLe.new2 ho2 hp2 hne⟩
 ·have hil:i=l.length:=by omega
  subst hil
  refine goD ?_
  refine AWP.exit (blk_hit ?_)
  refine goD ?_
  exact AWP.ret (rets rfl (.refl _) (.refl _) ⟨rfl,rfl⟩)
theorem sameX:∀ (n:Nat) (l:List Xp),l.length≤100000→(∀ x ∈ l,SizeOf.sizeOf x≤n)→SameX l
 | 0,l,hl,h=>by
  cases l with
  | nil=>exact sameX_of (by decide) (fun x hx=>by cases hx)
  | cons a r=>have:=h a (by simp); cases a <;> simp at this
 | n + 1,l,hl,h=>sameX_of hl fun x hx=>sameX n (argsX x) (by cases x <;> simp [argsX]) fun y hy=>by
  have h1:=h x hx
  cases x with
  | lit n=>cases hy
  | var s=>cases hy
  | fld s f=>cases hy
  | elt s a=>simp only [argsX,List.mem_singleton] at hy; subst hy; simp at h1; omega
  | una op a=>simp only [argsX,List.mem_singleton] at hy; subst hy; simp at h1; omega
  | bin op a b =>
   simp only [argsX,List.mem_cons,List.not_mem_nil,or_false] at hy
   rcases hy with rfl|rfl <;> simp at h1 <;> omega
theorem sameX_all {l:List Xp} (hl:l.length≤100000):SameX l:=by
 have key:∀ l:List Xp,∃ n,∀ x ∈ l,SizeOf.sizeOf x≤n:=by
  intro l
  induction l with
  | nil=>exact ⟨0,fun x h=>by cases h⟩
  | cons a r ih =>
   obtain ⟨n,hn⟩:=ih
   exact ⟨max n (SizeOf.sizeOf a),fun x hx=>by
    rcases List.mem_cons.1 hx with h|h
    ·rw [h]; omega
    ·have:=hn x h; omega⟩
 obtain ⟨n,hn⟩:=key l
 exact sameX n l hl hn
set_option maxHeartbeats 1000000 in
theorem sameN {l:Names} (hl:l.length≤100000) (st:St):ACalls Tryd.prog 23 [.view 1 (nrow l) .shared,.view 1 (nrow l) .shared] st (fun v st'=>v=.bool true∧st'=st) (fun _ _=>False):=by
 refine ACalls.ofBody Tryd.func23 rfl Tryd.ntmps23 rfl ?_
 have hnl:=nrow_len l
 refine goD ?_
 refine AWP.loop (α:=Nat) (fun i=>[(5,.int .i64 (i:Int)),(1,.view 1 (nrow l) .shared),(0,.view 1 (nrow l) .shared)]) (fun _=>st) (fun i=>i≤l.length) (fun i=>l.length - i) 0 (Nat.zero_le _) (tl3 rfl rfl rfl) (.refl _) ?_
 intro i hi
 refine AWP.weaken (T':=[(5,.int .i64 (i:Int)),(1,.view 1 (nrow l) .shared),(0,.view 1 (nrow l) .shared)]) (tl3 rfl rfl rfl) (.refl _) ?_
 by_cases hlt:i < l.length
 ·obtain ⟨s,hs⟩:∃ x,l[i]?=some x:=⟨_,List.getElem?_eq_getElem hlt⟩
  have hr:(nrow l)[i]?=some [.str s]:=by unfold nrow; rw [List.getElem?_map,hs]; rfl
  have hir:i < (nrow l).length:=by omega
  have kn:¬ (s≠s):=fun h=>h rfl
  refine goD ?_
  refine AWP.any rfl ?_
  apply AAny.segQ (k':=9) (hok:=by decide +kernel)
  repeat (first|apply dsY (hi:=rfl) (hs:=rfl)|apply dqY (hi:=rfl) (hd:=rfl) (hw:=rfl) (h:=fun _ _=>ZF (z:=nz))|apply dqY (hi:=rfl) (hd:=rfl) (hw:=rfl) (h:=fun _ _=>ZM (z:=nz)))
  refine dnQ ?_
  refine AAny.text rfl ?_
  refine nl ?_
  refine goD ?_
  exact ⟨i + 1,by omega,by omega,(tl3 rfl rfl rfl),.refl _⟩
 ·have hil:i=l.length:=by omega
  subst hil
  refine goD ?_
  refine AWP.exit (blk_hit ?_)
  refine goD ?_
  exact AWP.ret (rets rfl (.refl _) (.refl _) ⟨rfl,rfl⟩)
end Go.Proofs
namespace Go.Proofs
open Go.AM

theorem qb_qb {α β γ:Type} (r:QR α) (f:α→List Tk→QR β) (g:β→List Tk→QR γ):qb (qb r f) g=qb r fun x t=>qb (f x t) g:=by
 cases r with
 | error e=>rfl
 | ok p=>rfl
theorem qb_ret {α β:Type} (x:α) (t:List Tk) (f:α→List Tk→QR β):qb (.ok (x,t)) f=f x t:=rfl
def fval (c:Bool) (ts:List Tk):QR (List UInt8 × List Xp):=if c && seesC ts then fcall ts else qb (qx ts) fun x r=>.ok (([],[x]),r)
def feff (ts:List Tk):QR Sm :=
 if seesC ts then qb (fcall ts) fun c r=>.ok (⟨3,[],c.1,c.2⟩,r)
 else qb (qt ts) fun y r=>qb (fneed [61] r) fun _ r2 =>
  if seesC r2 then qb (fcall r2) fun c r3=>.ok (⟨3,[y],c.1,c.2⟩,r3) else qb (qx r2) fun x r3=>.ok (⟨2,[y],[],[x]⟩,r3)
theorem fsimple_eq (ts:List Tk):fsimple ts=if kw (hd ts) wReturn then qb (fval true ts.tail) fun c r=>.ok (⟨6,[],c.1,c.2⟩,r)
  else if kw (hd ts) wThrow then qb (fval false ts.tail) fun c r=>.ok (⟨7,[],c.1,c.2⟩,r)
  else if kw (hd ts) wPrint then qb (fval false ts.tail) fun c r=>.ok (⟨9,[],c.1,c.2⟩,r) else feff ts:=by
 unfold fsimple feff fval
 rw [Bool.true_and,Bool.false_and]
 by_cases h1:kw (hd ts) wReturn=true
 ·rw [if_pos h1,if_pos h1]
  by_cases h2:seesC ts.tail=true
  ·rw [if_pos h2,if_pos h2]
  ·rw [if_neg h2,if_neg h2]
   simp only [qb_qb,qb_ret]
 ·rw [if_neg h1,if_neg h1,if_neg (by decide:¬ false=true)]
  simp only [qb_qb,qb_ret]
def fcatch (ts:List Tk):QR Unit:=if kw (hd ts) wCatch then .ok ((),ts.tail) else .error (7,ts)
theorem fstm_pos {k d:Nat} {ts:List Tk} (hb:begS (hd ts)=true) (h8:¬ 8 < d):fstm (k + 1) d ts =
  if kw (hd ts) wVar then qb (fdecl ts.tail) fun x r=>.ok (.mk 1 (hd ts).line x.1 x.2.1 x.2.2 [] [] [] [] [],r)
  else if kw (hd ts) wIf then qb (qx ts.tail) fun x r=>qb (fblk k (d + 1) r) fun b r2 =>
   if kw (hd r2) wElse then qb (fblk k (d + 1) r2.tail) fun e r3=>.ok (.mk 4 (hd ts).line [] [] 0 [] [] [x] b e,r3) else .ok (.mk 4 (hd ts).line [] [] 0 [] [] [x] b [],r2)
  else if kw (hd ts) wWhile then qb (qx ts.tail) fun x r=>qb (fblk k (d + 1) r) fun b r2=>.ok (.mk 5 (hd ts).line [] [] 0 [] [] [x] b [],r2)
  else if kw (hd ts) wTry then qb (fblk k (d + 1) ts.tail) fun b r=>qb (fcatch r) fun _ r1=>qb (fname r1) fun n r2=>qb (fblk k (d + 1) r2) fun e r3=>.ok (.mk 8 (hd ts).line n [] 0 [] [] [] b e,r3)
  else if kw (hd ts) wReturn then qb (fval true ts.tail) fun c r=>qb (fneed [59] r) fun _ r2=>.ok (.mk 6 (hd ts).line [] [] 0 [] c.1 c.2 [] [],r2)
  else if kw (hd ts) wThrow then qb (fval false ts.tail) fun c r=>qb (fneed [59] r) fun _ r2=>.ok (.mk 7 (hd ts).line [] [] 0 [] c.1 c.2 [] [],r2)
  else if kw (hd ts) wPrint then qb (fval false ts.tail) fun c r=>qb (fneed [59] r) fun _ r2=>.ok (.mk 9 (hd ts).line [] [] 0 [] c.1 c.2 [] [],r2)
  else qb (feff ts) fun m r=>qb (fneed [59] r) fun _ r2=>.ok (.mk m.kind (hd ts).line [] [] 0 m.target m.fn m.args [] [],r2):=by
 rw [fstm,if_pos hb,if_neg h8]
 by_cases c1:kw (hd ts) wVar=true
 ·rw [if_pos c1,if_pos c1]
 rw [if_neg c1,if_neg c1]
 by_cases c2:kw (hd ts) wIf=true
 ·rw [if_pos c2,if_pos c2]
 rw [if_neg c2,if_neg c2]
 by_cases c3:kw (hd ts) wWhile=true
 ·rw [if_pos c3,if_pos c3]
 rw [if_neg c3,if_neg c3]
 by_cases c4:kw (hd ts) wTry=true
 ·rw [if_pos c4,if_pos c4]
  congr 1
  funext b r
  unfold fcatch
  by_cases c:kw (hd r) wCatch=true
  ·rw [if_pos c,if_pos c,qb_ok rfl]
  ·rw [if_neg c,if_neg c]; rfl
 rw [if_neg c4,if_neg c4,fsimple_eq]
 by_cases c5:kw (hd ts) wReturn=true
 ·rw [if_pos c5,if_pos c5]
  simp only [qb_qb,qb_ret]
 rw [if_neg c5,if_neg c5]
 by_cases c6:kw (hd ts) wThrow=true
 ·rw [if_pos c6,if_pos c6]
  simp only [qb_qb,qb_ret]
 rw [if_neg c6,if_neg c6]
 by_cases c7:kw (hd ts) wPrint=true
 ·rw [if_pos c7,if_pos c7]
  simp only [qb_qb,qb_ret]
 rw [if_neg c7,if_neg c7]
end Go.Proofs
namespace Go.Proofs
open Go.AM

mutual
def LS:Sp→Prop
 | .mk _ _ _ _ _ tg _ ar bd el=>tg.length≤100000∧ar.length≤100000∧bd.length≤100000∧el.length≤100000∧LSs bd∧LSs el
def LSs:List Sp→Prop
 | []=>True
 | s::r=>LS s∧LSs r
end
theorem LSs_get:∀ (l:List Sp) (i:Nat) (s:Sp),LSs l→l[i]?=some s→LS s
 | [],i,s,_,h=>by simp at h
 | a::l,0,s,hw,h=>by rw [LSs] at hw; cases h; exact hw.1
 | a::l,i + 1,s,hw,h=>by rw [LSs] at hw; exact LSs_get l i s hw.2 (by simpa using h)
theorem LSs.app:∀ {l:List Sp} {s:Sp},LSs l→LS s→LSs (l++[s])
 | [],s,_,h=>by rw [List.nil_append,LSs,LSs]; exact ⟨h,trivial⟩
 | a::l,s,h1,h2=>by
  rw [LSs] at h1
  rw [List.cons_append,LSs]
  exact ⟨h1.1,LSs.app h1.2 h2⟩
theorem LSs_nil:LSs []:=by rw [LSs]; trivial
theorem LS_end (n:Nat):LS (endSp n):=by
 rw [endSp,LS]
 exact ⟨Nat.zero_le _,Nat.zero_le _,Nat.zero_le _,Nat.zero_le _,LSs_nil,LSs_nil⟩
structure LnP (p:Prg):Prop where
 rl:p.1.length≤100000
 fl:p.2.length≤100000
 r:∀ r ∈ p.1,r.fields.length≤100000
 f:∀ f ∈ p.2,f.params.length≤100000∧LSs f.body∧f.body.length < 100000
theorem sprow_at:∀ (l:List Sp) (i:Nat) (s:Sp),l[i]?=some s→(spRows l)[i]?=some (spRow s)
 | [],i,s,h=>by simp at h
 | a::l,0,s,h=>by rw [spRows]; cases h; rfl
 | a::l,i + 1,s,h=>by rw [spRows,List.getElem?_cons_succ]; exact sprow_at l i s (by simpa using h)
theorem recr_at (l:List Rec) (i:Nat) (r:Rec) (h:l[i]?=some r):(l.map recRow)[i]?=some [.str r.name,.view 1 (nrow r.fields) .shared]:=by rw [List.getElem?_map,h]; rfl
theorem fnr_at (l:List Fn) (i:Nat) (f:Fn) (h:l[i]?=some f):(l.map fnRow)[i]?=some [.str f.name,.int .i64 (f.line:Int),.view 1 (nrow f.params) .shared,.view 13 (spRows (f.body++[endSp f.stop])) .shared]:=by rw [List.getElem?_map,h]; rfl
theorem qbi {α β:Type} {r:QR α} {f:α→List Tk→QR β} {y:β} {t:List Tk} (h:qb r f=.ok (y,t)):∃ x r',r=.ok (x,r')∧f x r'=.ok (y,t):=by
 cases r with
 | error e=>cases h
 | ok p=>exact ⟨p.1,p.2,rfl,h⟩
theorem fargs_ln:∀ (k:Nat) (l:List Xp) (ts:List Tk) (m:List Xp) (r:List Tk),fargs k l ts=.ok (m,r)→m.length + r.length≤l.length + ts.length
 | 0,l,ts,m,r,h=>by rw [fargs] at h; cases h
 | k + 1,l,ts,m,r,h=>by
  rw [fargs] at h
  split at h
  ·obtain ⟨x,r1,h1,h⟩:=qbi h
   have h2:=qx_lt h1
   have h3:=tail_le ts
   have h4:=fargs_ln k _ r1 m r h
   rw [List.length_append,List.length_cons,List.length_nil] at h4
   omega
  ·cases h
   omega
theorem fcall_ln {ts r:List Tk} {c:List UInt8 × List Xp} (h:fcall ts=.ok (c,r)):c.2.length≤ts.length:=by
 unfold fcall at h
 obtain ⟨n,r1,h1,h⟩:=qbi h
 have l1:=fname_le ts _ _ h1
 obtain ⟨_,r2,h2,h⟩:=qbi h
 have l2:=fneed_le _ _ _ _ h2
 split at h
 ·cases h
  exact Nat.zero_le _
 ·obtain ⟨x,r3,h3,h⟩:=qbi h
  have l3:=qx_lt h3
  obtain ⟨l,r4,h4,h⟩:=qbi h
  have l4:=fargs_ln _ _ _ _ _ h4
  rw [List.length_cons,List.length_nil] at l4
  obtain ⟨_,r5,h5,h⟩:=qbi h
  cases h
  show l.length≤_
  omega
theorem fval_ln {b:Bool} {ts r:List Tk} {c:List UInt8 × List Xp} (h:fval b ts=.ok (c,r)) (hn:ts.length≤100000):c.2.length≤100000:=by
 unfold fval at h
 split at h
 ·exact Nat.le_trans (fcall_ln h) hn
 ·obtain ⟨x,r1,h1,h⟩:=qbi h
  cases h
  show 1≤_
  omega
theorem feff_ln {ts r:List Tk} {m:Sm} (h:feff ts=.ok (m,r)) (hn:ts.length≤100000):m.target.length≤100000∧m.args.length≤100000:=by
 unfold feff at h
 split at h
 ·obtain ⟨c,r1,h1,h⟩:=qbi h
  cases h
  exact ⟨Nat.zero_le _,Nat.le_trans (fcall_ln h1) hn⟩
 ·obtain ⟨y,r1,h1,h⟩:=qbi h
  have l1:=qt_le ts _ _ h1
  obtain ⟨_,r2,h2,h⟩:=qbi h
  have l2:=fneed_le _ _ _ _ h2
  split at h
  ·obtain ⟨c,r3,h3,h⟩:=qbi h
   cases h
   exact ⟨(by show 1≤_; omega),Nat.le_trans (fcall_ln h3) (by omega)⟩
  ·obtain ⟨x,r3,h3,h⟩:=qbi h
   cases h
   exact ⟨(by show 1≤_; omega),(by show 1≤_; omega)⟩
theorem ln_stm:∀ k:Nat,(∀ d ts s r,ts.length≤100000→fstm k d ts=.ok (s,r)→LS s∧(ts≠[]→r.length < ts.length))∧(∀ d ts l r,ts.length≤100000→fblk k d ts=.ok (l,r)→LSs l∧l.length + r.length≤ts.length) ∧
  (∀ d l0 ts l r,LSs l0→ts.length≤100000→fsts k d l0 ts=.ok (l,r)→LSs l∧l.length + r.length≤l0.length + ts.length)
 | 0=>⟨fun _ _ _ _ _ h=>(by rw [fstm] at h; cases h),fun _ _ _ _ _ h=>(by rw [fblk] at h; cases h),fun _ _ _ _ _ _ _ h=>(by rw [fsts] at h; cases h)⟩
 | k + 1=>by
  obtain ⟨i1,i2,i3⟩:=ln_stm k
  have one:(1:Nat)≤100000:=by decide
  have zero:(0:Nat)≤100000:=by decide
  refine ⟨fun d ts s r hn h=>⟨?_,fun h0=>?_⟩,fun d ts l r hn h=>?_,fun d l0 ts l r hl hn h=>?_⟩
  ·by_cases hb:begS (hd ts)=true
   rotate_left
   ·rw [fstm,if_neg hb] at h
    cases h
   by_cases h8:8 < d
   ·rw [fstm,if_pos hb,if_pos h8] at h
    cases h
   rw [fstm_pos hb h8] at h
   have t1:=tail_le ts
   split at h
   ·obtain ⟨x,r1,h1,h⟩:=qbi h
    cases h
    rw [LS]
    exact ⟨zero,zero,zero,zero,LSs_nil,LSs_nil⟩
   split at h
   ·obtain ⟨x,r1,h1,h⟩:=qbi h
    have l1:=qx_lt h1
    obtain ⟨b,r2,h2,h⟩:=qbi h
    have l2:=i2 _ _ _ _ (by omega) h2
    split at h
    ·obtain ⟨e,r3,h3,h⟩:=qbi h
     have t2:=tail_le r2
     have l3:=i2 _ _ _ _ (by omega) h3
     cases h
     rw [LS]
     exact ⟨zero,one,by omega,by omega,l2.1,l3.1⟩
    ·cases h
     rw [LS]
     exact ⟨zero,one,by omega,zero,l2.1,LSs_nil⟩
   split at h
   ·obtain ⟨x,r1,h1,h⟩:=qbi h
    have l1:=qx_lt h1
    obtain ⟨b,r2,h2,h⟩:=qbi h
    have l2:=i2 _ _ _ _ (by omega) h2
    cases h
    rw [LS]
    exact ⟨zero,one,by omega,zero,l2.1,LSs_nil⟩
   split at h
   ·obtain ⟨b,r1,h1,h⟩:=qbi h
    have l1:=i2 _ _ _ _ (by omega) h1
    obtain ⟨_,r2,h2,h⟩:=qbi h
    have l2:r2.length≤r1.length:=by
     unfold fcatch at h2
     split at h2
     ·cases h2
      exact tail_le r1
     ·cases h2
    obtain ⟨n,r3,h3,h⟩:=qbi h
    have l3:=fname_le _ _ _ h3
    obtain ⟨e,r4,h4,h⟩:=qbi h
    have l4:=i2 _ _ _ _ (by omega) h4
    cases h
    rw [LS]
    exact ⟨zero,zero,by omega,by omega,l1.1,l4.1⟩
   split at h
   ·obtain ⟨c,r1,h1,h⟩:=qbi h
    obtain ⟨_,r2,h2,h⟩:=qbi h
    cases h
    rw [LS]
    exact ⟨zero,fval_ln h1 (by omega),zero,zero,LSs_nil,LSs_nil⟩
   split at h
   ·obtain ⟨c,r1,h1,h⟩:=qbi h
    obtain ⟨_,r2,h2,h⟩:=qbi h
    cases h
    rw [LS]
    exact ⟨zero,fval_ln h1 (by omega),zero,zero,LSs_nil,LSs_nil⟩
   split at h
   ·obtain ⟨c,r1,h1,h⟩:=qbi h
    obtain ⟨_,r2,h2,h⟩:=qbi h
    cases h
    rw [LS]
    exact ⟨zero,fval_ln h1 (by omega),zero,zero,LSs_nil,LSs_nil⟩
   obtain ⟨m,r1,h1,h⟩:=qbi h
   obtain ⟨_,r2,h2,h⟩:=qbi h
   cases h
   rw [LS]
   obtain ⟨q1,q2⟩:=feff_ln h1 hn
   exact ⟨q1,q2,zero,zero,LSs_nil,LSs_nil⟩
  ·have:=(fstm_all (k + 1)).1 d ts s r h
   have:=List.length_pos_iff.2 h0
   omega
  ·rw [fblk] at h
   obtain ⟨_,r1,h1,h⟩:=qbi h
   have l1:=fneed_le _ _ _ _ h1
   obtain ⟨q1,q2⟩:=i3 d [] r1 l r LSs_nil (by omega) h
   rw [List.length_nil] at q2
   exact ⟨q1,by omega⟩
  ·rw [fsts] at h
   split at h
   ·cases h
    have:=tail_le ts
    exact ⟨hl,by omega⟩
   ·obtain ⟨s,r1,h1,h⟩:=qbi h
    obtain ⟨s1,s2⟩:=i1 d ts s r1 hn h1
    have h0:ts≠[]:=fun e=>by
     subst e
     cases k with
     | zero=>rw [fstm] at h1; cases h1
     | succ k=>rw [fstm,if_neg (by decide)] at h1; cases h1
    have s3:=s2 h0
    obtain ⟨q1,q2⟩:=i3 d (l0++[s]) r1 l r (hl.app s1) (by omega) h
    rw [List.length_append,List.length_cons,List.length_nil] at q2
    exact ⟨q1,by omega⟩
theorem fmore_ln:∀ (k:Nat) (l:Names) (ts:List Tk) (m:Names) (r:List Tk),fmore k l ts=.ok (m,r)→m.length + r.length≤l.length + ts.length
 | 0,l,ts,m,r,h=>by rw [fmore] at h; cases h
 | k + 1,l,ts,m,r,h=>by
  rw [fmore_eq] at h
  split at h
  ·rename_i hs
   obtain ⟨x,r1,h1,h⟩:=qbi h
   have h2:=fname_le _ _ _ h1
   have h3:ts.tail.length + 1≤ts.length:=by
    cases ts with
    | nil=>exact absurd hs (by decide)
    | cons a b=>exact Nat.le_refl _
   have h4:=fmore_ln k _ r1 m r h
   rw [List.length_append,List.length_cons,List.length_nil] at h4
   omega
  ·cases h
   omega
theorem fnames_ln {ts r:List Tk} {m:Names} (h:fnames ts=.ok (m,r)):m.length≤1 + ts.length:=by
 rw [fnames_eq] at h
 obtain ⟨n,r1,h1,h⟩:=qbi h
 have l1:=fname_le _ _ _ h1
 have l2:=fmore_ln _ _ _ _ _ h
 rw [List.length_cons,List.length_nil] at l2
 omega
theorem frecord_ln {ts r:List Tk} {x:Rec} (h:frecord ts=.ok (x,r)) (hn:ts.length≤90000):x.fields.length≤100000:=by
 unfold frecord at h
 obtain ⟨n,r1,h1,h⟩:=qbi h
 have l1:=fname_le _ _ _ h1
 obtain ⟨_,r2,h2,h⟩:=qbi h
 have l2:=fneed_le _ _ _ _ h2
 obtain ⟨l,r3,h3,h⟩:=qbi h
 have l3:=fnames_ln h3
 obtain ⟨_,r4,h4,h⟩:=qbi h
 cases h
 show l.length≤_
 omega
theorem ffunc_ln {ts r:List Tk} {x:Fn} (h:ffunc ts=.ok (x,r)) (hn:ts.length≤90000):x.params.length≤100000∧LSs x.body∧x.body.length < 100000:=by
 unfold ffunc at h
 have l0:=tail_le ts
 obtain ⟨n,r1,h1,h⟩:=qbi h
 have l1:=fname_le _ _ _ h1
 obtain ⟨_,r2,h2,h⟩:=qbi h
 have l2:=fneed_le _ _ _ _ h2
 obtain ⟨ps,r3,h3,h⟩:=qbi h
 have l3:=fpar_le _ _ _ h3
 have l4:ps.length≤1 + r2.length:=by
  unfold fpar at h3
  split at h3
  ·cases h3
   exact Nat.zero_le _
  ·exact fnames_ln h3
 obtain ⟨_,r4,h4,h⟩:=qbi h
 have l5:=fneed_le _ _ _ _ h4
 obtain ⟨b,r5,h5,h⟩:=qbi h
 have l6:=(ln_stm _).2.1 _ _ _ _ (by omega) h5
 cases h
 exact ⟨(by show ps.length≤_; omega),l6.1,(by show b.length < _; omega)⟩
theorem frecs_ln:∀ (k:Nat) (l:List Rec) (ts:List Tk) (m:List Rec) (r:List Tk),ts.length≤90000→(∀ x ∈ l,x.fields.length≤100000)→frecs k l ts=.ok (m,r)→(∀ x ∈ m,x.fields.length≤100000)∧m.length + r.length≤l.length + ts.length
 | 0,l,ts,m,r,_,_,h=>by rw [frecs] at h; cases h
 | k + 1,l,ts,m,r,hn,hl,h=>by
  rw [frecs] at h
  split at h
  ·rename_i hs
   obtain ⟨x,r1,h1,h⟩:=qbi h
   have h3:ts.tail.length + 1≤ts.length:=by
    cases ts with
    | nil=>exact absurd hs (by decide)
    | cons a b=>exact Nat.le_refl _
   have h2:=frecord_l1 _ _ _ h1
   obtain ⟨q1,q2⟩:=frecs_ln k (l++[x]) r1 m r (by omega) (fun z hz=>by
    rcases List.mem_append.1 hz with hz|hz
    ·exact hl z hz
    ·rw [List.mem_singleton.1 hz]; exact frecord_ln h1 (by omega)) h
   rw [List.length_append,List.length_cons,List.length_nil] at q2
   exact ⟨q1,by omega⟩
  ·cases h
   exact ⟨hl,Nat.le_refl _⟩
theorem ffuns_ln:∀ (k:Nat) (l:List Fn) (ts:List Tk) (m:List Fn) (r:List Tk),ts.length≤90000→(∀ x ∈ l,x.params.length≤100000∧LSs x.body∧x.body.length < 100000)→ffuns k l ts=.ok (m,r)→(∀ x ∈ m,x.params.length≤100000∧LSs x.body∧x.body.length < 100000)∧m.length + r.length≤l.length + ts.length
 | 0,l,ts,m,r,_,_,h=>by rw [ffuns] at h; cases h
 | k + 1,l,ts,m,r,hn,hl,h=>by
  rw [ffuns] at h
  split at h
  ·rename_i hs
   obtain ⟨x,r1,h1,h⟩:=qbi h
   have h3:1≤ts.length:=by
    cases ts with
    | nil=>exact absurd hs (by decide)
    | cons a b=>exact Nat.succ_pos _
   have h2:=ffunc_l1 _ _ _ h1
   obtain ⟨q1,q2⟩:=ffuns_ln k (l++[x]) r1 m r (by omega) (fun z hz=>by
    rcases List.mem_append.1 hz with hz|hz
    ·exact hl z hz
    ·rw [List.mem_singleton.1 hz]; exact ffunc_ln h1 hn) h
   rw [List.length_append,List.length_cons,List.length_nil] at q2
   exact ⟨q1,by omega⟩
  ·cases h
   exact ⟨hl,Nat.le_refl _⟩
theorem pparse_ln {s:List UInt8} {p:Prg} (h:pparse s=.ok p):LnP p:=by
 by_cases he:(scan s).2.2=0
 ·rw [pparse_of he] at h
  have hs:=scan_small s
  cases hf:fprog (scan s).1 with
  | error e=>rw [hf] at h; cases h
  | ok q =>
   rw [hf] at h
   cases h
   obtain ⟨q,r⟩:=q
   unfold fprog at hf
   obtain ⟨R,r1,h1,hf⟩:=qbi hf
   obtain ⟨a1,a2⟩:=frecs_ln _ _ _ _ _ (by omega) (fun x h=>by cases h) h1
   obtain ⟨F,r2,h2,hf⟩:=qbi hf
   rw [List.length_nil] at a2
   obtain ⟨b1,b2⟩:=ffuns_ln _ _ _ _ _ (by omega) (fun x h=>by cases h) h2
   rw [List.length_nil] at b2
   split at hf
   ·cases hf
    exact ⟨(by show R.length≤_; omega),(by show F.length≤_; omega),a1,b1⟩
   ·cases hf
 ·rw [pparse_err he] at h
  cases h
end Go.Proofs
namespace Go.Proofs
open Go.AM
attribute [local irreducible] AWP AOps ACalls AAny

mutual
def stS:Sp→Sp
 | .mk k _ nm ty len tg fn ar bd el=>.mk k 0 nm ty len tg fn ar (stL bd) (stL el)
def stL:List Sp→List Sp
 | []=>[]
 | s::r=>stS s::stL r
end
theorem stL_len:∀ l:List Sp,(stL l).length=l.length
 | []=>by rw [stL]
 | s::r=>by rw [stL,List.length_cons,List.length_cons,stL_len r]
theorem stL_get:∀ (l:List Sp) (i:Nat) (s:Sp),l[i]?=some s→(stL l)[i]?=some (stS s)
 | [],i,s,h=>by simp at h
 | a::l,0,s,h=>by rw [stL]; cases h; rfl
 | a::l,i + 1,s,h=>by rw [stL,List.getElem?_cons_succ]; exact stL_get l i s (by simpa using h)
def EqL (b:Bool) (l m:List Sp):Prop:=stL l=stL m∧(b=true→l=m)
def SameS (b:Bool) (l m:List Sp):Prop:=∀ st,ACalls Tryd.prog 24 [.view 13 (spRows l) .shared,.view 13 (spRows m) .shared,.bool b] st (fun v st'=>v=.bool true∧st'=st) (fun _ _=>False)
def bdS:Sp→List Sp
 | .mk _ _ _ _ _ _ _ _ bd _=>bd
def elS:Sp→List Sp
 | .mk _ _ _ _ _ _ _ _ _ el=>el
set_option maxHeartbeats 4000000 in
theorem sameS_of {b:Bool} {l m:List Sp} (hw:LSs l) (hl:l.length≤100000) (he:EqL b l m) (h:∀ (i:Nat) (s t:Sp),l[i]?=some s→m[i]?=some t→EqL b (bdS s) (bdS t)→EqL b (elS s) (elS t)→SameS b (bdS s) (bdS t)∧SameS b (elS s) (elS t)):SameS b l m:=by
 intro st
 obtain ⟨he1,he2⟩:=he
 have hlm:l.length=m.length:=by rw [← stL_len l,← stL_len m,he1]
 have hnl:=spRows_len l
 have hnm:=spRows_len m
 refine ACalls.ofBody Tryd.func24 rfl Tryd.ntmps24 rfl ?_
 have klen:¬ ((((spRows l).length:Nat):Int)≠(((spRows m).length:Nat):Int)):=by rw [hnl,hnm,hlm]; exact fun h=>h rfl
 refine goD ?_
 refine AWP.loop (α:=Nat) (fun i=>[(7,.int .i64 (i:Int)),(2,.bool b),(1,.view 13 (spRows m) .shared),(0,.view 13 (spRows l) .shared)]) (fun _=>st) (fun i=>i≤l.length) (fun i=>l.length - i) 0 (Nat.zero_le _) (tl4 rfl rfl rfl rfl) (.refl _) ?_
 intro i hi
 refine AWP.weaken (T':=[(7,.int .i64 (i:Int)),(2,.bool b),(1,.view 13 (spRows m) .shared),(0,.view 13 (spRows l) .shared)]) (tl4 rfl rfl rfl rfl) (.refl _) ?_
 by_cases hlt:i < l.length
 ·obtain ⟨s,hs⟩:∃ x,l[i]?=some x:=⟨_,List.getElem?_eq_getElem hlt⟩
  obtain ⟨t,ht⟩:∃ x,m[i]?=some x:=⟨_,List.getElem?_eq_getElem (by omega:i < m.length)⟩
  have hst:stS s=stS t:=by
   have q1:=stL_get l i s hs
   have q2:=stL_get m i t ht
   rw [he1,q2] at q1
   exact (Option.some.inj q1).symm
  have hbt:b=true→s=t:=fun hb=>by
   rw [he2 hb,ht] at hs
   exact (Option.some.inj hs).symm
  have hws:=LSs_get l i s hw hs
  have hrow1:=sprow_at l i s hs
  have hrow2:=sprow_at m i t ht
  have hrec:=h i s t hs ht
  clear h
  obtain ⟨k,ln,nm,ty,len,tg,fn,ar,bd,el⟩:=s
  obtain ⟨k2,ln2,nm2,ty2,len2,tg2,fn2,ar2,bd2,el2⟩:=t
  rw [stS,stS] at hst
  simp only [Sp.mk.injEq,true_and] at hst
  obtain ⟨rfl,rfl,rfl,rfl,rfl,rfl,rfl,hbd,hel⟩:=hst
  rw [LS] at hws
  obtain ⟨w3,w4,_,_,_,_⟩:=hws
  obtain ⟨hS1,hS2⟩:=hrec ⟨hbd,fun hb=>by have:=hbt hb; cases this; rfl⟩ ⟨hel,fun hb=>by have:=hbt hb; cases this; rfl⟩
  have hS1:SameS b bd bd2:=hS1
  have hS2:SameS b el el2:=hS2
  have hX1:=sameX_all w3
  have hX2:=sameX_all w4
  rw [spRow] at hrow1 hrow2
  have hir:i < (spRows l).length:=by omega
  have hir2:i < (spRows m).length:=by omega
  have kn:¬ (nm≠nm):=fun h=>h rfl
  have kt:¬ (ty≠ty):=fun h=>h rfl
  have kf:¬ (fn≠fn):=fun h=>h rfl
  refine goD ?_
  refine AWP.any rfl ?_
  apply AAny.segX (X:=fun _ _=>False) (hX:=fun _ _ h=>h.elim) (k':=12) (Es:=[8,9,10,11]) (J:=Al2J st 35 13 (sRow 0 0 [] [] 0 nilV [] nilV nilV nilV) (sRow k ln nm ty len (.view 6 (xrows tg) .shared) fn (.view 6 (xrows ar) .shared) (.view 13 (spRows bd) .shared) (.view 13 (spRows el) .shared)) (sRow k ln2 nm ty len (.view 6 (xrows tg) .shared) fn (.view 6 (xrows ar) .shared) (.view 13 (spRows bd2) .shared) (.view 13 (spRows el2) .shared))) (base:=st) (hok:=by decide +kernel) (hJ:=rfl) (hb:=.refl _)
  repeat (first|apply dsP (hi:=rfl) (hs:=rfl)|apply dqP (hi:=rfl) (hd:=rfl) (hw:=rfl) (h:=fun _ _=>ZD (z:=nz))|apply dqP (hi:=rfl) (hd:=rfl) (hw:=rfl) (h:=fun _ _=>ZM (z:=nz)))
  apply deP0 (Q:=fun v=>∃ o,v=.cptr o 13 0 0) (L:=[[false,false,false,false],[false,true,false,false]]) (hL:=rfl) (hd:=rfl) (hw:=rfl) (hex:=⟨_,0,rfl⟩) (h:=by
   refine ⟨?_,?_,trivial⟩
   ·intro vs hvs _ s hJ _
    match vs,hvs,hJ with
    | [none,none,none,none],_,hJ =>
     have hJ:s=st:=hJ
     subst hJ
     exact al rfl rfl fun o ho=>nl ⟨_,rfl,⟨o,rfl⟩,⟨o,rfl,ho,rfl⟩,StLe.new ho (.refl _)⟩
   ·intro vs hvs _ s hJ _
    match vs,hvs,hJ with
    | [none,some w,none,none],_,hJ =>
     obtain ⟨p,hp1,hp2,rfl⟩:=hJ
     exact al rfl rfl fun o ho=>nl ⟨_,rfl,⟨o,rfl⟩,⟨o,p,rfl,hp1,(new_ne ho).2,hp2,(new_ne ho).1.symm,set_swap _ _ (new_ne ho).1⟩,StLe.new ho (StLe.new hp2 (.refl _))⟩)
  rintro v ⟨oA,rfl⟩
  apply deP0 (Q:=fun v=>∃ o,v=.cptr o 13 0 0) (L:=[[false,false,false,false],[true,false,false,false]]) (hL:=rfl) (hd:=rfl) (hw:=rfl) (hex:=⟨_,0,rfl⟩) (h:=by
   refine ⟨?_,?_,trivial⟩
   ·intro vs hvs _ s hJ _
    match vs,hvs,hJ with
    | [none,none,none,none],_,hJ =>
     have hJ:s=st:=hJ
     subst hJ
     exact al rfl rfl fun o ho=>nl ⟨_,rfl,⟨o,rfl⟩,⟨o,rfl,ho,rfl⟩,StLe.new ho (.refl _)⟩
   ·intro vs hvs _ s hJ _
    match vs,hvs,hJ with
    | [some v,none,none,none],_,hJ =>
     obtain ⟨p,hp1,hp2,rfl⟩:=hJ
     exact al rfl rfl fun o ho=>nl ⟨_,rfl,⟨o,rfl⟩,⟨p,o,hp1,rfl,hp2,(new_ne ho).2,(new_ne ho).1,rfl⟩,StLe.new ho (StLe.new hp2 (.refl _))⟩)
  rintro v ⟨oB,rfl⟩
  apply dnWP (L:=[[true,true,false,false]]) (hL:=rfl) (hd:=rfl) (hw:=rfl) (h:=by
   refine ⟨?_,trivial⟩
   ·intro vs hvs hlk s hJ hle
    match vs,hvs,hlk,hJ with
    | [some v,some w,none,none],_,hlk,hJ =>
     obtain rfl:v=.cptr oA 13 0 0:=hlk (8,some v) (by simp) (by exact Nat.le_of_ble_eq_true rfl) v rfl
     obtain ⟨o,p,ho1,hp1,ho2,hp2,hne,rfl⟩:=hJ
     cases ho1
     exact soU rfl hne.symm rfl rfl rfl rfl rfl (nl ⟨rfl,fun _=>⟨oA,p,rfl,hp1,ho2,hp2,hne,rfl⟩,StLe.new2 ho2 hp2 hne⟩))
  intro _
  apply dnWP (L:=[[true,true,true,false]]) (hL:=rfl) (hd:=rfl) (hw:=rfl) (h:=by
   refine ⟨?_,trivial⟩
   ·intro vs hvs hlk s hJ hle
    match vs,hvs,hlk,hJ with
    | [some v,some w,some _,none],_,hlk,hJ =>
     obtain rfl:v=.cptr oA 13 0 0:=hlk (8,some v) (by simp) (by exact Nat.le_of_ble_eq_true rfl) v rfl
     obtain rfl:w=.cptr oB 13 0 0:=hlk (9,some w) (by simp) (by exact Nat.le_of_ble_eq_true rfl) w rfl
     obtain ⟨o,p,ho1,hp1,ho2,hp2,hne,rfl⟩:=hJ
     cases ho1
     cases hp1
     exact soV rfl rfl rfl rfl rfl rfl (nl ⟨rfl,fun _=>⟨oA,oB,rfl,rfl,ho2,hp2,hne,rfl⟩,StLe.new2 ho2 hp2 hne⟩))
  intro _
  refine dnP fun s hs=>?_
  obtain ⟨o,p,ho1,hp1,ho2,hp2,hne,rfl⟩:=hs
  cases ho1
  cases hp1
  refine AAny.text rfl ?_
  refine nl ?_
  have hA:((st.set oA (.cells 35 13 [(sRow k ln nm ty len (.view 6 (xrows tg) .shared) fn (.view 6 (xrows ar) .shared) (.view 13 (spRows bd) .shared) (.view 13 (spRows el) .shared))])).set oB (.cells 35 13 [(sRow k ln2 nm ty len (.view 6 (xrows tg) .shared) fn (.view 6 (xrows ar) .shared) (.view 13 (spRows bd2) .shared) (.view 13 (spRows el2) .shared))])).obj oA=some (.cells 35 13 [(sRow k ln nm ty len (.view 6 (xrows tg) .shared) fn (.view 6 (xrows ar) .shared) (.view 13 (spRows bd) .shared) (.view 13 (spRows el) .shared))]):=by rw [St.obj_set_ne hne]; exact St.obj_set _ _ _
  have hB:((st.set oA (.cells 35 13 [(sRow k ln nm ty len (.view 6 (xrows tg) .shared) fn (.view 6 (xrows ar) .shared) (.view 13 (spRows bd) .shared) (.view 13 (spRows el) .shared))])).set oB (.cells 35 13 [(sRow k ln2 nm ty len (.view 6 (xrows tg) .shared) fn (.view 6 (xrows ar) .shared) (.view 13 (spRows bd2) .shared) (.view 13 (spRows el2) .shared))])).obj oB=some (.cells 35 13 [(sRow k ln2 nm ty len (.view 6 (xrows tg) .shared) fn (.view 6 (xrows ar) .shared) (.view 13 (spRows bd2) .shared) (.view 13 (spRows el2) .shared))]):=St.obj_set _ _ _
  refine AWP.weaken (T':=[(9,.cptr oB 13 0 0),(8,.cptr oA 13 0 0),(7,.int .i64 (i:Int)),(2,.bool b),(1,.view 13 (spRows m) .shared),(0,.view 13 (spRows l) .shared)]) (tl6 rfl rfl rfl rfl rfl rfl) (.refl _) ?_
  refine AWP.seq ?_
  refine midk [(9,.cptr oB 13 0 0),(8,.cptr oA 13 0 0),(7,.int .i64 (i:Int)),(2,.bool b),(1,.view 13 (spRows m) .shared),(0,.view 13 (spRows l) .shared)] ((st.set oA (.cells 35 13 [(sRow k ln nm ty len (.view 6 (xrows tg) .shared) fn (.view 6 (xrows ar) .shared) (.view 13 (spRows bd) .shared) (.view 13 (spRows el) .shared))])).set oB (.cells 35 13 [(sRow k ln2 nm ty len (.view 6 (xrows tg) .shared) fn (.view 6 (xrows ar) .shared) (.view 13 (spRows bd2) .shared) (.view 13 (spRows el2) .shared))])) ?_ ?_
  rotate_left
  ·refine goD ?_
   refine cle rfl rfl (hX1 _) ?_
   refine goD ?_
   refine cle rfl rfl (hX2 _) ?_
   refine goD ?_
   refine cle rfl rfl (hS1 _) ?_
   refine goD ?_
   refine cle rfl rfl (hS2 _) ?_
   refine goD ?_
   exact ⟨i + 1,by omega,by omega,(tl4 rfl rfl rfl rfl),StLe.new2 ho2 hp2 hne⟩
  ·cases b with
   | true =>
    have hE:=hbt rfl
    cases hE
    refine goD ?_
    exact ⟨(tl6 rfl rfl rfl rfl rfl rfl),.refl _⟩
   | false =>
    refine goD ?_
    exact ⟨(tl6 rfl rfl rfl rfl rfl rfl),.refl _⟩
 ·have hil:i=l.length:=by omega
  subst hil
  refine goD ?_
  refine AWP.exit (blk_hit ?_)
  refine goD ?_
  exact AWP.ret (rets rfl (.refl _) (.refl _) ⟨rfl,rfl⟩)
end Go.Proofs
namespace Go.Proofs
open Go.AM
attribute [local irreducible] AWP AOps ACalls AAny

theorem sameS_all {b:Bool}:∀ (n:Nat) (l m:List Sp),SizeOf.sizeOf l≤n→LSs l→l.length≤100000→EqL b l m→SameS b l m
 | 0,l,m,hn,_,_,_=>by cases l <;> simp at hn
 | n + 1,l,m,hn,hw,hl,he=>sameS_of hw hl he fun i s t hs _ h1 h2=>by
  have hws:=LSs_get l i s hw hs
  have hsz:=List.sizeOf_lt_of_mem (List.mem_of_getElem? hs)
  obtain ⟨k,ln,nm,ty,len,tg,fn,ar,bd,el⟩:=s
  rw [LS] at hws
  obtain ⟨_,_,w8,w9,w6,w7⟩:=hws
  simp only [Sp.mk.sizeOf_spec] at hsz
  exact ⟨sameS_all n bd _ (by omega) w6 w8 h1,sameS_all n el _ (by omega) w7 w9 h2⟩
structure EqP (b:Bool) (p q:Prg):Prop where
 r:p.1=q.1
 fl:p.2.length=q.2.length
 f:∀ (i:Nat) (f g:Fn),p.2[i]?=some f→q.2[i]?=some g→f.name=g.name∧f.params=g.params∧EqL b (f.body++[endSp f.stop]) (g.body++[endSp g.stop])∧(b=true→f.line=g.line)
theorem EqP.refl (b:Bool) (p:Prg):EqP b p p:=⟨rfl,rfl,fun i f g h1 h2=>by
 rw [h1] at h2
 cases h2
 exact ⟨rfl,rfl,⟨rfl,fun _=>rfl⟩,fun _=>rfl⟩⟩
set_option maxHeartbeats 4000000 in
theorem sameProgram {b:Bool} {p q:Prg} (hw:LnP p) (he:EqP b p q) (st:St) :
  ACalls Tryd.prog 12 [.agg (pgRow p),.agg (pgRow q),.bool b] st (fun v st'=>v=.bool true∧st'=st) (fun _ _=>False):=by
 refine ACalls.ofBody Tryd.func12 rfl Tryd.ntmps12 rfl ?_
 obtain ⟨R,F⟩:=p
 obtain ⟨R2,G⟩:=q
 obtain ⟨e1,e2,e3⟩:=he
 simp only at e1 e2 e3
 subst e1
 obtain ⟨w1,w2,l1,w3⟩:=hw
 simp only at w1 w2 w3 l1
 have hRl:(R.map recRow).length=R.length:=List.length_map ..
 have hFl:(F.map fnRow).length=F.length:=List.length_map ..
 have hGl:(G.map fnRow).length=G.length:=List.length_map ..
 have kR:¬ ((((R.map recRow).length:Nat):Int)≠(((R.map recRow).length:Nat):Int)):=fun h=>h rfl
 have kF:¬ ((((F.map fnRow).length:Nat):Int)≠(((G.map fnRow).length:Nat):Int)):=by rw [hFl,hGl,e2]; exact fun h=>h rfl
 unfold pgRow
 refine goD ?_
 refine AWP.loop (α:=Nat) (fun i=>[(7,.int .i64 (i:Int)),(4,.eptr 2 [[.view 2 (R.map recRow) .shared,.view 4 (G.map fnRow) .shared]] 0 0),(3,.eptr 2 [[.view 2 (R.map recRow) .shared,.view 4 (F.map fnRow) .shared]] 0 0),(2,.bool b)]) (fun _=>st) (fun i=>i≤R.length) (fun i=>R.length - i) 0 (Nat.zero_le _) (tl4 rfl rfl rfl rfl) (.refl _) ?_
 intro i hi
 refine AWP.weaken (T':=[(7,.int .i64 (i:Int)),(4,.eptr 2 [[.view 2 (R.map recRow) .shared,.view 4 (G.map fnRow) .shared]] 0 0),(3,.eptr 2 [[.view 2 (R.map recRow) .shared,.view 4 (F.map fnRow) .shared]] 0 0),(2,.bool b)]) (tl4 rfl rfl rfl rfl) (.refl _) ?_
 by_cases hlt:i < R.length
 ·obtain ⟨r,hr⟩:∃ x,R[i]?=some x:=⟨_,List.getElem?_eq_getElem hlt⟩
  have hrr:=recr_at R i r hr
  have hir:i < (R.map recRow).length:=by omega
  have kn:¬ (r.name≠r.name):=fun h=>h rfl
  have hN:=sameN (l1 r (List.mem_of_getElem? hr))
  refine goD ?_
  refine AWP.any rfl ?_
  apply AAny.segQ (k':=29) (hok:=by decide +kernel)
  repeat (first|apply dqY (v:=.bool false) (hi:=rfl) (hd:=rfl) (hw:=rfl) (h:=fun st1 hle=>sm rfl (nl ⟨_,rfl,congrArg AV.bool (by (fail_if_success rfl); first|assumption|exact decide_eq_true (by assumption)|exact decide_eq_false (by assumption)|exact decide_eq_true rfl|exact decide_eq_true (by omega)|exact decide_eq_false (by omega)),rfl⟩))|apply dsY (hi:=rfl) (hs:=rfl)|apply dqY (hi:=rfl) (hd:=rfl) (hw:=rfl) (h:=fun _ _=>ZF (z:=nz))|apply dqY (hi:=rfl) (hd:=rfl) (hw:=rfl) (h:=fun _ _=>ZC (z:=nz))|apply dqY (hi:=rfl) (hd:=rfl) (hw:=rfl) (h:=fun _ _=>ZM (z:=nz)))
  apply dqY (hi:=rfl) (hd:=rfl) (hw:=rfl) (h:=fun st' hle=>cle rfl rfl (hN st') nz)
  repeat (apply dsY (hi:=rfl) (hs:=rfl))
  refine dnQ ?_
  refine AAny.text rfl ?_
  refine goD ?_
  exact ⟨i + 1,by omega,by omega,(tl4 rfl rfl rfl rfl),.refl _⟩
 ·have hil:i=R.length:=by omega
  subst hil
  refine goD ?_
  refine AWP.exit (blk_hit ?_)
  refine goD ?_
  refine AWP.loop (α:=Nat) (fun i=>[(8,.int .i64 (i:Int)),(4,.eptr 2 [[.view 2 (R.map recRow) .shared,.view 4 (G.map fnRow) .shared]] 0 0),(3,.eptr 2 [[.view 2 (R.map recRow) .shared,.view 4 (F.map fnRow) .shared]] 0 0),(2,.bool b)]) (fun _=>st) (fun i=>i≤F.length) (fun i=>F.length - i) 0 (Nat.zero_le _) (tl4 rfl rfl rfl rfl) (.refl _) ?_
  clear hi hlt
  intro i hi
  refine AWP.weaken (T':=[(8,.int .i64 (i:Int)),(4,.eptr 2 [[.view 2 (R.map recRow) .shared,.view 4 (G.map fnRow) .shared]] 0 0),(3,.eptr 2 [[.view 2 (R.map recRow) .shared,.view 4 (F.map fnRow) .shared]] 0 0),(2,.bool b)]) (tl4 rfl rfl rfl rfl) (.refl _) ?_
  by_cases hlt:i < F.length
  ·obtain ⟨f,hf⟩:∃ x,F[i]?=some x:=⟨_,List.getElem?_eq_getElem hlt⟩
   obtain ⟨g,hg⟩:∃ x,G[i]?=some x:=⟨_,List.getElem?_eq_getElem (by omega:i < G.length)⟩
   have hrf:=fnr_at F i f hf
   have hrg:=fnr_at G i g hg
   have hif:i < (F.map fnRow).length:=by omega
   have hig:i < (G.map fnRow).length:=by omega
   obtain ⟨q1,q2,q3,q4⟩:=e3 i f g hf hg
   obtain ⟨wp,wb,wl⟩:=w3 f (List.mem_of_getElem? hf)
   have hN:=sameN wp
   have hS:=sameS_all (b:=b) _ _ _ (Nat.le_refl _) (wb.app (LS_end f.stop)) (by rw [List.length_append,List.length_cons,List.length_nil]; omega) q3
   unfold SameS at hS
   rw [← q1,← q2] at hrg
   have kn:¬ (f.name≠f.name):=fun h=>h rfl
   refine goD ?_
   refine AWP.any rfl ?_
   apply AAny.segX (X:=fun _ _=>False) (hX:=fun _ _ h=>h.elim) (k':=14) (Es:=[10,11,12,13]) (J:=Al2J st 32 4 [.str [],.int .i64 0,nilV,nilV] [.str f.name,.int .i64 (f.line:Int),.view 1 (nrow f.params) .shared,.view 13 (spRows (f.body++[endSp f.stop])) .shared] [.str f.name,.int .i64 (g.line:Int),.view 1 (nrow f.params) .shared,.view 13 (spRows (g.body++[endSp g.stop])) .shared]) (base:=st) (hok:=by decide +kernel) (hJ:=rfl) (hb:=.refl _)
   repeat (first|apply dsP (hi:=rfl) (hs:=rfl)|apply dqP (hi:=rfl) (hd:=rfl) (hw:=rfl) (h:=fun _ _=>ZD (z:=nz))|apply dqP (hi:=rfl) (hd:=rfl) (hw:=rfl) (h:=fun _ _=>ZF (z:=nz))|apply dqP (hi:=rfl) (hd:=rfl) (hw:=rfl) (h:=fun _ _=>ZC (z:=nz))|apply dqP (hi:=rfl) (hd:=rfl) (hw:=rfl) (h:=fun _ _=>ZM (z:=nz)))
   apply deP0 (Q:=fun v=>∃ o,v=.cptr o 4 0 0) (L:=[[false,false,false,false],[false,true,false,false]]) (hL:=rfl) (hd:=rfl) (hw:=rfl) (hex:=⟨_,0,rfl⟩) (h:=by
    refine ⟨?_,?_,trivial⟩
    ·intro vs hvs _ s hJ _
     match vs,hvs,hJ with
     | [none,none,none,none],_,hJ =>
      have hJ:s=st:=hJ
      subst hJ
      exact al rfl rfl fun o ho=>nl ⟨_,rfl,⟨o,rfl⟩,⟨o,rfl,ho,rfl⟩,StLe.new ho (.refl _)⟩
    ·intro vs hvs _ s hJ _
     match vs,hvs,hJ with
     | [none,some w,none,none],_,hJ =>
      obtain ⟨p,hp1,hp2,rfl⟩:=hJ
      exact al rfl rfl fun o ho=>nl ⟨_,rfl,⟨o,rfl⟩,⟨o,p,rfl,hp1,(new_ne ho).2,hp2,(new_ne ho).1.symm,set_swap _ _ (new_ne ho).1⟩,StLe.new ho (StLe.new hp2 (.refl _))⟩)
   rintro v ⟨oA,rfl⟩
   apply deP0 (Q:=fun v=>∃ o,v=.cptr o 4 0 0) (L:=[[false,false,false,false],[true,false,false,false]]) (hL:=rfl) (hd:=rfl) (hw:=rfl) (hex:=⟨_,0,rfl⟩) (h:=by
    refine ⟨?_,?_,trivial⟩
    ·intro vs hvs _ s hJ _
     match vs,hvs,hJ with
     | [none,none,none,none],_,hJ =>
      have hJ:s=st:=hJ
      subst hJ
      exact al rfl rfl fun o ho=>nl ⟨_,rfl,⟨o,rfl⟩,⟨o,rfl,ho,rfl⟩,StLe.new ho (.refl _)⟩
    ·intro vs hvs _ s hJ _
     match vs,hvs,hJ with
     | [some v,none,none,none],_,hJ =>
      obtain ⟨p,hp1,hp2,rfl⟩:=hJ
      exact al rfl rfl fun o ho=>nl ⟨_,rfl,⟨o,rfl⟩,⟨p,o,hp1,rfl,hp2,(new_ne ho).2,(new_ne ho).1,rfl⟩,StLe.new ho (StLe.new hp2 (.refl _))⟩)
   rintro v ⟨oB,rfl⟩
   apply dnWP (L:=[[true,true,false,false]]) (hL:=rfl) (hd:=rfl) (hw:=rfl) (h:=by
    refine ⟨?_,trivial⟩
    ·intro vs hvs hlk s hJ hle
     match vs,hvs,hlk,hJ with
     | [some v,some w,none,none],_,hlk,hJ =>
      obtain rfl:v=.cptr oA 4 0 0:=hlk (10,some v) (by simp) (by exact Nat.le_of_ble_eq_true rfl) v rfl
      obtain ⟨o,p,ho1,hp1,ho2,hp2,hne,rfl⟩:=hJ
      cases ho1
      exact soU rfl hne.symm rfl rfl rfl rfl rfl (nl ⟨rfl,fun _=>⟨oA,p,rfl,hp1,ho2,hp2,hne,rfl⟩,StLe.new2 ho2 hp2 hne⟩))
   intro _
   apply dnWP (L:=[[true,true,true,false]]) (hL:=rfl) (hd:=rfl) (hw:=rfl) (h:=by
    refine ⟨?_,trivial⟩
    ·intro vs hvs hlk s hJ hle
     match vs,hvs,hlk,hJ with
     | [some v,some w,some _,none],_,hlk,hJ =>
      obtain rfl:v=.cptr oA 4 0 0:=hlk (10,some v) (by simp) (by exact Nat.le_of_ble_eq_true rfl) v rfl
      obtain rfl:w=.cptr oB 4 0 0:=hlk (11,some w) (by simp) (by exact Nat.le_of_ble_eq_true rfl) w rfl
      obtain ⟨o,p,ho1,hp1,ho2,hp2,hne,rfl⟩:=hJ
      cases ho1
      cases hp1
      exact soV rfl rfl rfl rfl rfl rfl (nl ⟨rfl,fun _=>⟨oA,oB,rfl,rfl,ho2,hp2,hne,rfl⟩,StLe.new2 ho2 hp2 hne⟩))
   intro _
   refine dnP fun s hs=>?_
   obtain ⟨o,p,ho1,hp1,ho2,hp2,hne,rfl⟩:=hs
   cases ho1
   cases hp1
   refine AAny.text rfl ?_
   refine nl ?_
   have hA:((st.set oA (.cells 32 4 [[.str f.name,.int .i64 (f.line:Int),.view 1 (nrow f.params) .shared,.view 13 (spRows (f.body++[endSp f.stop])) .shared]])).set oB (.cells 32 4 [[.str f.name,.int .i64 (g.line:Int),.view 1 (nrow f.params) .shared,.view 13 (spRows (g.body++[endSp g.stop])) .shared]])).obj oA=some (.cells 32 4 [[.str f.name,.int .i64 (f.line:Int),.view 1 (nrow f.params) .shared,.view 13 (spRows (f.body++[endSp f.stop])) .shared]]):=by rw [St.obj_set_ne hne]; exact St.obj_set _ _ _
   have hB:((st.set oA (.cells 32 4 [[.str f.name,.int .i64 (f.line:Int),.view 1 (nrow f.params) .shared,.view 13 (spRows (f.body++[endSp f.stop])) .shared]])).set oB (.cells 32 4 [[.str f.name,.int .i64 (g.line:Int),.view 1 (nrow f.params) .shared,.view 13 (spRows (g.body++[endSp g.stop])) .shared]])).obj oB=some (.cells 32 4 [[.str f.name,.int .i64 (g.line:Int),.view 1 (nrow f.params) .shared,.view 13 (spRows (g.body++[endSp g.stop])) .shared]]):=St.obj_set _ _ _
   refine goD ?_
   cases b with
   | true =>
    have kl:¬ ((f.line:Int)≠(g.line:Int)):=by rw [q4 rfl]; exact fun h=>h rfl
    refine goD ?_
    refine cle rfl rfl (hN _) ?_
    refine goD ?_
    refine cle rfl rfl (hS _) ?_
    refine goD ?_
    exact ⟨i + 1,by omega,by omega,(tl4 rfl rfl rfl rfl),StLe.new2 ho2 hp2 hne⟩
   | false =>
    refine goD ?_
    refine cle rfl rfl (hN _) ?_
    refine goD ?_
    refine cle rfl rfl (hS _) ?_
    refine goD ?_
    exact ⟨i + 1,by omega,by omega,(tl4 rfl rfl rfl rfl),StLe.new2 ho2 hp2 hne⟩
  ·have hil:i=F.length:=by omega
   subst hil
   refine goD ?_
   refine AWP.exit (blk_hit ?_)
   refine goD ?_
   exact AWP.ret (rets rfl (.refl _) (.refl _) ⟨rfl,rfl⟩)
end Go.Proofs
namespace Go.Proofs
open Go.AM
attribute [local irreducible] AWP AOps ACalls AAny

theorem valT {s:List UInt8} {x:Xp} (h:pparse (pText s)=.ok (vProg x)) (hs:s.length≤1000000) (st:St) (hT:LTp st):ACalls Tryd.prog 11 [.str s] st (fun v st'=>v=.tuple [.agg [.view 2 ((vProg x).1.map recRow) .shared,.view 4 ((vProg x).2.map fnRow) .shared],.int .i64 0]∧st'=st) (fun _ _=>False):=by
 have:=value_ok s hs st hT
 rw [show vText s=pText s from rfl,h] at this
 exact this
theorem valE {s:List UInt8} {l:Nat} (h:pparse (pText s)=.error (l,7)) (hs:s.length≤1000000) (st:St) (hT:LTp st):ACalls Tryd.prog 11 [.str s] st (fun v st'=>v=.tuple [.agg [nilV,nilV],.int .i64 7]∧st'=st) (fun _ _=>False):=by
 have:=value_ok s hs st hT
 rw [show vText s=pText s from rfl,h] at this
 exact this
theorem sameT {s:List UInt8} {x:Xp} (h:pparse (pText s)=.ok (vProg x)) (st:St):ACalls Tryd.prog 12 [.agg [.view 2 ((vProg x).1.map recRow) .shared,.view 4 ((vProg x).2.map fnRow) .shared],.agg [.view 2 ((vProg x).1.map recRow) .shared,.view 4 ((vProg x).2.map fnRow) .shared],.bool true] st (fun v st'=>v=.bool true∧st'=st) (fun _ _=>False):=sameProgram (pparse_ln h) (EqP.refl true _) st
theorem sg_len6 {k:Nat} (h:k < 12):(sgO (6 + k)).length≤2:=(opS_facts (6 + k) (by omega) (by omega)).2
set_option linter.unusedSimpArgs false in
set_option maxHeartbeats 4000000 in
theorem ParserLevels_ok (a:Int) (_:(Lit.int .i64 a).wf=true) (b:Int) (_:(Lit.int .i64 b).wf=true) (c:Int) (_:(Lit.int .i64 c).wf=true) (x:Int) (_:(Lit.int .i64 x).wf=true) (y:Int) (_:(Lit.int .i64 y).wf=true) (st:St) (hT:LTp st) :
  ACalls Tryd.prog 4 [.int .i64 a,.int .i64 b,.int .i64 c,.int .i64 x,.int .i64 y] st (fun v _=>v=.bool true) (fun _ _=>False):=by
 refine ACalls.ofBody Tryd.func4 rfl Tryd.ntmps4 rfl ?_
 obtain ⟨na,ea,ba⟩:∃ m:Nat,a % 8=(m:Int)∧m < 8:=⟨(a % 8).toNat,by omega,by omega⟩
 obtain ⟨nb,eb,bb⟩:∃ m:Nat,b % 8=(m:Int)∧m < 8:=⟨(b % 8).toNat,by omega,by omega⟩
 obtain ⟨nc,ec,bc⟩:∃ m:Nat,c % 8=(m:Int)∧m < 8:=⟨(c % 8).toNat,by omega,by omega⟩
 obtain ⟨nx,ex,bx⟩:∃ m:Nat,x % 12=(m:Int)∧m < 12:=⟨(x % 12).toNat,by omega,by omega⟩
 obtain ⟨ny,ey,byy⟩:∃ m:Nat,y % 12=(m:Int)∧m < 12:=⟨(y % 12).toNat,by omega,by omega⟩
 have la:=(opd_facts na ba).2.2.2
 have lb:=(opd_facts nb bb).2.2.2
 have lc:=(opd_facts nc bc).2.2.2
 have lx:=sg_len6 bx
 have ly:=sg_len6 byy
 obtain ⟨p1,p2,p3,p4⟩:=levels (a:=na) (b:=nb) (c:=nc) (x:=6 + nx) (y:=6 + ny) ba bb bc (by omega) (by omega) (by omega) (by omega)
 obtain ⟨l1,l2,l3⟩:=len_T na nb nc (6 + nx) (6 + ny) ba bb bc (by omega) (by omega) (by omega) (by omega)
 have hk:=known_ok st hT
 have cA:=lopd_ok a na ea ba
 have cB:=lopd_ok b nb eb bb
 have cC:=lopd_ok c nc ec bc
 have cX:=lopr_ok x nx ex bx
 have cY:=lopr_ok y ny ey byy
 have sL:=sameT p3
 have sR:=sameT p4
 have vL:=fun st hT=>valT p3 (by omega) st hT
 have vR:=fun st hT=>valT p4 (by omega) st hT
 have vE:=fun h st hT=>(p1 h).elim fun l hl=>valE hl (by omega) st hT
 have vG:=fun h st hT=>valT (p2 h) (by omega) st hT
 unfold lev2 at vG
 unfold gotT at vE vG
 unfold leftT at vL
 unfold rightT at vR
 clear p1 p2 p3 p4 l1 l2 l3
 generalize opdT na=A at *
 generalize opdT nb=B at *
 generalize opdT nc=C at *
 generalize sgO (6 + nx)=X at *
 generalize sgO (6 + ny)=Y at *
 generalize lvO (6 + nx)=kx at *
 generalize lvO (6 + ny)=ky at *
 generalize Xp.bin (6 + nx) (opdX na) (Xp.bin (6 + ny) (opdX nb) (opdX nc))=R at *
 generalize Xp.bin (6 + ny) (Xp.bin (6 + nx) (opdX na) (opdX nb)) (opdX nc)=L at *
 refine goD ?_
 refine cle rfl rfl (cX _) ?_
 refine goD ?_
 refine cle rfl rfl (cY _) ?_
 refine goE ?_
 refine nl ?_
 refine AWP.weaken (tl7 (i0:=14) (i1:=13) (i2:=12) (i3:=11) (i4:=2) (i5:=1) (i6:=0) rfl rfl rfl rfl rfl rfl rfl) (.refl _) ?_
 refine goC ?_
 refine rg ?_
 refine goE ?_
 refine cle rfl rfl (cA _) ?_
 refine sad rfl rfl rfl (by (try simp only [List.length_append,List.length_cons,List.length_nil]); omega) ?_
 refine sad rfl rfl rfl (by (try simp only [List.length_append,List.length_cons,List.length_nil]); omega) ?_
 refine goE ?_
 refine sad rfl rfl rfl (by (try simp only [List.length_append,List.length_cons,List.length_nil]); omega) ?_
 refine sad rfl rfl rfl (by (try simp only [List.length_append,List.length_cons,List.length_nil]); omega) ?_
 refine goE ?_
 refine cle rfl rfl (cB _) ?_
 refine sad rfl rfl rfl (by (try simp only [List.length_append,List.length_cons,List.length_nil]); omega) ?_
 refine sad rfl rfl rfl (by (try simp only [List.length_append,List.length_cons,List.length_nil]); omega) ?_
 refine goE ?_
 refine sad rfl rfl rfl (by (try simp only [List.length_append,List.length_cons,List.length_nil]); omega) ?_
 refine sad rfl rfl rfl (by (try simp only [List.length_append,List.length_cons,List.length_nil]); omega) ?_
 refine goE ?_
 refine cle rfl rfl (cC _) ?_
 refine sad rfl rfl rfl (by (try simp only [List.length_append,List.length_cons,List.length_nil]); omega) ?_
 refine goE ?_
 refine nl ?_
 refine AWP.weaken (tl8 (i0:=15) (i1:=14) (i2:=13) (i3:=12) (i4:=11) (i5:=2) (i6:=1) (i7:=0) rfl rfl rfl rfl rfl rfl rfl rfl) (.refl _) ?_
 refine goC ?_
 refine rg ?_
 refine goE ?_
 refine cle rfl rfl (cA _) ?_
 refine sad rfl rfl rfl (by (try simp only [List.length_append,List.length_cons,List.length_nil]); omega) ?_
 refine goE ?_
 refine sad rfl rfl rfl (by (try simp only [List.length_append,List.length_cons,List.length_nil]); omega) ?_
 refine sad rfl rfl rfl (by (try simp only [List.length_append,List.length_cons,List.length_nil]); omega) ?_
 refine goE ?_
 refine cle rfl rfl (cB _) ?_
 refine sad rfl rfl rfl (by (try simp only [List.length_append,List.length_cons,List.length_nil]); omega) ?_
 refine sad rfl rfl rfl (by (try simp only [List.length_append,List.length_cons,List.length_nil]); omega) ?_
 refine goE ?_
 refine sad rfl rfl rfl (by (try simp only [List.length_append,List.length_cons,List.length_nil]); omega) ?_
 refine sad rfl rfl rfl (by (try simp only [List.length_append,List.length_cons,List.length_nil]); omega) ?_
 refine goE ?_
 refine cle rfl rfl (cC _) ?_
 refine sad rfl rfl rfl (by (try simp only [List.length_append,List.length_cons,List.length_nil]); omega) ?_
 refine sad rfl rfl rfl (by (try simp only [List.length_append,List.length_cons,List.length_nil]); omega) ?_
 refine goE ?_
 refine nl ?_
 refine AWP.weaken (tl9 (i0:=16) (i1:=15) (i2:=14) (i3:=13) (i4:=12) (i5:=11) (i6:=2) (i7:=1) (i8:=0) rfl rfl rfl rfl rfl rfl rfl rfl rfl) (.refl _) ?_
 refine goC ?_
 refine rg ?_
 refine goE ?_
 refine cle rfl rfl (cA _) ?_
 refine sad rfl rfl rfl (by (try simp only [List.length_append,List.length_cons,List.length_nil]); omega) ?_
 refine goE ?_
 refine sad rfl rfl rfl (by (try simp only [List.length_append,List.length_cons,List.length_nil]); omega) ?_
 refine sad rfl rfl rfl (by (try simp only [List.length_append,List.length_cons,List.length_nil]); omega) ?_
 refine goE ?_
 refine cle rfl rfl (cB _) ?_
 refine sad rfl rfl rfl (by (try simp only [List.length_append,List.length_cons,List.length_nil]); omega) ?_
 refine goE ?_
 refine sad rfl rfl rfl (by (try simp only [List.length_append,List.length_cons,List.length_nil]); omega) ?_
 refine goE ?_
 refine cle rfl rfl (cC _) ?_
 refine sad rfl rfl rfl (by (try simp only [List.length_append,List.length_cons,List.length_nil]); omega) ?_
 by_cases h11:kx=1∧ky=1
 ·have i1:(kx:Int)=1:=by omega
  have i2:(ky:Int)=1:=by omega
  refine cle rfl rfl (vE h11 st hT) ?_
  refine goD ?_
  refine cle rfl rfl hk ?_
  refine goD ?_
  exact AWP.ret (rets rfl (.refl _) (.refl _) rfl)
 have vG:=vG h11 st hT
 have hcase:((kx:Int)=1∧¬ (ky:Int)=1)∨¬ (kx:Int)=1:=by omega
 by_cases hlt:kx < ky
 ·have hlt':(ky:Int) > (kx:Int):=by omega
  rw [if_pos hlt] at vG
  generalize (vProg L).1.map recRow=r1 at *
  generalize (vProg L).2.map fnRow=r2 at *
  generalize (vProg R).1.map recRow=r3 at *
  generalize (vProg R).2.map fnRow=r4 at *
  refine cle rfl rfl vG ?_
  refine goE ?_
  refine nl ?_
  refine AWP.weaken (tl6 (i0:=18) (i1:=17) (i2:=16) (i3:=15) (i4:=14) (i5:=12) rfl rfl rfl rfl rfl rfl) (.refl _) ?_
  refine AWP.seq ?_
  refine AWP.cutK (α:=Unit) (fun _=>[(18,.int .i64 0),(17,.eptr 2 [[.view 2 r3 .shared,.view 4 r4 .shared]] 0 0),(16,.str (A++[32]++X++[32,40]++B++[32]++Y++[32]++C++[41])),(15,.str ([40]++A++[32]++X++[32]++B++[41,32]++Y++[32]++C)),(14,.int .i64 (ky:Int)),(12,.int .i64 (kx:Int))]) (fun _=>st) (fun _=>True) ?_ ?_
  ·rcases hcase with ⟨i1,i2⟩|i1
   ·refine goD ?_
    exact ⟨(),trivial,(tl6 rfl rfl rfl rfl rfl rfl),.refl _⟩
   ·refine goD ?_
    exact ⟨(),trivial,(tl6 rfl rfl rfl rfl rfl rfl),.refl _⟩
  rintro _ _
  refine goC ?_
  refine rg ?_
  repeat (refine sm rfl ?_)
  refine cle rfl rfl (vL st hT) ?_
  repeat (refine sm rfl ?_)
  refine al rfl rfl fun o ho=>?_
  refine soV rfl rfl rfl rfl rfl rfl ?_
  repeat (refine sm rfl ?_)
  refine nl ?_
  refine AWP.weaken (tl7 (i0:=20) (i1:=19) (i2:=18) (i3:=17) (i4:=16) (i5:=14) (i6:=12) rfl rfl rfl rfl rfl rfl rfl) (.refl _) ?_
  refine goD ?_
  refine cle rfl rfl (vR _ (hT.set o _)) ?_
  refine goD ?_
  refine soV rfl rfl rfl rfl rfl rfl ?_
  refine goE ?_
  refine nl ?_
  refine AWP.weaken (tl4 (i0:=20) (i1:=19) (i2:=18) (i3:=17) rfl rfl rfl rfl) (.refl _) ?_
  refine goD ?_
  refine cle rfl rfl (sR _) ?_
  refine goD ?_
  refine cle rfl rfl (known_ok _ (hT.set o _)) ?_
  refine goD ?_
  exact AWP.ret (rets rfl (.refl _) (.refl _) rfl)
 ·have hlt':¬ (ky:Int) > (kx:Int):=by omega
  rw [if_neg hlt] at vG
  have sL:=sL st
  generalize (vProg L).1.map recRow=r1 at *
  generalize (vProg L).2.map fnRow=r2 at *
  generalize (vProg R).1.map recRow=r3 at *
  generalize (vProg R).2.map fnRow=r4 at *
  refine cle rfl rfl vG ?_
  refine goE ?_
  refine nl ?_
  refine AWP.weaken (tl6 (i0:=18) (i1:=17) (i2:=16) (i3:=15) (i4:=14) (i5:=12) rfl rfl rfl rfl rfl rfl) (.refl _) ?_
  refine AWP.seq ?_
  refine AWP.cutK (α:=Unit) (fun _=>[(18,.int .i64 0),(17,.eptr 2 [[.view 2 r1 .shared,.view 4 r2 .shared]] 0 0),(15,.str ([40]++A++[32]++X++[32]++B++[41,32]++Y++[32]++C)),(14,.int .i64 (ky:Int)),(12,.int .i64 (kx:Int))]) (fun _=>st) (fun _=>True) ?_ ?_
  ·rcases hcase with ⟨i1,i2⟩|i1
   ·refine goD ?_
    exact ⟨(),trivial,(tl5 rfl rfl rfl rfl rfl),.refl _⟩
   ·refine goD ?_
    exact ⟨(),trivial,(tl5 rfl rfl rfl rfl rfl),.refl _⟩
  rintro _ _
  refine goD ?_
  refine cle rfl rfl (vL st hT) ?_
  refine goD ?_
  refine cle rfl rfl sL ?_
  refine goD ?_
  refine cle rfl rfl hk ?_
  refine goD ?_
  exact AWP.ret (rets rfl (.refl _) (.refl _) rfl)
theorem len_P (a b x:Nat) (ha:a < 8) (hb:b < 8) (h6:6≤x) (h17:x≤17):(parA a b x).length≤100∧(parB a b x).length≤100:=by
 have l1:=(opd_facts a ha).2.2.2
 have l2:=(opd_facts b hb).2.2.2
 have l4:=(opS_facts x h6 h17).2
 simp only [parA,parB,List.length_append,List.length_cons,List.length_nil]
 omega
set_option linter.unusedSimpArgs false in
set_option maxHeartbeats 4000000 in
theorem ParserParens_ok (a:Int) (_:(Lit.int .i64 a).wf=true) (b:Int) (_:(Lit.int .i64 b).wf=true) (x:Int) (_:(Lit.int .i64 x).wf=true) (st:St) (hT:LTp st) :
  ACalls Tryd.prog 5 [.int .i64 a,.int .i64 b,.int .i64 x] st (fun v _=>v=.bool true) (fun _ _=>False):=by
 refine ACalls.ofBody Tryd.func5 rfl Tryd.ntmps5 rfl ?_
 obtain ⟨na,ea,ba⟩:∃ m:Nat,a % 8=(m:Int)∧m < 8:=⟨(a % 8).toNat,by omega,by omega⟩
 obtain ⟨nb,eb,bb⟩:∃ m:Nat,b % 8=(m:Int)∧m < 8:=⟨(b % 8).toNat,by omega,by omega⟩
 obtain ⟨nx,ex,bx⟩:∃ m:Nat,x % 12=(m:Int)∧m < 12:=⟨(x % 12).toNat,by omega,by omega⟩
 have la:=(opd_facts na ba).2.2.2
 have lb:=(opd_facts nb bb).2.2.2
 have lx:=sg_len6 bx
 obtain ⟨p1,p2⟩:=parens (a:=na) (b:=nb) (x:=6 + nx) ba bb (by omega) (by omega)
 obtain ⟨l1,l2⟩:=len_P na nb (6 + nx) ba bb (by omega) (by omega)
 have cA:=lopd_ok a na ea ba
 have cB:=lopd_ok b nb eb bb
 have cX:=lopr_ok x nx ex bx
 have sL:=sameT p1
 have vL:=valT p1 (by omega) st hT
 have vR:=valT p2 (by omega) st hT
 unfold parA at vL
 unfold parB at vR
 clear p1 p2 l1 l2
 generalize opdT na=A at *
 generalize opdT nb=B at *
 generalize sgO (6 + nx)=X at *
 generalize Xp.bin (6 + nx) (opdX na) (opdX nb)=L at *
 have sL:=sL st
 generalize (vProg L).1.map recRow=r1 at *
 generalize (vProg L).2.map fnRow=r2 at *
 refine goD ?_
 refine cle rfl rfl (cX _) ?_
 refine goD ?_
 refine cle rfl rfl (cA _) ?_
 refine goE ?_
 refine sad rfl rfl rfl (by (try simp only [List.length_append,List.length_cons,List.length_nil]); omega) ?_
 refine goE ?_
 refine cle rfl rfl (cB _) ?_
 refine sad rfl rfl rfl (by (try simp only [List.length_append,List.length_cons,List.length_nil]); omega) ?_
 refine cle rfl rfl vL ?_
 refine goE ?_
 refine nl ?_
 refine AWP.weaken (tl5 (i0:=10) (i1:=9) (i2:=7) (i3:=1) (i4:=0) rfl rfl rfl rfl rfl) (.refl _) ?_
 refine goC ?_
 refine rg ?_
 refine goE ?_
 refine cle rfl rfl (cA _) ?_
 refine sad rfl rfl rfl (by (try simp only [List.length_append,List.length_cons,List.length_nil]); omega) ?_
 refine sad rfl rfl rfl (by (try simp only [List.length_append,List.length_cons,List.length_nil]); omega) ?_
 refine goE ?_
 refine sad rfl rfl rfl (by (try simp only [List.length_append,List.length_cons,List.length_nil]); omega) ?_
 refine sad rfl rfl rfl (by (try simp only [List.length_append,List.length_cons,List.length_nil]); omega) ?_
 refine goE ?_
 refine cle rfl rfl (cB _) ?_
 refine sad rfl rfl rfl (by (try simp only [List.length_append,List.length_cons,List.length_nil]); omega) ?_
 refine sad rfl rfl rfl (by (try simp only [List.length_append,List.length_cons,List.length_nil]); omega) ?_
 refine cle rfl rfl vR ?_
 refine goD ?_
 refine cle rfl rfl sL ?_
 refine goD ?_
 refine cle rfl rfl (known_ok _ hT) ?_
 refine goD ?_
 exact AWP.ret (rets rfl (.refl _) (.refl _) rfl)
end Go.Proofs
