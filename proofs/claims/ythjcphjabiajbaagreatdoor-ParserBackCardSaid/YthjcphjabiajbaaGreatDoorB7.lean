/- The text of statements and programs: no more than that it ends, and how long it may be. No conditions: definitions and lemmas only. -/
import Derived.Test.YthjcphjabiajbaaGreatDoorB6
namespace Go.AM
section
variable {P:Program} {n:Nat} {K:Post} {E:EPost} {T:Tmps} {st:St} {ops:Array Oper} {rest:List Oper}
variable {ty:TypeId} {pos:String} {es:Array Edge} {gd:Option (Nat × Bool)} {d:Tmp} {x y:Operand} {dd:Option Tmp}
theorem sadL {t u:TypeId} {a b:List UInt8} (hg:goes ops n T ⟨dd,.binOp .add t x y u,ty,pos,es,gd⟩=some d)
  (hx:ev st T x=some (.str a)) (hy:ev st T y=some (.str b)) (hl:a.length + b.length≤9223372036854775807)
  (h:∀ w:List UInt8,w.length=a.length + b.length→AOps P n ops rest K E ((d,.str w)::T) st):AOps P n ops (⟨dd,.binOp .add t x y u,ty,pos,es,gd⟩::rest) K E T st :=
 sad hg hx hy hl (h (a++b) (List.length_append ..))
end
end Go.AM
namespace Go.Proofs
open Go.AM
attribute [local irreducible] AWP AOps ACalls AAny
set_option linter.unusedSimpArgs false

theorem exprt_ok:∀ d,d≤4→ExprT d
 | 0,_=>fun _ hg=>hg.elim
 | d + 1,h=>exprt_step d (by omega) (exprt_ok d (by omega))
theorem list_ok (rows:List (List AV)) (hg:∀ r ∈ rows,GE 4 r) (hl:rows.length≤4) (k:Go.AM.Tok) (st:St) :
  ACalls Tryz.prog 94 [.view 6 rows k] st (fun v st'=>(∃ w:List UInt8,v=.str w∧w.length≤44000)∧st'=st) (fun _ _=>False):=by
 refine ACalls.ofBody Tryz.func94 rfl Tryz.ntmps94 rfl ?_
 have hE:=eL4 4 (by omega)
 refine goD ?_
 refine AWP.loop (α:=Nat × List UInt8) (fun x=>[(8,.int .i64 (x.1:Int)),(7,.int .i64 (rows.length:Int)),(6,.view 6 rows k),(3,.str x.2)]) (fun _=>st) (fun x=>x.1≤rows.length∧x.2.length≤11000 * x.1) (fun x=>rows.length - x.1)
  (0,[]) ⟨Nat.zero_le _,Nat.zero_le _⟩ (tl4 rfl rfl rfl rfl) (.refl _) ?_
 rintro ⟨i,s⟩ ⟨hi,hs⟩
 simp only at hi hs
 refine AWP.weaken (T':=[(8,.int .i64 (i:Int)),(7,.int .i64 (rows.length:Int)),(6,.view 6 rows k),(3,.str s)]) (tl4 rfl rfl rfl rfl) (.refl _) ?_
 refine goD ?_
 refine AWP.cond_dec rfl (fun h=>AWP.skip ?_) (fun h=>AWP.exit (blk_hit ?_))
 ·have hlt:i < rows.length:=by have:(i:Int) < (rows.length:Int):=h; omega
  obtain ⟨r,hr,hgr⟩:∃ r,rows[i]?=some r∧GE 4 r:=⟨_,List.getElem?_eq_getElem hlt,hg _ (List.getElem_mem hlt)⟩
  obtain ⟨p1,p2,p3,p4,p5,rfl⟩:=GE_row hgr
  refine goD ?_
  refine al rfl rfl fun o ho=>?_
  refine sm rfl ?_
  refine soV rfl rfl rfl rfl rfl rfl ?_
  by_cases h0:(0:Int) < (i:Int)
  ·repeat (first|(refine Go.AM.sadL rfl rfl rfl (by (try simp only [List.length_append,List.length_cons,List.length_nil]); omega) (fun w hw=>?_); try simp only [List.length_append,List.length_cons,List.length_nil] at hw)|refine nl ?_|refine AWP.seq ?_|refine rg ?_|refine YH (z:=?_)|refine ZA (z:=?_)|refine ZE (z:=?_))
   refine cl rfl rfl (exprt_ok 4 (by decide) _ hgr 1 (by decide) (by decide) _) fun v s' ⟨⟨w2,hv,hw2⟩,hs2⟩=>?_
   subst hv hs2
   repeat (first|(refine Go.AM.sadL rfl rfl rfl (by (try simp only [List.length_append,List.length_cons,List.length_nil]); omega) (fun w hw=>?_); try simp only [List.length_append,List.length_cons,List.length_nil] at hw)|refine nl ?_|refine rg ?_|refine ZA (z:=?_)|refine ZO (z:=?_))
   exact ⟨(i + 1,_),⟨hlt,by simp only; omega⟩,by simp only; omega,(tl4 rfl rfl rfl rfl),StLe.new ho (.refl _)⟩
  ·repeat (first|refine nl ?_|refine AWP.seq ?_|refine rg ?_|refine AWP.skip ?_|refine YI (z:=?_)|refine ZA (z:=?_)|refine ZE (z:=?_))
   refine cl rfl rfl (exprt_ok 4 (by decide) _ hgr 1 (by decide) (by decide) _) fun v s' ⟨⟨w2,hv,hw2⟩,hs2⟩=>?_
   subst hv hs2
   repeat (first|(refine Go.AM.sadL rfl rfl rfl (by (try simp only [List.length_append,List.length_cons,List.length_nil]); omega) (fun w hw=>?_); try simp only [List.length_append,List.length_cons,List.length_nil] at hw)|refine nl ?_|refine rg ?_|refine ZA (z:=?_)|refine ZO (z:=?_))
   exact ⟨(i + 1,_),⟨hlt,by simp only; omega⟩,by simp only; omega,(tl4 rfl rfl rfl rfl),StLe.new ho (.refl _)⟩
 ·refine goD ?_
  exact AWP.ret (rets rfl (.refl _) (.refl _) ⟨⟨s,rfl,by omega⟩,rfl⟩)
theorem value_ok (kind len:Int) (name typ fn:List UInt8) (tg body els:AV) (args:List (List AV)) (hf:fn.length≤30) (hg:∀ r ∈ args,GE 4 r) (hl:args.length≤4) (st:St) :
  ACalls Tryz.prog 63 [.agg (stRow kind len name typ fn tg (vw 6 args) body els)] st (fun v st'=>(∃ w:List UInt8,v=.str w∧w.length≤45000)∧st'=st) (fun _ _=>False):=by
 refine ACalls.ofBody Tryz.func63 rfl Tryz.ntmps63 rfl ?_
 refine goD ?_
 refine AWP.cond_dec rfl (fun h=>?_) (fun h=>AWP.skip ?_)
 ·refine goC ?_
  apply AWP.drawI (hm:=rfl) (k:=6) (I:=fun x=>x=st) (hI:=rfl)
  case hok=>rfl
  repeat (first|apply diQ (hd:=rfl) (hw:=rfl) (h:=fun _ _=>ZF (z:=nz))|apply diQ (hd:=rfl) (hw:=rfl) (h:=fun _ _=>ZC (z:=nz)))
  apply diQ (hd:=rfl) (hw:=rfl) (h:=fun _ _=>sad rfl rfl rfl (by simp only [List.length_cons,List.length_nil]; omega) nz)
  repeat (first|apply diQ (hd:=rfl) (hw:=rfl) (h:=fun _ _=>ZF (z:=nz))|apply diQ (hd:=rfl) (hw:=rfl) (h:=fun _ _=>ZC (z:=nz)))
  apply diE (Q:=fun v=>∃ w:List UInt8,v=.str w∧w.length≤44000) (hd:=rfl) (hw:=rfl) (hex:=⟨_,[],rfl,Nat.zero_le _⟩) (h:=fun x hx=>by subst hx; exact cl rfl rfl (list_ok args hg hl _ x) fun v s' hv=>nl ⟨v,rfl,hv⟩)
  rintro v ⟨w,rfl,wl⟩
  refine diN fun s2 hs2=>?_
  subst hs2
  repeat (first|(refine Go.AM.sadL rfl rfl rfl (by (try simp only [List.length_append,List.length_cons,List.length_nil]); omega) (fun w hw=>?_); try simp only [List.length_append,List.length_cons,List.length_nil] at hw)|refine nl ?_|refine ZA (z:=?_))
  exact AWP.ret (rets rfl (.refl _) (.refl _) ⟨⟨_,rfl,by omega⟩,rfl⟩)
 ·refine goD ?_
  refine cl rfl rfl (list_ok args hg hl _ st) fun v s' ⟨⟨w2,hv,hw2⟩,hs2⟩=>?_
  subst hv hs2
  refine goD ?_
  exact AWP.ret (rets rfl (.refl _) (.refl _) ⟨⟨_,rfl,by omega⟩,rfl⟩)
end Go.Proofs
namespace Go.Proofs
open Go.AM
attribute [local irreducible] AWP AOps ACalls AAny
set_option linter.unusedSimpArgs false

def sB:Nat→Nat
 | 0=>0
 | d + 1=>100000 + 120 * sB d
theorem sB4:∀ d,d≤4→sB d≤200000000000
 | 0,_=>by decide
 | 1,_=>by decide
 | 2,_=>by decide
 | 3,_=>by decide
 | 4,_=>by decide
def BlockT (d:Nat):Prop:=∀ (rows:List (List AV)),(∀ r ∈ rows,GS d r)→rows.length≤60→∀ (tabs:List UInt8),tabs.length + d≤10→∀ (k:Go.AM.Tok) (st:St),
 ACalls Tryz.prog 34 [.view 13 rows k,.str tabs] st (fun v st'=>(∃ w:List UInt8,v=.str w∧w.length≤rows.length * sB d)∧st'=st) (fun _ _=>False)
set_option maxRecDepth 4000 in
set_option maxHeartbeats 40000000 in
theorem block_step (d:Nat) (hd:d≤3) (ih:BlockT d):BlockT (d + 1):=by
 intro rows hg hl tabs ht k st
 have hB4:=sB4 d (by omega)
 have e1:sB (d + 1)=100000 + 120 * sB d:=rfl
 have hihb:∀ b:List (List AV),(∀ r ∈ b,GS d r)→b.length≤60→∀ w:List UInt8,w.length + d≤10→∀ k st,ACalls Tryz.prog 34 [.view 13 b k,.str w] st (fun v st'=>(∃ w:List UInt8,v=.str w∧w.length≤60 * sB d)∧st'=st) (fun _ _=>False):=fun b hb hbl w hw k st =>
  (ih b hb hbl w hw k st).mono (fun v s' ⟨⟨w2,h1,h2⟩,h3⟩=>⟨⟨w2,h1,Nat.le_trans h2 (Nat.mul_le_mul_right _ hbl)⟩,h3⟩) (fun _ _ h=>h)
 have hB60:60 * sB d≤12000000000000:=by omega
 generalize hbb:60 * sB d=bb at hihb hB60
 have e2:sB (d + 1)=100000 + 2 * bb:=by omega
 clear e1 hbb ih
 refine ACalls.ofBody Tryz.func34 rfl Tryz.ntmps34 rfl ?_
 refine goD ?_
 refine AWP.loop (α:=Nat × List UInt8) (fun x=>[(12,.int .i64 (x.1:Int)),(11,.int .i64 (rows.length:Int)),(10,.view 13 rows k),(5,.str x.2),(1,.str tabs)]) (fun _=>st) (fun x=>x.1≤rows.length∧x.2.length≤x.1 * sB (d + 1)) (fun x=>rows.length - x.1)
  (0,[]) ⟨Nat.zero_le _,by simp⟩ (tl5 rfl rfl rfl rfl rfl) (.refl _) ?_
 rintro ⟨i,s⟩ ⟨hi,hs⟩
 simp only at hi hs
 refine AWP.weaken (T':=[(12,.int .i64 (i:Int)),(11,.int .i64 (rows.length:Int)),(10,.view 13 rows k),(5,.str s),(1,.str tabs)]) (tl5 rfl rfl rfl rfl rfl) (.refl _) ?_
 have him:i * sB (d + 1)≤60 * (100000 + 2 * bb):=by rw [e2]; exact Nat.mul_le_mul_right _ (by omega)
 have his:(i + 1) * sB (d + 1)=i * sB (d + 1) + (100000 + 2 * bb):=by rw [Nat.add_mul,Nat.one_mul,e2]
 have hsl:s.length≤2000000000000000:=by omega
 have hfin:∀ w:List UInt8,w.length≤s.length + (100000 + 2 * bb)→w.length≤(i + 1) * sB (d + 1):=fun w hw=>by rw [his]; omega
 clear his him e2
 refine goD ?_
 refine AWP.cond_dec rfl (fun h=>AWP.skip ?_) (fun h=>AWP.exit (blk_hit ?_))
 ·have hlt:i < rows.length:=by have:(i:Int) < (rows.length:Int):=h; omega
  obtain ⟨r,hr,hgr⟩:∃ r,rows[i]?=some r∧GS (d + 1) r:=⟨_,List.getElem?_eq_getElem hlt,hg _ (List.getElem_mem hlt)⟩
  obtain ⟨kind,len,name,typ,fn,tg,args,body,els,rfl,q1,q2,q3,q4,q5,q6,q7,q8,q9,q10,q11,q12,q13,q14,q15⟩:=hgr
  have hval:=fun st=>value_ok kind len name typ fn (vw 6 tg) (vw 13 body) (vw 13 els) args q7 q13 q9 st
  refine goD ?_
  refine AWP.cutK (α:=List UInt8) (fun tgt=>[(12,.int .i64 (i:Int)),(11,.int .i64 (rows.length:Int)),(10,.view 13 rows k),(8,.str tgt),(7,.eptr 13 [stRow kind len name typ fn (vw 6 tg) (vw 6 args) (vw 13 body) (vw 13 els)] 0 0),(5,.str s),(1,.str tabs)]) (fun _=>st) (fun w=>w.length≤11000) ?_ ?_
  ·refine AWP.cond_dec rfl (fun h=>?_) (fun h=>AWP.skip ⟨[],by decide,(tl7 rfl rfl rfl rfl rfl rfl rfl),.refl _⟩)
   have htl:0 < tg.length:=by have:(0:Int) < (tg.length:Int):=h; omega
   obtain ⟨r0,hr0,hgr0⟩:∃ r,tg[0]?=some r∧GE 4 r:=⟨_,List.getElem?_eq_getElem htl,q12 _ (List.getElem_mem htl)⟩
   obtain ⟨p1,p2,p3,p4,p5,rfl⟩:=GE_row hgr0
   have hE:=eL4 4 (by omega)
   refine goD ?_
   refine cl rfl rfl (exprt_ok 4 (by decide) _ hgr0 1 (by decide) (by decide) st) fun v s' ⟨⟨w2,hv,hw2⟩,hs2⟩=>?_
   subst hv hs2
   repeat (first|(refine Go.AM.sadL rfl rfl rfl (by (try simp only [List.length_append,List.length_cons,List.length_nil]); omega) (fun w hw=>?_); try simp only [List.length_append,List.length_cons,List.length_nil] at hw)|refine nl ?_|refine ZA (z:=?_))
   exact ⟨_,by omega,(tl7 rfl rfl rfl rfl rfl rfl rfl),.refl _⟩
  intro tgt htgt
  by_cases k1:kind=1
  ·refine goD ?_
   refine AWP.cutK (α:=List UInt8) (fun w9=>[(9,.str w9),(12,.int .i64 (i:Int)),(11,.int .i64 (rows.length:Int)),(10,.view 13 rows k),(8,.str tgt),(7,.eptr 13 [stRow kind len name typ fn (vw 6 tg) (vw 6 args) (vw 13 body) (vw 13 els)] 0 0),(5,.str s),(1,.str tabs)]) (fun _=>st) (fun w=>w.length≤30) ?_ ?_
   ·refine AWP.cond_dec rfl (fun h=>?_) (fun h=>AWP.skip ⟨typ,q6,(tl8 rfl rfl rfl rfl rfl rfl rfl rfl),.refl _⟩)
    refine goD ?_
    exact ⟨_,by decide,(tl8 rfl rfl rfl rfl rfl rfl rfl rfl),.refl _⟩
   intro w9 hw9
   refine goD ?_
   refine AWP.cutK (α:=List UInt8) (fun w9=>[(9,.str w9),(12,.int .i64 (i:Int)),(11,.int .i64 (rows.length:Int)),(10,.view 13 rows k),(8,.str tgt),(7,.eptr 13 [stRow kind len name typ fn (vw 6 tg) (vw 6 args) (vw 13 body) (vw 13 els)] 0 0),(5,.str s),(1,.str tabs)]) (fun _=>st) (fun w=>w.length≤30) ?_ ?_
   ·refine AWP.cond_dec rfl (fun h=>?_) (fun h=>AWP.skip ⟨w9,hw9,(tl8 rfl rfl rfl rfl rfl rfl rfl rfl),.refl _⟩)
    refine goD ?_
    obtain ⟨m,rfl⟩:∃ m:Nat,len=(m:Int):=⟨len.toNat,by omega⟩
    refine cle rfl rfl (digits_ok 18 m (by omega) (by decide) (by decide) st) ?_
    have hdl:=digs_len 18 m
    repeat (first|(refine Go.AM.sadL rfl rfl rfl (by (try simp only [List.length_append,List.length_cons,List.length_nil]); omega) (fun w hw=>?_); try simp only [List.length_append,List.length_cons,List.length_nil] at hw)|refine nl ?_|refine ZA (z:=?_))
    exact ⟨_,by omega,(tl8 rfl rfl rfl rfl rfl rfl rfl rfl),.refl _⟩
   intro w10 hw10
   repeat (first|(refine Go.AM.sadL rfl rfl rfl (by (try simp only [List.length_append,List.length_cons,List.length_nil]); omega) (fun w hw=>?_); try simp only [List.length_append,List.length_cons,List.length_nil] at hw)|refine nl ?_|refine rg ?_|refine ZA (z:=?_)|refine ZC (z:=?_)|refine ZF (z:=?_)|refine ZO (z:=?_))
   exact ⟨(i + 1,_),⟨hlt,hfin _ (by (try simp only); omega)⟩,by simp only; omega,(tl5 rfl rfl rfl rfl rfl),.refl _⟩
  by_cases k2:kind=2∨kind=3
  ·rcases k2 with k2|k2
   ·repeat (first|(refine Go.AM.sadL rfl rfl rfl (by (try simp only [List.length_append,List.length_cons,List.length_nil]); omega) (fun w hw=>?_); try simp only [List.length_append,List.length_cons,List.length_nil] at hw)|refine nl ?_|refine AWP.seq ?_|refine rg ?_|refine AWP.skip ?_|refine AWP.block ?_|refine YH (z:=?_)|refine YI (z:=?_)|refine ZA (z:=?_)|refine ZC (z:=?_)|refine ZD (z:=?_)|refine ZF (z:=?_))
    refine cl rfl rfl (hval st) fun v s' ⟨⟨wv,hv,hwv⟩,hs2⟩=>?_
    subst hv hs2
    repeat (first|(refine Go.AM.sadL rfl rfl rfl (by (try simp only [List.length_append,List.length_cons,List.length_nil]); omega) (fun w hw=>?_); try simp only [List.length_append,List.length_cons,List.length_nil] at hw)|refine nl ?_|refine rg ?_|refine ZA (z:=?_)|refine ZO (z:=?_))
    exact ⟨(i + 1,_),⟨hlt,hfin _ (by (try simp only); omega)⟩,by simp only; omega,(tl5 rfl rfl rfl rfl rfl),.refl _⟩
   ·repeat (first|(refine Go.AM.sadL rfl rfl rfl (by (try simp only [List.length_append,List.length_cons,List.length_nil]); omega) (fun w hw=>?_); try simp only [List.length_append,List.length_cons,List.length_nil] at hw)|refine nl ?_|refine AWP.seq ?_|refine rg ?_|refine AWP.block ?_|refine YH (z:=?_)|refine YI (z:=?_)|refine ZA (z:=?_)|refine ZC (z:=?_)|refine ZD (z:=?_)|refine ZF (z:=?_))
    refine cl rfl rfl (hval st) fun v s' ⟨⟨wv,hv,hwv⟩,hs2⟩=>?_
    subst hv hs2
    repeat (first|(refine Go.AM.sadL rfl rfl rfl (by (try simp only [List.length_append,List.length_cons,List.length_nil]); omega) (fun w hw=>?_); try simp only [List.length_append,List.length_cons,List.length_nil] at hw)|refine nl ?_|refine rg ?_|refine ZA (z:=?_)|refine ZO (z:=?_))
    exact ⟨(i + 1,_),⟨hlt,hfin _ (by (try simp only); omega)⟩,by simp only; omega,(tl5 rfl rfl rfl rfl rfl),.refl _⟩
  by_cases k6:kind=6
  ·repeat (first|(refine Go.AM.sadL rfl rfl rfl (by (try simp only [List.length_append,List.length_cons,List.length_nil]); omega) (fun w hw=>?_); try simp only [List.length_append,List.length_cons,List.length_nil] at hw)|refine nl ?_|refine AWP.seq ?_|refine rg ?_|refine AWP.block ?_|refine YH (z:=?_)|refine YI (z:=?_)|refine ZA (z:=?_)|refine ZC (z:=?_)|refine ZD (z:=?_)|refine ZF (z:=?_))
   refine cl rfl rfl (hval st) fun v s' ⟨⟨wv,hv,hwv⟩,hs2⟩=>?_
   subst hv hs2
   repeat (first|(refine Go.AM.sadL rfl rfl rfl (by (try simp only [List.length_append,List.length_cons,List.length_nil]); omega) (fun w hw=>?_); try simp only [List.length_append,List.length_cons,List.length_nil] at hw)|refine nl ?_|refine rg ?_|refine ZA (z:=?_)|refine ZO (z:=?_))
   exact ⟨(i + 1,_),⟨hlt,hfin _ (by (try simp only); omega)⟩,by simp only; omega,(tl5 rfl rfl rfl rfl rfl),.refl _⟩
  by_cases k7:kind=7
  ·repeat (first|(refine Go.AM.sadL rfl rfl rfl (by (try simp only [List.length_append,List.length_cons,List.length_nil]); omega) (fun w hw=>?_); try simp only [List.length_append,List.length_cons,List.length_nil] at hw)|refine nl ?_|refine AWP.seq ?_|refine rg ?_|refine AWP.block ?_|refine YH (z:=?_)|refine YI (z:=?_)|refine ZA (z:=?_)|refine ZC (z:=?_)|refine ZD (z:=?_)|refine ZF (z:=?_))
   refine cl rfl rfl (hval st) fun v s' ⟨⟨wv,hv,hwv⟩,hs2⟩=>?_
   subst hv hs2
   repeat (first|(refine Go.AM.sadL rfl rfl rfl (by (try simp only [List.length_append,List.length_cons,List.length_nil]); omega) (fun w hw=>?_); try simp only [List.length_append,List.length_cons,List.length_nil] at hw)|refine nl ?_|refine rg ?_|refine ZA (z:=?_)|refine ZO (z:=?_))
   exact ⟨(i + 1,_),⟨hlt,hfin _ (by (try simp only); omega)⟩,by simp only; omega,(tl5 rfl rfl rfl rfl rfl),.refl _⟩
  by_cases k9:kind=9
  ·repeat (first|(refine Go.AM.sadL rfl rfl rfl (by (try simp only [List.length_append,List.length_cons,List.length_nil]); omega) (fun w hw=>?_); try simp only [List.length_append,List.length_cons,List.length_nil] at hw)|refine nl ?_|refine AWP.seq ?_|refine rg ?_|refine AWP.block ?_|refine YH (z:=?_)|refine YI (z:=?_)|refine ZA (z:=?_)|refine ZC (z:=?_)|refine ZD (z:=?_)|refine ZF (z:=?_))
   refine cl rfl rfl (hval st) fun v s' ⟨⟨wv,hv,hwv⟩,hs2⟩=>?_
   subst hv hs2
   repeat (first|(refine Go.AM.sadL rfl rfl rfl (by (try simp only [List.length_append,List.length_cons,List.length_nil]); omega) (fun w hw=>?_); try simp only [List.length_append,List.length_cons,List.length_nil] at hw)|refine nl ?_|refine rg ?_|refine ZA (z:=?_)|refine ZO (z:=?_))
   exact ⟨(i + 1,_),⟨hlt,hfin _ (by (try simp only); omega)⟩,by simp only; omega,(tl5 rfl rfl rfl rfl rfl),.refl _⟩
  by_cases k4:kind=4
  ·refine goD ?_
   apply AWP.drawI (hm:=rfl) (k:=13) (I:=fun x=>x=st) (hI:=rfl)
   case hok=>rfl
   repeat (apply diQ (hd:=rfl) (hw:=rfl) (h:=fun _ _=>ZA (z:=nz)))
   apply diQ (hd:=rfl) (hw:=rfl) (h:=fun _ _=>sad rfl rfl rfl (by (try simp only [List.length_append,List.length_cons,List.length_nil]); omega) nz)
   skip
   apply diQ (hd:=rfl) (hw:=rfl) (h:=fun _ _=>sad rfl rfl rfl (by (try simp only [List.length_append,List.length_cons,List.length_nil]); omega) nz)
   repeat (apply diQ (hd:=rfl) (hw:=rfl) (h:=fun _ _=>ZD (z:=nz)))
   apply diE (Q:=fun v=>∃ w:List UInt8,v=.str w∧w.length≤45000) (hd:=rfl) (hw:=rfl) (hex:=⟨_,[],rfl,Nat.zero_le _⟩) (h:=fun x hx=>by subst hx; exact cl rfl rfl (hval x) fun v s' hv=>nl ⟨v,rfl,hv⟩)
   rintro v ⟨w,rfl,hw⟩
   apply diE (Q:=fun v=>∃ w:List UInt8,v=.str w∧w.length≤s.length + tabs.length + 45010) (hd:=rfl) (hw:=rfl) (hex:=⟨_,[],rfl,Nat.zero_le _⟩) (h:=fun x hx=>sad rfl rfl rfl (by (try simp only [List.length_append,List.length_cons,List.length_nil]); omega) (nl ⟨_,rfl,⟨_,rfl,(by (try simp only [List.length_append,List.length_cons,List.length_nil]); omega)⟩,hx⟩))
   rintro v ⟨w,rfl,hw⟩
   apply diE (Q:=fun v=>∃ w:List UInt8,v=.str w∧w.length≤s.length + tabs.length + 45020) (hd:=rfl) (hw:=rfl) (hex:=⟨_,[],rfl,Nat.zero_le _⟩) (h:=fun x hx=>sad rfl rfl rfl (by (try simp only [List.length_append,List.length_cons,List.length_nil]); omega) (nl ⟨_,rfl,⟨_,rfl,(by (try simp only [List.length_append,List.length_cons,List.length_nil]); omega)⟩,hx⟩))
   rintro v ⟨w,rfl,hw⟩
   repeat (first|apply diQ (hd:=rfl) (hw:=rfl) (h:=fun _ _=>ZA (z:=nz))|apply diQ (hd:=rfl) (hw:=rfl) (h:=fun _ _=>ZF (z:=nz))|apply diQ (hd:=rfl) (hw:=rfl) (h:=fun _ _=>ZC (z:=nz)))
   apply diQ (hd:=rfl) (hw:=rfl) (h:=fun _ _=>sad rfl rfl rfl (by (try simp only [List.length_append,List.length_cons,List.length_nil]); omega) nz)
   skip
   apply diE (Q:=fun v=>∃ w:List UInt8,v=.str w∧w.length≤bb) (hd:=rfl) (hw:=rfl) (hex:=⟨_,[],rfl,Nat.zero_le _⟩) (h:=fun x hx=>by subst hx; exact cl rfl rfl (hihb body q14 q10 _ (by (try simp only [List.length_append,List.length_cons,List.length_nil]); omega) _ x) fun v s' hv=>nl ⟨v,rfl,hv⟩)
   rintro v ⟨w,rfl,hw⟩
   refine diN fun s2 hs2=>?_
   subst hs2
   repeat (first|(refine Go.AM.sadL rfl rfl rfl (by (try simp only [List.length_append,List.length_cons,List.length_nil]); omega) (fun w hw=>?_); try simp only [List.length_append,List.length_cons,List.length_nil] at hw)|refine nl ?_|refine AWP.seq ?_|refine rg ?_|refine ZA (z:=?_)|refine ZC (z:=?_)|refine ZF (z:=?_)|refine ZJ (z:=?_))
   rename_i w5 hw5
   refine AWP.cutK (α:=List UInt8) (fun s=>[(12,.int .i64 (i:Int)),(11,.int .i64 (rows.length:Int)),(10,.view 13 rows k),(8,.str tgt),(7,.eptr 13 [stRow kind len name typ fn (vw 6 tg) (vw 6 args) (vw 13 body) (vw 13 els)] 0 0),(5,.str s),(1,.str tabs)]) (fun _=>s2) (fun w=>w.length≤s.length + 2 * tabs.length + 50000 + 2 * bb) ?_ ?_
   ·refine AWP.cond_dec rfl (fun h=>?_) (fun h=>AWP.skip ⟨_,?_,(tl7 rfl rfl rfl rfl rfl rfl rfl),.refl _⟩)
    ·repeat (first|(refine Go.AM.sadL rfl rfl rfl (by (try simp only [List.length_append,List.length_cons,List.length_nil]); omega) (fun w hw=>?_); try simp only [List.length_append,List.length_cons,List.length_nil] at hw)|refine rg ?_|refine ZA (z:=?_)|refine ZC (z:=?_)|refine ZF (z:=?_))
     refine cl rfl rfl (hihb els q15 q11 _ (by omega) _ s2) fun v s' ⟨⟨wv,hv,hwv⟩,hs2⟩=>?_
     subst hv hs2
     repeat (first|(refine Go.AM.sadL rfl rfl rfl (by (try simp only [List.length_append,List.length_cons,List.length_nil]); omega) (fun w hw=>?_); try simp only [List.length_append,List.length_cons,List.length_nil] at hw)|refine nl ?_|refine ZA (z:=?_))
     exact ⟨_,by omega,(tl7 rfl rfl rfl rfl rfl rfl rfl),.refl _⟩
    ·omega
   intro s9 hs9
   repeat (first|(refine Go.AM.sadL rfl rfl rfl (by (try simp only [List.length_append,List.length_cons,List.length_nil]); omega) (fun w hw=>?_); try simp only [List.length_append,List.length_cons,List.length_nil] at hw)|refine nl ?_|refine rg ?_|refine ZA (z:=?_)|refine ZO (z:=?_))
   exact ⟨(i + 1,_),⟨hlt,hfin _ (by (try simp only); omega)⟩,by simp only; omega,(tl5 rfl rfl rfl rfl rfl),.refl _⟩
  by_cases k5:kind=5
  ·refine goD ?_
   apply AWP.drawI (hm:=rfl) (k:=15) (I:=fun x=>x=st) (hI:=rfl)
   case hok=>rfl
   repeat (apply diQ (hd:=rfl) (hw:=rfl) (h:=fun _ _=>ZA (z:=nz)))
   apply diQ (hd:=rfl) (hw:=rfl) (h:=fun _ _=>sad rfl rfl rfl (by (try simp only [List.length_append,List.length_cons,List.length_nil]); omega) nz)
   skip
   apply diQ (hd:=rfl) (hw:=rfl) (h:=fun _ _=>sad rfl rfl rfl (by (try simp only [List.length_append,List.length_cons,List.length_nil]); omega) nz)
   repeat (apply diQ (hd:=rfl) (hw:=rfl) (h:=fun _ _=>ZD (z:=nz)))
   apply diE (Q:=fun v=>∃ w:List UInt8,v=.str w∧w.length≤45000) (hd:=rfl) (hw:=rfl) (hex:=⟨_,[],rfl,Nat.zero_le _⟩) (h:=fun x hx=>by subst hx; exact cl rfl rfl (hval x) fun v s' hv=>nl ⟨v,rfl,hv⟩)
   rintro v ⟨w,rfl,hw⟩
   apply diE (Q:=fun v=>∃ w:List UInt8,v=.str w∧w.length≤s.length + tabs.length + 45010) (hd:=rfl) (hw:=rfl) (hex:=⟨_,[],rfl,Nat.zero_le _⟩) (h:=fun x hx=>sad rfl rfl rfl (by (try simp only [List.length_append,List.length_cons,List.length_nil]); omega) (nl ⟨_,rfl,⟨_,rfl,(by (try simp only [List.length_append,List.length_cons,List.length_nil]); omega)⟩,hx⟩))
   rintro v ⟨w,rfl,hw⟩
   apply diE (Q:=fun v=>∃ w:List UInt8,v=.str w∧w.length≤s.length + tabs.length + 45020) (hd:=rfl) (hw:=rfl) (hex:=⟨_,[],rfl,Nat.zero_le _⟩) (h:=fun x hx=>sad rfl rfl rfl (by (try simp only [List.length_append,List.length_cons,List.length_nil]); omega) (nl ⟨_,rfl,⟨_,rfl,(by (try simp only [List.length_append,List.length_cons,List.length_nil]); omega)⟩,hx⟩))
   rintro v ⟨w,rfl,hw⟩
   repeat (first|apply diQ (hd:=rfl) (hw:=rfl) (h:=fun _ _=>ZA (z:=nz))|apply diQ (hd:=rfl) (hw:=rfl) (h:=fun _ _=>ZF (z:=nz))|apply diQ (hd:=rfl) (hw:=rfl) (h:=fun _ _=>ZC (z:=nz)))
   apply diQ (hd:=rfl) (hw:=rfl) (h:=fun _ _=>sad rfl rfl rfl (by (try simp only [List.length_append,List.length_cons,List.length_nil]); omega) nz)
   skip
   apply diE (Q:=fun v=>∃ w:List UInt8,v=.str w∧w.length≤bb) (hd:=rfl) (hw:=rfl) (hex:=⟨_,[],rfl,Nat.zero_le _⟩) (h:=fun x hx=>by subst hx; exact cl rfl rfl (hihb body q14 q10 _ (by (try simp only [List.length_append,List.length_cons,List.length_nil]); omega) _ x) fun v s' hv=>nl ⟨v,rfl,hv⟩)
   rintro v ⟨w,rfl,hw⟩
   apply diE (Q:=fun v=>∃ w:List UInt8,v=.str w∧w.length≤s.length + tabs.length + 45020 + bb) (hd:=rfl) (hw:=rfl) (hex:=⟨_,[],rfl,Nat.zero_le _⟩) (h:=fun x hx=>sad rfl rfl rfl (by (try simp only [List.length_append,List.length_cons,List.length_nil]); omega) (nl ⟨_,rfl,⟨_,rfl,(by (try simp only [List.length_append,List.length_cons,List.length_nil]); omega)⟩,hx⟩))
   rintro v ⟨w,rfl,hw⟩
   repeat (apply diQ (hd:=rfl) (hw:=rfl) (h:=fun _ _=>ZA (z:=nz)))
   refine diN fun s2 hs2=>?_
   subst hs2
   repeat (first|(refine Go.AM.sadL rfl rfl rfl (by (try simp only [List.length_append,List.length_cons,List.length_nil]); omega) (fun w hw=>?_); try simp only [List.length_append,List.length_cons,List.length_nil] at hw)|refine nl ?_|refine rg ?_|refine ZA (z:=?_)|refine ZO (z:=?_))
   exact ⟨(i + 1,_),⟨hlt,hfin _ (by (try simp only); omega)⟩,by simp only; omega,(tl5 rfl rfl rfl rfl rfl),.refl _⟩
  by_cases k8:kind=8
  ·refine goD ?_
   apply AWP.drawI (hm:=rfl) (k:=24) (I:=fun x=>x=st) (hI:=rfl)
   case hok=>rfl
   repeat (apply diQ (hd:=rfl) (hw:=rfl) (h:=fun _ _=>ZA (z:=nz)))
   apply diQ (hd:=rfl) (hw:=rfl) (h:=fun _ _=>sad rfl rfl rfl (by (try simp only [List.length_append,List.length_cons,List.length_nil]); omega) nz)
   skip
   apply diQ (hd:=rfl) (hw:=rfl) (h:=fun _ _=>sad rfl rfl rfl (by (try simp only [List.length_append,List.length_cons,List.length_nil]); omega) nz)
   repeat (first|apply diQ (hd:=rfl) (hw:=rfl) (h:=fun _ _=>ZA (z:=nz))|apply diQ (hd:=rfl) (hw:=rfl) (h:=fun _ _=>ZF (z:=nz))|apply diQ (hd:=rfl) (hw:=rfl) (h:=fun _ _=>ZC (z:=nz)))
   apply diQ (hd:=rfl) (hw:=rfl) (h:=fun _ _=>sad rfl rfl rfl (by (try simp only [List.length_append,List.length_cons,List.length_nil]); omega) nz)
   skip
   apply diE (Q:=fun v=>∃ w:List UInt8,v=.str w∧w.length≤bb) (hd:=rfl) (hw:=rfl) (hex:=⟨_,[],rfl,Nat.zero_le _⟩) (h:=fun x hx=>by subst hx; exact cl rfl rfl (hihb body q14 q10 _ (by (try simp only [List.length_append,List.length_cons,List.length_nil]); omega) _ x) fun v s' hv=>nl ⟨v,rfl,hv⟩)
   rintro v ⟨w,rfl,hw⟩
   apply diE (Q:=fun v=>∃ w:List UInt8,v=.str w∧w.length≤s.length + tabs.length + 10 + bb) (hd:=rfl) (hw:=rfl) (hex:=⟨_,[],rfl,Nat.zero_le _⟩) (h:=fun x hx=>sad rfl rfl rfl (by (try simp only [List.length_append,List.length_cons,List.length_nil]); omega) (nl ⟨_,rfl,⟨_,rfl,(by (try simp only [List.length_append,List.length_cons,List.length_nil]); omega)⟩,hx⟩))
   rintro v ⟨w,rfl,hw⟩
   repeat (apply diQ (hd:=rfl) (hw:=rfl) (h:=fun _ _=>ZA (z:=nz)))
   apply diE (Q:=fun v=>∃ w:List UInt8,v=.str w∧w.length≤s.length + 2 * tabs.length + 10 + bb) (hd:=rfl) (hw:=rfl) (hex:=⟨_,[],rfl,Nat.zero_le _⟩) (h:=fun x hx=>sad rfl rfl rfl (by (try simp only [List.length_append,List.length_cons,List.length_nil]); omega) (nl ⟨_,rfl,⟨_,rfl,(by (try simp only [List.length_append,List.length_cons,List.length_nil]); omega)⟩,hx⟩))
   rintro v ⟨w,rfl,hw⟩
   apply diE (Q:=fun v=>∃ w:List UInt8,v=.str w∧w.length≤s.length + 2 * tabs.length + 30 + bb) (hd:=rfl) (hw:=rfl) (hex:=⟨_,[],rfl,Nat.zero_le _⟩) (h:=fun x hx=>sad rfl rfl rfl (by (try simp only [List.length_append,List.length_cons,List.length_nil]); omega) (nl ⟨_,rfl,⟨_,rfl,(by (try simp only [List.length_append,List.length_cons,List.length_nil]); omega)⟩,hx⟩))
   rintro v ⟨w,rfl,hw⟩
   repeat (first|apply diQ (hd:=rfl) (hw:=rfl) (h:=fun _ _=>ZF (z:=nz))|apply diQ (hd:=rfl) (hw:=rfl) (h:=fun _ _=>ZC (z:=nz)))
   apply diE (Q:=fun v=>∃ w:List UInt8,v=.str w∧w.length≤s.length + 2 * tabs.length + 70 + bb) (hd:=rfl) (hw:=rfl) (hex:=⟨_,[],rfl,Nat.zero_le _⟩) (h:=fun x hx=>sad rfl rfl rfl (by (try simp only [List.length_append,List.length_cons,List.length_nil]); omega) (nl ⟨_,rfl,⟨_,rfl,(by (try simp only [List.length_append,List.length_cons,List.length_nil]); omega)⟩,hx⟩))
   rintro v ⟨w,rfl,hw⟩
   apply diE (Q:=fun v=>∃ w:List UInt8,v=.str w∧w.length≤s.length + 2 * tabs.length + 90 + bb) (hd:=rfl) (hw:=rfl) (hex:=⟨_,[],rfl,Nat.zero_le _⟩) (h:=fun x hx=>sad rfl rfl rfl (by (try simp only [List.length_append,List.length_cons,List.length_nil]); omega) (nl ⟨_,rfl,⟨_,rfl,(by (try simp only [List.length_append,List.length_cons,List.length_nil]); omega)⟩,hx⟩))
   rintro v ⟨w,rfl,hw⟩
   repeat (first|apply diQ (hd:=rfl) (hw:=rfl) (h:=fun _ _=>ZA (z:=nz))|apply diQ (hd:=rfl) (hw:=rfl) (h:=fun _ _=>ZF (z:=nz))|apply diQ (hd:=rfl) (hw:=rfl) (h:=fun _ _=>ZC (z:=nz)))
   apply diQ (hd:=rfl) (hw:=rfl) (h:=fun _ _=>sad rfl rfl rfl (by (try simp only [List.length_append,List.length_cons,List.length_nil]); omega) nz)
   skip
   apply diE (Q:=fun v=>∃ w:List UInt8,v=.str w∧w.length≤bb) (hd:=rfl) (hw:=rfl) (hex:=⟨_,[],rfl,Nat.zero_le _⟩) (h:=fun x hx=>by subst hx; exact cl rfl rfl (hihb els q15 q11 _ (by (try simp only [List.length_append,List.length_cons,List.length_nil]); omega) _ x) fun v s' hv=>nl ⟨v,rfl,hv⟩)
   rintro v ⟨w,rfl,hw⟩
   apply diE (Q:=fun v=>∃ w:List UInt8,v=.str w∧w.length≤s.length + 2 * tabs.length + 90 + 2 * bb) (hd:=rfl) (hw:=rfl) (hex:=⟨_,[],rfl,Nat.zero_le _⟩) (h:=fun x hx=>sad rfl rfl rfl (by (try simp only [List.length_append,List.length_cons,List.length_nil]); omega) (nl ⟨_,rfl,⟨_,rfl,(by (try simp only [List.length_append,List.length_cons,List.length_nil]); omega)⟩,hx⟩))
   rintro v ⟨w,rfl,hw⟩
   repeat (apply diQ (hd:=rfl) (hw:=rfl) (h:=fun _ _=>ZA (z:=nz)))
   refine diN fun s2 hs2=>?_
   subst hs2
   repeat (first|(refine Go.AM.sadL rfl rfl rfl (by (try simp only [List.length_append,List.length_cons,List.length_nil]); omega) (fun w hw=>?_); try simp only [List.length_append,List.length_cons,List.length_nil] at hw)|refine nl ?_|refine rg ?_|refine ZA (z:=?_)|refine ZO (z:=?_))
   exact ⟨(i + 1,_),⟨hlt,hfin _ (by (try simp only); omega)⟩,by simp only; omega,(tl5 rfl rfl rfl rfl rfl),.refl _⟩
  refine goD ?_
  exact ⟨(i + 1,s),⟨hlt,hfin _ (by (try simp only); omega)⟩,by simp only; omega,(tl5 rfl rfl rfl rfl rfl),.refl _⟩
 ·refine goD ?_
  exact AWP.ret (rets rfl (.refl _) (.refl _) ⟨⟨s,rfl,Nat.le_trans hs (Nat.mul_le_mul_right _ hi)⟩,rfl⟩)
end Go.Proofs
namespace Go.Proofs
open Go.AM
attribute [local irreducible] AWP AOps ACalls AAny
set_option linter.unusedSimpArgs false

theorem block_ok:∀ d,d≤4→BlockT d
 | 0,_=>fun rows hg hl tabs ht k st=>by
  have:rows=[]:=by
   cases rows with
   | nil=>rfl
   | cons r rs=>exact (hg r (List.mem_cons_self ..)).elim
  subst this
  refine ACalls.ofBody Tryz.func34 rfl Tryz.ntmps34 rfl ?_
  refine goD ?_
  refine AWP.loop (α:=Unit) (fun _=>[(12,.int .i64 0),(11,.int .i64 0),(5,.str [])]) (fun _=>st) (fun _=>True) (fun _=>0) () trivial (tl3 rfl rfl rfl) (.refl _) ?_
  intro _ _
  refine goD ?_
  refine AWP.exit (blk_hit ?_)
  refine goD ?_
  exact AWP.ret (rets rfl (.refl _) (.refl _) ⟨⟨[],rfl,Nat.zero_le _⟩,rfl⟩)
 | d + 1,h=>block_step d (by omega) (block_ok d (by omega))
set_option maxHeartbeats 4000000 in
theorem print_ok (rows:List (List AV)) (hl:rows.length≤4) (hg:∀ r ∈ rows,GF r) (st:St) :
  ACalls Tryz.prog 17 [.agg [recV,vw 4 rows]] st (fun v st'=>(∃ w:List UInt8,v=.str w∧w.length≤100000000000000)∧st'=st) (fun _ _=>False):=by
 refine ACalls.ofBody Tryz.func17 rfl Tryz.ntmps17 rfl ?_
 refine goD ?_
 ·refine AWP.loop (α:=Nat × List UInt8) (fun x=>[(11,.int .i64 (x.1:Int)),(10,.int .i64 1),(9,recV),(3,.str x.2),(1,.eptr 2 [[recV,vw 4 rows]] 0 0)]) (fun _=>st) (fun x=>x.1≤1∧x.2.length≤x.1 * 1000) (fun x=>1 - x.1) (0,[]) ⟨Nat.zero_le _,Nat.zero_le _⟩ (tl5 rfl rfl rfl rfl rfl) (.refl _) ?_
  rintro ⟨i,s⟩ ⟨hi,hs⟩
  simp only at hi hs
  refine AWP.weaken (T':=[(11,.int .i64 (i:Int)),(10,.int .i64 1),(9,recV),(3,.str s),(1,.eptr 2 [[recV,vw 4 rows]] 0 0)]) (tl5 rfl rfl rfl rfl rfl) (.refl _) ?_
  refine goD ?_
  refine AWP.cond_dec rfl (fun h=>AWP.skip ?_) (fun h=>AWP.exit (blk_hit ?_))
  ·have hlt:i < 1:=by have:(i:Int) < 1:=h; omega
   obtain rfl:i=0:=by omega
   obtain rfl:s=[]:=List.eq_nil_of_length_eq_zero (by omega)
   refine goC ?_
   refine rg ?_
   refine ix (m:=0) rfl rfl rfl rfl (Nat.le_refl _) ?_
   refine goD ?_
   apply AWP.drawI (hm:=rfl) (k:=9) (I:=fun x=>x=st) (hI:=rfl)
   case hok=>rfl
   repeat (apply diQ (hd:=rfl) (hw:=rfl) (h:=fun _ _=>ZA (z:=nz)))
   apply diQ (hd:=rfl) (hw:=rfl) (h:=fun _ _=>sad rfl rfl rfl (by (try simp only [List.length_append,List.length_cons,List.length_nil]); omega) nz)
   repeat (first|apply diQ (hd:=rfl) (hw:=rfl) (h:=fun _ _=>ZF (z:=nz))|apply diQ (hd:=rfl) (hw:=rfl) (h:=fun _ _=>ZC (z:=nz)))
   apply diQ (hd:=rfl) (hw:=rfl) (h:=fun _ _=>sad rfl rfl rfl (by (try simp only [List.length_append,List.length_cons,List.length_nil]); omega) nz)
   apply diQ (hd:=rfl) (hw:=rfl) (h:=fun _ _=>sad rfl rfl rfl (by (try simp only [List.length_append,List.length_cons,List.length_nil]); omega) nz)
   repeat (first|apply diQ (hd:=rfl) (hw:=rfl) (h:=fun _ _=>ZF (z:=nz))|apply diQ (hd:=rfl) (hw:=rfl) (h:=fun _ _=>ZC (z:=nz)))
   apply diE (Q:=fun v=>∃ w:List UInt8,v=.str w∧w.length≤80) (hd:=rfl) (hw:=rfl) (hex:=⟨_,[],rfl,Nat.zero_le _⟩) (h:=fun x hx=>by subst hx; exact cl rfl rfl (words_ok [[120],[121]] (by intro s hs; simp only [List.mem_cons,List.not_mem_nil,or_false] at hs; rcases hs with rfl|rfl <;> decide) (by decide) _ x) fun v s' hv=>nl ⟨v,rfl,hv⟩)
   rintro v ⟨w,rfl,hw⟩
   refine diN fun s2 hs2=>?_
   subst hs2
   repeat (first|(refine Go.AM.sadL rfl rfl rfl (by (try simp only [List.length_append,List.length_cons,List.length_nil]); omega) (fun w hw=>?_); try simp only [List.length_append,List.length_cons,List.length_nil] at hw)|refine nl ?_|refine rg ?_|refine ZA (z:=?_)|refine ZO (z:=?_))
   exact ⟨(1,_),⟨Nat.le_refl _,by (try simp only); omega⟩,by simp only; omega,(tl5 rfl rfl rfl rfl rfl),.refl _⟩
  ·refine AWP.weaken (T':=[(3,.str s),(1,.eptr 2 [[recV,vw 4 rows]] 0 0)]) (tl2 rfl rfl) (.refl _) ?_
   obtain ⟨s0,hs00,hs0⟩:∃ s0:List UInt8,s0=s∧s0.length≤1000:=⟨s,rfl,by omega⟩
   rw [← hs00]
   clear hs00 hs hi h
   refine goD ?_
   refine AWP.loop (α:=Nat × List UInt8) (fun x=>[(30,.int .i64 (x.1:Int)),(29,.int .i64 (rows.length:Int)),(28,vw 4 rows),(3,.str x.2)]) (fun _=>st) (fun x=>x.1≤rows.length∧x.2.length≤1000 + x.1 * 13000000000000) (fun x=>rows.length - x.1) (0,s0) ⟨Nat.zero_le _,by simp only; omega⟩ (tl4 rfl rfl rfl rfl) (.refl _) ?_
   rintro ⟨i,s⟩ ⟨hi,hs⟩
   simp only at hi hs
   refine AWP.weaken (T':=[(30,.int .i64 (i:Int)),(29,.int .i64 (rows.length:Int)),(28,vw 4 rows),(3,.str s)]) (tl4 rfl rfl rfl rfl) (.refl _) ?_
   refine goD ?_
   refine AWP.cond_dec rfl (fun h=>AWP.skip ?_) (fun h=>AWP.exit (blk_hit ?_))
   ·have hlt:i < rows.length:=by have:(i:Int) < (rows.length:Int):=h; omega
    obtain ⟨r,hr,hgr⟩:∃ r,rows[i]?=some r∧GF r:=⟨_,List.getElem?_eq_getElem hlt,hg _ (List.getElem_mem hlt)⟩
    obtain ⟨name,params,body,rfl,h1,h2,h3,h4,h5⟩:=hgr
    refine goC ?_
    refine rg ?_
    refine ix (m:=i) rfl rfl rfl rfl hlt ?_
    refine goD ?_
    apply AWP.drawI (hm:=rfl) (k:=14) (I:=fun x=>x=st) (hI:=rfl)
    case hok=>rfl
    repeat (apply diQ (hd:=rfl) (hw:=rfl) (h:=fun _ _=>ZA (z:=nz)))
    apply diQ (hd:=rfl) (hw:=rfl) (h:=fun _ _=>sad rfl rfl rfl (by (try simp only [List.length_append,List.length_cons,List.length_nil]); omega) nz)
    repeat (first|apply diQ (hd:=rfl) (hw:=rfl) (h:=fun _ _=>ZF (z:=nz))|apply diQ (hd:=rfl) (hw:=rfl) (h:=fun _ _=>ZC (z:=nz)))
    apply diQ (hd:=rfl) (hw:=rfl) (h:=fun _ _=>sad rfl rfl rfl (by (try simp only [List.length_append,List.length_cons,List.length_nil]); omega) nz)
    apply diQ (hd:=rfl) (hw:=rfl) (h:=fun _ _=>sad rfl rfl rfl (by (try simp only [List.length_append,List.length_cons,List.length_nil]); omega) nz)
    repeat (first|apply diQ (hd:=rfl) (hw:=rfl) (h:=fun _ _=>ZF (z:=nz))|apply diQ (hd:=rfl) (hw:=rfl) (h:=fun _ _=>ZC (z:=nz)))
    apply diE (Q:=fun v=>∃ w:List UInt8,v=.str w∧w.length≤160) (hd:=rfl) (hw:=rfl) (hex:=⟨_,[],rfl,Nat.zero_le _⟩) (h:=fun x hx=>by subst hx; exact cl rfl rfl ((words_ok params h3 (by omega) _ x).mono (fun v s' ⟨⟨w,q1,q2⟩,q3⟩=>⟨⟨w,q1,by omega⟩,q3⟩) (fun _ _ h=>h)) fun v s' hv=>nl ⟨v,rfl,hv⟩)
    rintro v ⟨w,rfl,hw⟩
    apply diE (Q:=fun v=>∃ w:List UInt8,v=.str w∧w.length≤s.length + 300) (hd:=rfl) (hw:=rfl) (hex:=⟨_,[],rfl,Nat.zero_le _⟩) (h:=fun x hx=>sad rfl rfl rfl (by (try simp only [List.length_append,List.length_cons,List.length_nil]); omega) (nl ⟨_,rfl,⟨_,rfl,(by (try simp only [List.length_append,List.length_cons,List.length_nil]); omega)⟩,hx⟩))
    rintro v ⟨w,rfl,hw⟩
    apply diE (Q:=fun v=>∃ w:List UInt8,v=.str w∧w.length≤s.length + 320) (hd:=rfl) (hw:=rfl) (hex:=⟨_,[],rfl,Nat.zero_le _⟩) (h:=fun x hx=>sad rfl rfl rfl (by (try simp only [List.length_append,List.length_cons,List.length_nil]); omega) (nl ⟨_,rfl,⟨_,rfl,(by (try simp only [List.length_append,List.length_cons,List.length_nil]); omega)⟩,hx⟩))
    rintro v ⟨w,rfl,hw⟩
    repeat (first|apply diQ (hd:=rfl) (hw:=rfl) (h:=fun _ _=>ZF (z:=nz))|apply diQ (hd:=rfl) (hw:=rfl) (h:=fun _ _=>ZC (z:=nz)))
    apply diE (Q:=fun v=>∃ w:List UInt8,v=.str w∧w.length≤12000000000000) (hd:=rfl) (hw:=rfl) (hex:=⟨_,[],rfl,Nat.zero_le _⟩) (h:=fun x hx=>by subst hx; exact cl rfl rfl ((block_ok 4 (by decide) body h5 h4 [9] (by decide) _ x).mono (fun v s' ⟨⟨w,q1,q2⟩,q3⟩=>⟨⟨w,q1,Nat.le_trans q2 (Nat.le_trans (Nat.mul_le_mul h4 (sB4 4 (by decide))) (by decide))⟩,q3⟩) (fun _ _ h=>h)) fun v s' hv=>nl ⟨v,rfl,hv⟩)
    rintro v ⟨w,rfl,hw⟩
    refine diN fun s2 hs2=>?_
    subst hs2
    repeat (first|(refine Go.AM.sadL rfl rfl rfl (by (try simp only [List.length_append,List.length_cons,List.length_nil]); omega) (fun w hw=>?_); try simp only [List.length_append,List.length_cons,List.length_nil] at hw)|refine nl ?_|refine rg ?_|refine ZA (z:=?_)|refine ZO (z:=?_))
    exact ⟨(i + 1,_),⟨hlt,by (try simp only); omega⟩,by simp only; omega,(tl4 rfl rfl rfl rfl),.refl _⟩
   ·refine goD ?_
    exact AWP.ret (rets rfl (.refl _) (.refl _) ⟨⟨s,rfl,by omega⟩,rfl⟩)
theorem text_ok (l:List Int) (hl:l.length≤17592186043904) (st:St) :
  ACalls Tryz.prog 8 [.view 1 (l.map fun x=>[.int .i64 x]) .shared] st (fun v st'=>(∃ w:List UInt8,v=.str w∧w.length≤100000000000000)∧st'=st) (fun _ _=>False):=by
 refine ACalls.ofBody Tryz.func8 rfl Tryz.ntmps8 rfl ?_
 refine goD ?_
 refine cl rfl rfl (program_ok l hl st) fun v s' ⟨rows,hv,hr,hg,hs⟩=>?_
 subst hv hs
 skip
 refine cl rfl rfl (print_ok rows hr hg _) fun v s' ⟨⟨w,hv,hw⟩,hs⟩=>?_
 subst hv hs
 refine goD ?_
 exact AWP.ret (rets rfl (.refl _) (.refl _) ⟨⟨w,rfl,hw⟩,rfl⟩)
end Go.Proofs
namespace Go.Proofs
open Go.AM

end Go.Proofs
namespace Go.Proofs
open Go.AM

theorem short_ok (l:List Int) (hl:l.length≤17592186043904) (st:St):ACalls Tryz.prog 9 [.view 1 (l.map fun x=>[.int .i64 x]) .shared] st (fun v st'=>v=.view 1 ((l.take 200).map fun x=>[.int .i64 x]) .shared∧st'=st) (fun _ _=>False):=by
 refine ACalls.ofBody Tryz.func9 rfl Tryz.ntmps9 rfl ?_
 have hlen:(l.map fun x=>[AV.int .i64 x]).length=l.length:=by simp
 repeat (first|refine nl ?_|refine AWP.seq ?_|refine rg ?_|refine sm rfl ?_|refine lnv rfl rfl ?_)
 refine AWP.cond_dec rfl (fun h=>?_) (fun h=>AWP.skip ?_)
 ·have h':200≤l.length:=by have:(200:Int) < ((l.map fun x=>[AV.int .i64 x]).length:Int):=h; omega
  repeat (first|refine AWP.seq ?_|refine rg ?_|refine sm rfl ?_)
  refine svh (b:=200) rfl rfl rfl (by omega) ?_
  rw [← List.map_take]
  repeat (first|refine nl ?_|refine sm rfl ?_)
  exact AWP.ret (rets rfl (.refl _) (.refl _) ⟨rfl,rfl⟩)
 ·have h':l.length≤200:=by have:¬ (200:Int) < ((l.map fun x=>[AV.int .i64 x]).length:Int):=h; omega
  repeat (first|refine nl ?_|refine AWP.seq ?_|refine rg ?_|refine sm rfl ?_)
  refine AWP.ret (rets rfl (.refl _) (.refl _) ⟨?_,rfl⟩)
  rw [List.take_of_length_le h']
  rfl
end Go.Proofs
namespace Go.Proofs
open Go.AM
attribute [local irreducible] AWP AOps AAny ACalls

set_option maxHeartbeats 4000000 in
theorem ParserBack_ok (a:List UInt8) (ha:a.length≤140737488351232) (l:List Int) (hl:l.length≤17592186043904) (_:∀ x ∈ l,(Lit.int .i64 x).wf=true) (st:St) (hT:LTp st) :
  ACalls Tryz.prog 7 [.str a,.view 1 (l.map fun x=>[.int .i64 x]) .shared] st (fun v _=>v=.bool true) (fun _ _=>False):=by
 refine ACalls.ofBody Tryz.func7 rfl Tryz.ntmps7 rfl ?_
 refine goC ?_
 refine rg ?_
 refine goE ?_
 refine nl ?_
 refine AWP.seq ?_
 refine AWP.cutK (α:=List UInt8) (fun w=>[(0,.str w),(1,.view 1 (l.map fun x=>[.int .i64 x]) .shared)]) (fun _=>st) (fun w=>w.length≤140737488351232) ?_ ?_
 ·by_cases h:1000 < a.length
  ·have h':(1000:Int) < (a.length:Int):=by omega
   refine goD ?_
   refine ssh (b:=1000) rfl rfl rfl (by omega) ?_
   refine goD ?_
   exact ⟨a.take 1000,by rw [List.length_take]; omega,(tl2 rfl rfl),.refl _⟩
  ·have h':¬ (1000:Int) < (a.length:Int):=by omega
   refine goD ?_
   exact ⟨a,ha,(tl2 rfl rfl),.refl _⟩
 intro w hw
 refine goD ?_
 refine cle rfl rfl (short_ok l hl st) ?_
 refine cl rfl rfl (text_ok (l.take 200) (by rw [List.length_take]; omega) st) fun v s' ⟨⟨t,hv,ht⟩,hs⟩=>?_
 subst hv hs
 refine bsh (cs:=[.str w,.str t]) rfl rfl rfl rfl rfl ?_
 refine goD ?_
 have hrow:∀ i,i < 2→∃ x,(chunk (0 + 1) 2 [AV.str w,.str t])[i]?=some [.str x]∧x.length≤140737488351232:=fun i hi=>by
  rcases (by omega:i=0∨i=1) with rfl|rfl
  ·exact ⟨w,rfl,hw⟩
  ·exact ⟨t,rfl,by omega⟩
 refine AWP.loop (α:=Nat) (fun i=>[(25,.int .i64 (i:Int)),(24,.int .i64 2),(23,.view 1 (chunk (0 + 1) 2 [AV.str w,.str t]) .shared)]) (fun _=>s') (fun i=>i≤2) (fun i=>2 - i) 0 (Nat.zero_le _) (tl3 rfl rfl rfl) (.refl _) ?_
 intro i hi
 refine AWP.weaken (T':=[(25,.int .i64 (i:Int)),(24,.int .i64 2),(23,.view 1 (chunk (0 + 1) 2 [AV.str w,.str t]) .shared)]) (tl3 rfl rfl rfl) (.refl _) ?_
 by_cases hi':i < 2
 rotate_left
 ·have:i=2:=by omega
  subst this
  refine goD ?_
  refine AWP.exit (blk_hit ?_)
  refine goD ?_
  refine cle rfl rfl (known_ok _ hT) ?_
  refine goD ?_
  exact AWP.ret (rets rfl (.refl _) (.refl _) rfl)
 obtain ⟨x,hx,hxl⟩:=hrow i hi'
 have hilt:i < (chunk (0 + 1) 2 [AV.str w,.str t]).length:=hi'
 have hi2:(i:Int) < 2:=by omega
 refine goD ?_
 have hp:=hT.parse x
 cases hpx:pparse x with
 | error e =>
  obtain ⟨ln,e⟩:=e
  have he:¬ (e:Int)=0:=by have:=pparse_ne hpx; omega
  rw [hpx] at hp
  unfold parV at hp
  simp only at hp
  refine cle rfl rfl hp ?_
  refine goD ?_
  refine AWP.exit (blk_hit ?_)
  refine goD ?_
  exact ⟨i + 1,hi',by omega,(tl3 rfl rfl rfl),.refl _⟩
 | ok p =>
  obtain ⟨hl1,hpr⟩:=pprt_ok hpx s' hT.gs
  rw [hpx] at hp
  unfold parV pgRow at hp
  unfold pgRow at hpr
  simp only at hp
  refine cle rfl rfl hp ?_
  refine goD ?_
  refine cle rfl rfl hpr ?_
  by_cases h4:4000 < (prT p).length
  ·have h4':(4000:Int) < ((prT p).length:Int):=by omega
   refine goD ?_
   refine AWP.exit (blk_hit ?_)
   refine goD ?_
   exact ⟨i + 1,hi',by omega,(tl3 rfl rfl rfl),.refl _⟩
  ·have h4':¬ (4000:Int) < ((prT p).length:Int):=by omega
   obtain ⟨q,hq1,hq2,hq3⟩:=pparse_back hpx (by omega)
   have hq:=hT.parse (prT p)
   have hs:=sameProgram (pparse_ln hpx) hq2 s'
   obtain ⟨_,hqr⟩:=pprt_ok hq1 s' hT.gs
   rw [hq1] at hq
   rw [hq3] at hqr
   unfold parV pgRow at hq
   unfold pgRow at hqr hs
   simp only at hq
   refine goD ?_
   refine cle rfl rfl hq ?_
   refine goD ?_
   refine cle rfl rfl hs ?_
   refine goD ?_
   have hne:¬ prT p≠prT p:=fun h=>h rfl
   refine cle rfl rfl hqr ?_
   refine goD ?_
   exact ⟨i + 1,hi',by omega,(tl3 rfl rfl rfl),.refl _⟩
end Go.Proofs
