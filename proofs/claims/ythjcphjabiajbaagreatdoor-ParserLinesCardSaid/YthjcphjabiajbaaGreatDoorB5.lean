/- What is left of the tokens is their end. No program in sight. -/
import Derived.Test.YthjcphjabiajbaaGreatDoorB4
namespace Go.Proofs
open Go.AM
def Suf (ts r:List Tk):Prop:=∃ n,r=ts.drop n
theorem Suf.refl (ts:List Tk):Suf ts ts:=⟨0,rfl⟩
theorem Suf.trans {a b c:List Tk} (h:Suf a b) (k:Suf b c):Suf a c:=by
 obtain ⟨n,rfl⟩:=h;obtain ⟨m,rfl⟩:=k;exact ⟨n + m,List.drop_drop⟩
theorem Suf.tl (ts:List Tk):Suf ts ts.tail:=⟨1,List.drop_one.symm⟩
theorem Suf.tail {a b:List Tk} (h:Suf a b):Suf a b.tail:=h.trans (.tl b)
theorem fe_suf:∀ k:Nat,(∀ lv d ts x r,fe k lv d ts=.ok (x,r)→Suf ts r)∧(∀ lv d x ts y r,fl k lv d x ts=.ok (y,r)→Suf ts r)∧(∀ d ts x r,fo k d ts=.ok (x,r)→Suf ts r)
 | 0=>⟨fun _ _ _ _ _ h=>(by rw [fe] at h; cases h),fun _ _ _ _ _ _ h=>(by rw [fl] at h; cases h),fun _ _ _ _ h=>(by rw [fo] at h; cases h)⟩
 | k + 1=>by
  obtain ⟨i1,i2,i3⟩:=fe_suf k;refine ⟨fun lv d ts x r h=>?_,fun lv d x ts y r h=>?_,fun d ts x r h=>?_⟩
  ·rw [fe] at h;split at h
   ·exact i3 _ _ _ _ h
   ·cases hp:fe k (lv + 1) d ts with
    | error e=>rw [hp] at h; cases h
    | ok p =>
     obtain ⟨y,r1⟩:=p;rw [hp] at h;exact (i1 _ _ _ _ _ hp).trans (i2 _ _ _ _ _ _ h)
  ·rw [fl] at h;split at h
   ·cases hp:fe k (lv + 1) d ts.tail with
    | error e=>rw [hp] at h; cases h
    | ok p =>
     obtain ⟨z,r1⟩:=p;rw [hp] at h;have h1:=(Suf.tl ts).trans (i1 _ _ _ _ _ hp);simp only at h;split at h
     ·cases h; exact h1
     ·exact h1.trans (i2 _ _ _ _ _ _ h)
   ·cases h; exact .refl _
  ·have t1:=Suf.tl ts
   have t2:=t1.tail
   have t3:=t2.tail;rw [fo] at h;split at h
   ·split at h
    ·cases h
    split at h
    ·cases h; exact t1
    split at h
    ·split at h
     ·split at h
      ·cases h; exact t3
      ·cases h
     split at h
     ·cases hp:fe k 1 (d + 1) ts.tail.tail with
      | error e=>rw [hp] at h; cases h
      | ok p =>
       obtain ⟨z,r1⟩:=p;rw [hp] at h;have h1:=t2.trans (i1 _ _ _ _ _ hp);simp only at h;split at h
       ·cases h; exact h1.tail
       ·cases h
     ·cases h; exact t1
    split at h
    ·cases hp:fe k 1 (d + 1) ts.tail with
     | error e=>rw [hp] at h; cases h
     | ok p =>
      obtain ⟨z,r1⟩:=p;rw [hp] at h;have h1:=t1.trans (i1 _ _ _ _ _ hp);simp only at h;split at h
      ·cases h; exact h1.tail
      ·cases h
    ·cases hp:fo k (d + 1) ts.tail with
     | error e=>rw [hp] at h; cases h
     | ok p =>
      obtain ⟨z,r1⟩:=p;rw [hp] at h;cases h;exact t1.trans (i3 _ _ _ _ hp)
   ·cases h
theorem qx_suf {ts r:List Tk} {x:Xp} (h:qx ts=.ok (x,r)):Suf ts r:=(fe_suf _).1 _ _ _ _ _ h
theorem fname_suf {ts r:List Tk} {x:List UInt8} (h:fname ts=.ok (x,r)):Suf ts r:=by
 unfold fname at h;split at h
 ·cases h; exact .tl ts
 ·cases h
theorem fneed_suf {s:List UInt8} {ts r:List Tk} {x:Unit} (h:fneed s ts=.ok (x,r)):sg (hd ts) s=true∧r=ts.tail:=by
 unfold fneed at h;split at h
 ·rename_i h1;cases h; exact ⟨h1,rfl⟩
 ·cases h
theorem fneed_suf' {s:List UInt8} {ts r:List Tk} {x:Unit} (h:fneed s ts=.ok (x,r)):Suf ts r:=(fneed_suf h).2 ▸ .tl ts
theorem qt_suf {ts r:List Tk} {x:Xp} (h:qt ts=.ok (x,r)):Suf ts r:=by
 unfold qt ftg at h;obtain ⟨n,r1,h1,h⟩:=qbi h;have s1:=fname_suf h1;split at h
 ·obtain ⟨f,r2,h2,h⟩:=qbi h;cases h;exact s1.tail.trans (fname_suf h2)
 split at h
 ·obtain ⟨y,r2,h2,h⟩:=qbi h;obtain ⟨_,r3,h3,h⟩:=qbi h;cases h;exact (s1.tail.trans ((fe_suf _).1 _ _ _ _ _ h2)).trans (fneed_suf' h3)
 ·cases h; exact s1
theorem fargs_suf:∀ (k:Nat) (l:List Xp) (ts:List Tk) (m:List Xp) (r:List Tk),fargs k l ts=.ok (m,r)→Suf ts r
 | 0,l,ts,m,r,h=>by rw [fargs] at h; cases h
 | k + 1,l,ts,m,r,h=>by
  rw [fargs] at h;split at h
  ·obtain ⟨x,r1,h1,h⟩:=qbi h;exact ((Suf.tl ts).trans (qx_suf h1)).trans (fargs_suf k _ r1 m r h)
  ·cases h; exact .refl _
theorem fcall_suf {ts r:List Tk} {c:List UInt8 × List Xp} (h:fcall ts=.ok (c,r)):Suf ts r:=by
 unfold fcall at h;obtain ⟨n,r1,h1,h⟩:=qbi h;obtain ⟨_,r2,h2,h⟩:=qbi h;have s2:=(fname_suf h1).trans (fneed_suf' h2);split at h
 ·cases h; exact s2.tail
 ·obtain ⟨x,r3,h3,h⟩:=qbi h;obtain ⟨l,r4,h4,h⟩:=qbi h;obtain ⟨_,r5,h5,h⟩:=qbi h;cases h;exact ((s2.trans (qx_suf h3)).trans (fargs_suf _ _ _ _ _ h4)).trans (fneed_suf' h5)
theorem fval_suf {b:Bool} {ts r:List Tk} {c:List UInt8 × List Xp} (h:fval b ts=.ok (c,r)):Suf ts r:=by
 unfold fval at h;split at h
 ·exact fcall_suf h
 ·obtain ⟨x,r1,h1,h⟩:=qbi h;cases h; exact qx_suf h1
theorem feff_suf {ts r:List Tk} {m:Sm} (h:feff ts=.ok (m,r)):Suf ts r:=by
 unfold feff at h;split at h
 ·obtain ⟨c,r1,h1,h⟩:=qbi h;cases h; exact fcall_suf h1
 ·obtain ⟨y,r1,h1,h⟩:=qbi h;obtain ⟨_,r2,h2,h⟩:=qbi h;have s2:=(qt_suf h1).trans (fneed_suf' h2);split at h
  ·obtain ⟨c,r3,h3,h⟩:=qbi h;cases h; exact s2.trans (fcall_suf h3)
  ·obtain ⟨x,r3,h3,h⟩:=qbi h;cases h; exact s2.trans (qx_suf h3)
theorem fmore_suf:∀ (k:Nat) (l:Names) (ts:List Tk) (m:Names) (r:List Tk),fmore k l ts=.ok (m,r)→Suf ts r
 | 0,l,ts,m,r,h=>by rw [fmore] at h; cases h
 | k + 1,l,ts,m,r,h=>by
  rw [fmore_eq] at h;split at h
  ·obtain ⟨x,r1,h1,h⟩:=qbi h;exact ((Suf.tl ts).trans (fname_suf h1)).trans (fmore_suf k _ r1 m r h)
  ·cases h; exact .refl _
theorem fnames_suf {ts r:List Tk} {m:Names} (h:fnames ts=.ok (m,r)):Suf ts r:=by
 unfold fnames at h;cases h1:fname ts with
 | error e=>rw [h1] at h; cases h
 | ok p =>
  obtain ⟨n,r1⟩:=p;rw [h1] at h;exact (fname_suf h1).trans (fmore_suf _ _ _ _ _ h)
theorem fpar_suf {ts r:List Tk} {m:Names} (h:fpar ts=.ok (m,r)):Suf ts r:=by
 unfold fpar at h;split at h
 ·cases h; exact .refl _
 ·exact fnames_suf h
theorem frecord_suf {ts r:List Tk} {m:Rec} (h:frecord ts=.ok (m,r)):Suf ts r:=by
 unfold frecord at h;obtain ⟨n,r1,h1,h⟩:=qbi h;obtain ⟨_,r2,h2,h⟩:=qbi h;obtain ⟨l,r3,h3,h⟩:=qbi h;obtain ⟨_,r4,h4,h⟩:=qbi h;cases h;exact (((fname_suf h1).trans (fneed_suf' h2)).trans (fnames_suf h3)).trans (fneed_suf' h4)
theorem frecs_suf:∀ (k:Nat) (l:List Rec) (ts:List Tk) (m:List Rec) (r:List Tk),frecs k l ts=.ok (m,r)→Suf ts r
 | 0,l,ts,m,r,h=>by rw [frecs] at h; cases h
 | k + 1,l,ts,m,r,h=>by
  rw [frecs] at h;split at h
  ·obtain ⟨x,r1,h1,h⟩:=qbi h;exact ((Suf.tl ts).trans (frecord_suf h1)).trans (frecs_suf k _ r1 m r h)
  ·cases h; exact .refl _
def semi (t:Tk):Prop:=sg t [59]=true∨sg t [125]=true
def Nx (t u:Tk):Prop:=t.line≤u.line∧(semi t→t.line < u.line∨kw u wElse=true∨kw u wCatch=true)
def Ch:List Tk→Prop
 | []=>True
 | [_]=>True
 | t::u::r=>Nx t u∧Ch (u::r)
theorem Ch.tail:∀ {ts:List Tk},Ch ts→Ch ts.tail
 | [],_=>trivial
 | [_],_=>trivial
 | _::_::_,h=>h.2
theorem Ch.drop:∀ (n:Nat) {ts:List Tk},Ch ts→Ch (ts.drop n)
 | 0,ts,h=>h
 | n + 1,[],_=>by rw [List.drop_nil]; trivial
 | n + 1,t::r,h=>Ch.drop n (ts:=r) h.tail
theorem Ch.suf {a b:List Tk} (h:Ch a) (s:Suf a b):Ch b:=by
 obtain ⟨n,rfl⟩:=s;exact h.drop n
theorem Ch.le:∀ (n:Nat) {ts:List Tk} {u:Tk} {r:List Tk},Ch ts→ts.drop n=u::r→(hd ts).line≤u.line
 | 0,ts,u,r,_,e=>by
  have e:ts=u::r:=e;rw [e];exact Nat.le_refl _
 | n + 1,[],u,r,_,e=>by rw [List.drop_nil] at e; cases e
 | n + 1,[t],u,r,_,e=>by rw [List.drop_succ_cons,List.drop_nil] at e; cases e
 | n + 1,t::v::w,u,r,h,e=>by
  rw [List.drop_succ_cons] at e;exact Nat.le_trans h.1.1 (Ch.le n h.2 e)
theorem Ch.sle {ts:List Tk} {u:Tk} {r:List Tk} (h:Ch ts) (s:Suf ts (u::r)):(hd ts).line≤u.line:=by
 obtain ⟨n,e⟩:=s;exact h.le n e.symm
theorem cons_of {ts:List Tk} (h:(hd ts).kind≠0):ts=hd ts::ts.tail:=by
 cases ts with
 | nil=>exact absurd rfl h
 | cons a b=>rfl
def Sp.line:Sp→Nat
 | .mk _ l _ _ _ _ _ _ _ _=>l

mutual
def lnB:Sp→Option Nat
 | .mk _ line _ _ _ _ _ _ bd el=>match lnS line bd with
  | none=>none
  | some a=>lnS a el
def lnS:Nat→List Sp→Option Nat
 | n,[]=>some n
 | n,s::r=>if s.line < n then none else match lnB s with
  | none=>none
  | some b=>lnS b r
end
theorem lnS_nil (n:Nat):lnS n []=some n:=by rw [lnS]
mutual
theorem lnB_le:∀ (s:Sp) (b:Nat),lnB s=some b→s.line≤b
 | .mk k line nm ty len tg fn ar bd el,b,h=>by
  rw [lnB] at h;cases h1:lnS line bd with
  | none=>rw [h1] at h; cases h
  | some a =>
   rw [h1] at h;exact Nat.le_trans (lnS_le line bd a h1) (lnS_le a el b h)
theorem lnS_le:∀ (n:Nat) (l:List Sp) (b:Nat),lnS n l=some b→n≤b
 | n,[],b,h=>by rw [lnS] at h; cases h; exact Nat.le_refl _
 | n,s::r,b,h=>by
  rw [lnS] at h;split at h
  ·cases h
  ·rename_i hs;cases h1:lnB s with
   | none=>rw [h1] at h; cases h
   | some a =>
    rw [h1] at h;have h2:=lnB_le s a h1
    have h3:=lnS_le a r b h;omega
end
theorem lnS_cons_ok {n b:Nat} {s:Sp} {r:List Sp} (h:n≤s.line) (hb:lnB s=some b):lnS n (s::r)=lnS b r:=by
 rw [lnS,if_neg (by omega),hb]
theorem lnS_end:∀ (n:Nat) (l:List Sp) (b stop:Nat),lnS n l=some b→b≤stop→lnS n (l++[endSp stop])=some stop
 | n,[],b,stop,h,hs=>by
  rw [lnS] at h;cases h;rw [List.nil_append,lnS_cons_ok (b:=stop) (by exact hs) (by rw [endSp,lnB,lnS_nil]; exact lnS_nil _),lnS_nil]
 | n,s::r,b,stop,h,hs=>by
  rw [lnS] at h;split at h
  ·cases h
  ·rename_i h0;cases h1:lnB s with
   | none=>rw [h1] at h; cases h
   | some a =>
    rw [h1] at h;rw [List.cons_append,lnS_cons_ok (by omega) h1];exact lnS_end a r b stop h hs
def Str:List Sp→Nat→Prop
 | [],_=>True
 | [s],hi=>s.line < hi
 | s::t::r,hi=>s.line < t.line∧Str (t::r) hi
def EB (ts r:List Tk) (e:Tk):Prop:=Suf ts (e::r)∧semi e
theorem EB.pre {a b r:List Tk} {e:Tk} (s:Suf a b) (h:EB b r e):EB a r e:=⟨s.trans h.1,h.2⟩
theorem EB.of_need {ts r r0:List Tk} {c:List UInt8} {x:Unit} (hc:c=[59]∨c=[125]) (s:Suf ts r) (h:fneed c r=.ok (x,r0)):∃ e,EB ts r0 e:=by
 obtain ⟨h1,rfl⟩:=fneed_suf h;refine ⟨hd r,?_,?_⟩
 ·rw [← cons_of (sg_kind h1)];exact s
 ·rcases hc with rfl|rfl
  ·exact .inl h1
  ·exact .inr h1
theorem fdecl_end {ts r:List Tk} {c:List UInt8 × List UInt8 × Nat} (h:fdecl ts=.ok (c,r)):∃ e,EB ts r e:=by
 unfold fdecl at h;obtain ⟨n,r1,h1,h⟩:=qbi h;obtain ⟨_,r2,h2,h⟩:=qbi h;have s2:=(fname_suf h1).trans (fneed_suf' h2);split at h
 ·split at h
  ·split at h
   ·split at h
    ·cases h
    ·obtain ⟨_,r3,h3,h⟩:=qbi h;obtain ⟨_,r4,h4,h⟩:=qbi h;cases h;exact EB.of_need (.inl rfl) (s2.tail.tail.tail.trans (fneed_suf' h3)) h4
   ·cases h
  ·obtain ⟨_,r3,h3,h⟩:=qbi h;cases h;exact EB.of_need (.inl rfl) s2.tail h3
 ·obtain ⟨ty,r3,h3,h⟩:=qbi h;obtain ⟨_,r4,h4,h⟩:=qbi h;cases h;exact EB.of_need (.inl rfl) (s2.trans (fname_suf h3)) h4
theorem begS_else {u:Tk} (h:begS u=true):¬ kw u wElse=true∧¬ kw u wCatch=true:=by
 unfold begS at h;rw [Bool.or_eq_true,Bool.and_eq_true] at h;rcases h with h|⟨h1,h2⟩
 ·have h:=of_decide_eq_true h;exact ⟨fun k=>by have:=(of_decide_eq_true k).1; omega,fun k=>by have:=(of_decide_eq_true k).1; omega⟩
 ·refine ⟨fun k=>?_,fun k=>?_⟩
  ·rw [(of_decide_eq_true k).2] at h2;exact absurd h2 (by decide)
  ·rw [(of_decide_eq_true k).2] at h2;exact absurd h2 (by decide)
theorem sg_else {u:Tk} {s:List UInt8} (h:sg u s=true):¬ kw u wElse=true∧¬ kw u wCatch=true:=by
 have h:=(of_decide_eq_true h).1;exact ⟨fun k=>by have:=(of_decide_eq_true k).1; omega,fun k=>by have:=(of_decide_eq_true k).1; omega⟩
theorem Ch.jump {e u:Tk} {r:List Tk} (h:Ch (e::u::r)) (hs:semi e) (h1:¬ kw u wElse=true∧¬ kw u wCatch=true):e.line < u.line:=by
 rcases h.1.2 hs with h|h|h
 ·exact h
 ·exact absurd h h1.1
 ·exact absurd h h1.2
theorem begS_kind {t:Tk} (h:begS t=true):t.kind≠0:=by
 unfold begS at h;rw [Bool.or_eq_true,Bool.and_eq_true] at h;rcases h with h|⟨h,_⟩
 ·rw [of_decide_eq_true h]; decide
 ·rw [of_decide_eq_true h]; decide

def LStm (k:Nat):Prop:=∀ d ts s r,Ch ts→fstm k d ts=.ok (s,r)→begS (hd ts)=true∧s.line=(hd ts).line∧∃ e b,EB ts r e∧lnB s=some b∧b≤e.line
def LBlk (k:Nat):Prop:=∀ d ts l r,Ch ts→fblk k d ts=.ok (l,r)→∃ e,EB ts r e∧(∀ n,n≤(hd ts).line→∃ b,lnS n l=some b∧b≤e.line)∧Str l e.line
def LSts (k:Nat):Prop:=∀ d l0 ts l r,Ch ts→fsts k d l0 ts=.ok (l,r)→∃ m e,l=l0++m∧EB ts r e∧(∀ n,n≤(hd ts).line→∃ b,lnS n m=some b∧b≤e.line)∧Str m e.line ∧
 (¬ kw (hd ts) wElse=true∧¬ kw (hd ts) wCatch=true)∧(hd ts).kind≠0∧(m=[]→(hd ts).line=e.line)∧∀ s m',m=s::m'→s.line=(hd ts).line
theorem lines_all:∀ k,LStm k∧LBlk k∧LSts k
 | 0=>⟨fun _ _ _ _ _ h=>(by rw [fstm] at h; cases h),fun _ _ _ _ _ h=>(by rw [fblk] at h; cases h),fun _ _ _ _ _ _ h=>(by rw [fsts] at h; cases h)⟩
 | k + 1=>by
  obtain ⟨i1,i2,i3⟩:=lines_all k;refine ⟨fun d ts s r hc h=>?_,fun d ts l r hc h=>?_,fun d l0 ts l r hc h=>?_⟩
  ·by_cases hb:begS (hd ts)=true
   rotate_left
   ·rw [fstm,if_neg hb] at h;cases h
   by_cases h8:8 < d
   ·rw [fstm,if_pos hb,if_pos h8] at h;cases h
   rw [fstm_pos hb h8] at h;refine ⟨hb,?_⟩;have t1:=Suf.tl ts
   have flat:∀ {kk:Nat} {nm ty:List UInt8} {len:Nat} {tg ar:List Xp} {fn:List UInt8},lnB (.mk kk (hd ts).line nm ty len tg fn ar [] [])=some (hd ts).line:=by
    intros
    rw [lnB,lnS_nil];exact lnS_nil _
   have fin:∀ {e:Tk},EB ts r e→(hd ts).line≤e.line:=fun h=>hc.sle h.1;split at h
   ·obtain ⟨x,r1,h1,h⟩:=qbi h;cases h;obtain ⟨e,he⟩:=fdecl_end h1;have he:=he.pre t1;exact ⟨rfl,e,_,he,flat,fin he⟩
   split at h
   ·obtain ⟨x,r1,h1,h⟩:=qbi h;obtain ⟨b,r2,h2,h⟩:=qbi h;have s1:=t1.trans (qx_suf h1);obtain ⟨e,he,hl,_⟩:=i2 _ _ _ _ (hc.suf s1) h2;have he:=he.pre s1
    have c2:=hc.suf he.1
    have n1:(hd ts).line≤(hd r1).line:=by
     have h0:(hd r1).kind≠0:=by
      cases k with
      | zero=>rw [fblk] at h2; cases h2
      | succ k =>
       rw [fblk] at h2;obtain ⟨_,_,h3,_⟩:=qbi h2;exact sg_kind (fneed_suf h3).1
     rw [cons_of h0] at s1;exact hc.sle s1
    obtain ⟨b1,hb1,hb2⟩:=hl _ n1;split at h
    ·rename_i hel;obtain ⟨e2,r3,h3,h⟩:=qbi h;have s2:Suf ts r2.tail:=(he.1.trans (.tl _)).tail;obtain ⟨f,hf,hl2,_⟩:=i2 _ _ _ _ (hc.suf s2) h3;have hf:=hf.pre s2;cases h;have n2:b1≤(hd r2.tail).line:=by
      have h0:(hd r2.tail).kind≠0:=by
       cases k with
       | zero=>rw [fblk] at h3; cases h3
       | succ k =>
        rw [fblk] at h3;obtain ⟨_,_,h3,_⟩:=qbi h3;exact sg_kind (fneed_suf h3).1
      have s3:Suf (e::r2) r2.tail:=(Suf.tl _).tail;rw [cons_of h0] at s3;have:=c2.sle s3;rw [hd_cons] at this;omega
     obtain ⟨b2,hb3,hb4⟩:=hl2 _ n2;exact ⟨rfl,f,b2,hf,by rw [lnB,hb1]; exact hb3,hb4⟩
    ·cases h;exact ⟨rfl,e,b1,he,by rw [lnB,hb1]; exact lnS_nil _,hb2⟩
   split at h
   ·obtain ⟨x,r1,h1,h⟩:=qbi h;obtain ⟨b,r2,h2,h⟩:=qbi h;have s1:=t1.trans (qx_suf h1);obtain ⟨e,he,hl,_⟩:=i2 _ _ _ _ (hc.suf s1) h2;have he:=he.pre s1
    have n1:(hd ts).line≤(hd r1).line:=by
     have h0:(hd r1).kind≠0:=by
      cases k with
      | zero=>rw [fblk] at h2; cases h2
      | succ k =>
       rw [fblk] at h2;obtain ⟨_,_,h3,_⟩:=qbi h2;exact sg_kind (fneed_suf h3).1
     rw [cons_of h0] at s1;exact hc.sle s1
    obtain ⟨b1,hb1,hb2⟩:=hl _ n1;cases h;exact ⟨rfl,e,b1,he,by rw [lnB,hb1]; exact lnS_nil _,hb2⟩
   split at h
   ·obtain ⟨b,r1,h1,h⟩:=qbi h;obtain ⟨_,r2,h2,h⟩:=qbi h;obtain ⟨n,r3,h3,h⟩:=qbi h;obtain ⟨f0,r4,h4,h⟩:=qbi h;obtain ⟨e,he,hl,_⟩:=i2 _ _ _ _ (hc.suf t1) h1;have he:=he.pre t1
    have c2:=hc.suf he.1
    have n1:(hd ts).line≤(hd ts.tail).line:=by
     have h0:(hd ts.tail).kind≠0:=by
      cases k with
      | zero=>rw [fblk] at h1; cases h1
      | succ k =>
       rw [fblk] at h1;obtain ⟨_,_,h3,_⟩:=qbi h1;exact sg_kind (fneed_suf h3).1
     have s1:=t1;rw [cons_of h0] at s1;exact hc.sle s1
    obtain ⟨b1,hb1,hb2⟩:=hl _ n1;have q2:Suf r1 r2:=by
     unfold fcatch at h2;split at h2
     ·cases h2;exact .tl r1
     ·cases h2
    have q3:Suf (e::r1) r3:=((Suf.tl (e::r1)).trans q2).trans (fname_suf h3)
    have s3:=he.1.trans q3;obtain ⟨f,hf,hl2,_⟩:=i2 _ _ _ _ (hc.suf s3) h4;have hf:=hf.pre s3;cases h;have n2:b1≤(hd r3).line:=by
     have h0:(hd r3).kind≠0:=by
      cases k with
      | zero=>rw [fblk] at h4; cases h4
      | succ k =>
       rw [fblk] at h4;obtain ⟨_,_,h3,_⟩:=qbi h4;exact sg_kind (fneed_suf h3).1
     rw [cons_of h0] at q3;have:=c2.sle q3;rw [hd_cons] at this;omega
    obtain ⟨b2,hb3,hb4⟩:=hl2 _ n2;exact ⟨rfl,f,b2,hf,by rw [lnB,hb1]; exact hb3,hb4⟩
   split at h
   ·obtain ⟨c,r1,h1,h⟩:=qbi h;obtain ⟨_,r2,h2,h⟩:=qbi h;cases h;obtain ⟨e,he⟩:=EB.of_need (.inl rfl) (t1.trans (fval_suf h1)) h2;exact ⟨rfl,e,_,he,flat,fin he⟩
   split at h
   ·obtain ⟨c,r1,h1,h⟩:=qbi h;obtain ⟨_,r2,h2,h⟩:=qbi h;cases h;obtain ⟨e,he⟩:=EB.of_need (.inl rfl) (t1.trans (fval_suf h1)) h2;exact ⟨rfl,e,_,he,flat,fin he⟩
   split at h
   ·obtain ⟨c,r1,h1,h⟩:=qbi h;obtain ⟨_,r2,h2,h⟩:=qbi h;cases h;obtain ⟨e,he⟩:=EB.of_need (.inl rfl) (t1.trans (fval_suf h1)) h2;exact ⟨rfl,e,_,he,flat,fin he⟩
   obtain ⟨m,r1,h1,h⟩:=qbi h;obtain ⟨_,r2,h2,h⟩:=qbi h;cases h;obtain ⟨e,he⟩:=EB.of_need (.inl rfl) (feff_suf h1) h2;exact ⟨rfl,e,_,he,flat,fin he⟩
  ·rw [fblk] at h;obtain ⟨_,r1,h1,h⟩:=qbi h;have s1:=fneed_suf' h1;obtain ⟨m,e,rfl,he,hl,hs,_,hk,_,_⟩:=i3 d [] r1 l r (hc.suf s1) h;refine ⟨e,he.pre s1,fun n hn=>hl n ?_,hs⟩;rw [cons_of hk] at s1;have:=hc.sle s1;omega
  ·rw [fsts] at h;split at h
   ·rename_i h1;cases h;have hk:=sg_kind h1;refine ⟨[],hd ts,(List.append_nil _).symm,⟨?_,.inr h1⟩,fun n hn=>⟨n,lnS_nil n,hn⟩,trivial,sg_else h1,hk,fun _=>rfl,fun s m' h=>(by cases h)⟩;rw [← cons_of hk];exact .refl _
   ·obtain ⟨s,r1,h1,h⟩:=qbi h;obtain ⟨g1,g2,e1,b1,g3,g4,g5⟩:=i1 d ts s r1 hc h1;have s1:Suf ts r1:=g3.1.trans (.tl _);obtain ⟨m,e,hm,he,hl,hs,hne,hk,h0,h1'⟩:=i3 d (l0++[s]) r1 l r (hc.suf s1) h;have c1:=hc.suf g3.1
    have c1':=c1;rw [cons_of hk] at c1;have j:=c1.jump g3.2 hne
    have hsb:=lnB_le s b1 g4;refine ⟨s::m,e,by rw [hm,List.append_assoc]; rfl,he.pre s1,fun n hn=>?_,?_,begS_else g1,begS_kind g1,fun h=>(by cases h),fun s' m' h=>(by cases h; exact g2)⟩
    ·obtain ⟨b,hb,hb2⟩:=hl b1 (by omega);exact ⟨b,by rw [lnS_cons_ok (by omega) g4]; exact hb,hb2⟩
    ·cases m with
     | nil =>
      show s.line < e.line
      have:=h0 rfl;omega
     | cons s' m' =>
      have:=h1' s' m' rfl;exact ⟨by omega,hs⟩
end Go.Proofs
namespace Go.AM
theorem AWP.cut {P:Program} {n:Nat} {K:Post} {E:EPost} {T:Tmps} {st:St} {x y:Code} (p:Prop) (T':Tmps) (st':St) (h:AWP P n x (fun T1 st1=>TLe T1 T'∧StLe st1 st'∧p) E T st) (k:p→AWP P n y K E T' st'):AWP P n (.seq x y) K E T st :=
 AWP.seq (h.mono (fun _ _ h=>AWP.weaken h.1 h.2.1 (k h.2.2)) (fun _ _ _ h=>h))
end Go.AM
namespace Go.Proofs
open Go.AM
attribute [local irreducible] AWP AOps ACalls
set_option linter.unusedSimpArgs false

theorem g_tmod_gt (n k:Int) (hk:0 < k):-k < n.tmod k:=by
 have:=Int.tmod_lt_of_pos (-n) hk;rw [Int.neg_tmod] at this;omega

theorem g_mod_rem (n k:Int) (hk:0 < k):n % k=if n.tmod k < 0 then n.tmod k + k else n.tmod k:=by
 have h1:n % k=n.tmod k % k:=by
  conv=>lhs; rw [← Int.tmod_add_mul_tdiv n k]
  rw [Int.add_mul_emod_self_left]
 have h2:=Int.tmod_lt_of_pos n hk
 have h3:=g_tmod_gt n k hk;rw [h1];split
 ·rw [← Int.add_emod_right,Int.emod_eq_of_lt (by omega) (by omega)]
 ·exact Int.emod_eq_of_lt (by omega) (by omega)

theorem g_mod_ok (n k:Int) (hk:0 < k) (hk2:k≤4611686018427387904) (st:St):ACalls Tryz.prog 14 [.int .i64 n,.int .i64 k] st (fun v st'=>v=.int .i64 (n % k)∧st'=st) (fun _ _=>False):=by
 refine ACalls.ofBody Tryz.func14 rfl Tryz.ntmps14 rfl ?_;have hm:=g_mod_rem n k hk;refine goD ?_;refine rm rfl rfl rfl (by omega) ?_;refine goD ?_;refine AWP.cond_dec rfl (fun h=>?_) (fun h=>AWP.skip ?_)
 ·rw [if_pos h] at hm;have h3:=g_tmod_gt n k hk
  have h4:=Int.tmod_lt_of_pos n hk;refine goD ?_;refine Go.AM.ad rfl rfl rfl (by omega) ?_;refine goD ?_;refine AWP.ret (rets rfl (.refl _) (.refl _) ⟨?_,rfl⟩);rw [hm];rfl
 ·rw [if_neg h] at hm;refine goD ?_;refine AWP.ret (rets rfl (.refl _) (.refl _) ⟨?_,rfl⟩);rw [hm];rfl

theorem St.ext3 {a b:St} (h1:a.obj=b.obj) (h2:a.tok=b.tok) (h3:a.glob=b.glob):a=b:=by
 cases a; cases b; simp only at h1 h2 h3; subst h1 h2 h3; rfl
def tapeRow (l:List Int) (i:Nat):List AV:=[.view 1 (l.map fun x=>[.int .i64 x]) .shared,.int .i64 (i:Int)]
def tapeC (l:List Int) (i:Nat):AObj:=.cells 88 2 [tapeRow l i]
theorem next_ok (l:List Int) (hl:l.length≤17592186043904) (i:Nat) (hi:i≤l.length) (k:Int) (hk:0 < k) (hk2:k≤4611686018427387904) (o:Nat) (st:St) (ho:st.obj o=some (tapeC l i)) :
  ACalls Tryz.prog 37 [.cptr o 2 0 0,.int .i64 k] st (fun v st'=>∃ n:Int,v=.int .i64 n∧0≤n∧n < k∧∃ j:Nat,j≤l.length∧st'=st.set o (tapeC l j)) (fun _ _=>False):=by
 refine ACalls.ofBody Tryz.func37 rfl Tryz.ntmps37 rfl ?_;have ll:(l.map fun x=>[AV.int .i64 x]).length=l.length:=List.length_map ..
 have e0:st.set o (tapeC l i)=st:=by
  refine St.ext3 (funext fun p=>?_) rfl rfl;simp only [St.set];by_cases e:p=o
  ·subst e; simp [ho]
  ·simp [e]
 rw [← e0];refine goC ?_;refine rg ?_;refine goE ?_;refine goC ?_;refine AWP.draw rfl 10 10 (fun _ _=>False) rfl ?_;refine goF ?_;refine dn ⟨fun _=>?_,fun h=>absurd h (by decide)⟩;rw [ll];refine goD ?_;refine AWP.cond_dec rfl (fun h=>?_) (fun h=>AWP.skip ?_)
 ·refine goD ?_;exact AWP.ret (rets rfl (.refl _) (.refl _) ⟨0,rfl,Int.le_refl _,hk,i,hi,(St.set_set _ _ _ _).symm⟩)
 ·have hi':i < l.length:=by have h0:¬ (l.length:Int)≤(i:Int):=h; omega
  refine goD ?_;refine so1 (row':=tapeRow l (i + 1)) rfl rfl rfl rfl rfl (Nat.le_of_ble_eq_true rfl) rfl ?_;refine goC ?_;refine AWP.draw rfl 14 14 (fun _ _=>False) rfl ?_;refine goF ?_;have hv:(l.map fun x=>[AV.int .i64 x])[i]?=some [.int .i64 l[i]]:=by rw [List.getElem?_map,List.getElem?_eq_getElem hi']; rfl
  generalize l[i]=x at hv;refine dq rfl rfl rfl (fun st1 hle=>ix (m:=i) rfl rfl rfl (by omega) (by rw [ll]; exact hi') (nl ⟨_,rfl,rfl,rfl⟩)) ?_;refine goF ?_;refine dq rfl rfl rfl (fun st1 hle=>cle rfl rfl (g_mod_ok x k hk hk2 _) (nl ⟨_,rfl,rfl,rfl⟩)) ?_;refine goF ?_;refine dn ⟨fun _=>?_,fun h=>absurd h (by decide)⟩;refine goD ?_;exact AWP.ret (rets rfl (.refl _) (.refl _) ⟨x % k,rfl,Int.emod_nonneg _ (by omega),Int.emod_lt_of_pos _ hk,i + 1,hi',(St.set_set _ _ _ _).symm⟩)
end Go.Proofs
namespace Go.Proofs
open Go.AM
def pgAt (c:UInt8) (r:List UInt8):Bool :=
 bif c == 59 then List.isPrefixOf [10] r
 else bif c == 125 then List.isPrefixOf [10] r || List.isPrefixOf [32,101,108,115,101,32] r || List.isPrefixOf [32,99,97,116,99,104,32] r
 else true
def Pg:List UInt8→Bool
 | []=>true
 | c::r=>pgAt c r && Pg r
def LP (n:Nat) (w:List UInt8):Prop:=w.length≤n∧Pg w=true
instance (n:Nat) (w:List UInt8):Decidable (LP n w):=inferInstanceAs (Decidable (_∧_))
theorem prefix_app:∀ {p a b:List UInt8},List.isPrefixOf p a=true→List.isPrefixOf p (a++b)=true
 | [],_,_,_=>by simp [List.isPrefixOf]
 | x::p,[],_,h=>by simp [List.isPrefixOf] at h
 | x::p,y::a,b,h=>by
  rw [List.cons_append,List.isPrefixOf,Bool.and_eq_true] at *;exact ⟨h.1,prefix_app h.2⟩
theorem pgAt_app {c:UInt8} {a b:List UInt8} (h:pgAt c a=true):pgAt c (a++b)=true:=by
 unfold pgAt at *;cases h1:(c == 59) with
 | true =>
  rw [h1] at h;exact prefix_app h
 | false =>
  rw [h1] at h;cases h2:(c == 125) with
  | true =>
   rw [h2] at h;simp only [cond_true,cond_false,Bool.or_eq_true] at h ⊢;rcases h with (h|h)|h
   ·exact .inl (.inl (prefix_app h))
   ·exact .inl (.inr (prefix_app h))
   ·exact .inr (prefix_app h)
  | false=>rfl
theorem Pg.app:∀ {a b:List UInt8},Pg a=true→Pg b=true→Pg (a++b)=true
 | [],b,_,h=>h
 | c::a,b,h,h'=>by
  rw [List.cons_append,Pg,Bool.and_eq_true] at *;exact ⟨pgAt_app h.1,Pg.app h.2 h'⟩
theorem lp80:LP 30 [80]:=by decide
theorem lp0:LP 30 []:=by decide
end Go.Proofs
namespace Go.Proofs
end Go.Proofs
namespace Go.Proofs
open Go.AM
def Rise:List Sp→Prop
 | []=>True
 | [_]=>True
 | s::t::r=>s.line < t.line∧Rise (t::r)
theorem Str.rise:∀ (l:List Sp) (stop:Nat),Str l stop→Rise (l++[endSp stop])
 | [],_,_=>trivial
 | [_],_,h=>⟨h,trivial⟩
 | _::t::r,stop,h=>⟨h.1,Str.rise (t::r) stop h.2⟩
def FnL (n:Nat) (f:Fn):Prop:=n≤f.line∧lnS f.line (f.body++[endSp f.stop])=some f.stop∧Rise (f.body++[endSp f.stop])
def FnsL:Nat→List Fn→Prop
 | _,[]=>True
 | n,f::r=>FnL n f∧FnsL f.stop r
theorem suf_ahead {ts r:List Tk} {e:Tk} (h:Suf ts (e::r)):ahead ts r=e:=by
 obtain ⟨n,h⟩:=h;have hl:(ts.drop n).length=r.length + 1:=by rw [← h]; rfl
 rw [List.length_drop] at hl;unfold ahead;rw [show ts.length - r.length - 1=n by omega,← h];rfl
theorem ffunc_lines {ts r:List Tk} {f:Fn} (hc:Ch ts) (h:ffunc ts=.ok (f,r)):f.line=(hd ts).line∧FnL (hd ts).line f∧∃ e,Suf ts (e::r)∧f.stop=e.line:=by
 unfold ffunc at h;obtain ⟨n,r1,h1,h⟩:=qbi h;obtain ⟨_,r2,h2,h⟩:=qbi h;obtain ⟨ps,r3,h3,h⟩:=qbi h;obtain ⟨_,r4,h4,h⟩:=qbi h;obtain ⟨b,r5,h5,h⟩:=qbi h;have s4:Suf ts r4:=(((Suf.tl ts).trans (fname_suf h1)).trans (fneed_suf' h2)).trans ((fpar_suf h3).trans (fneed_suf' h4));obtain ⟨e,he,hl,hs⟩:=(lines_all _).2.1 _ _ _ _ (hc.suf s4) h5;have hk:(hd r4).kind≠0:=by
  rw [fblk] at h5;obtain ⟨_,_,h6,_⟩:=qbi h5;exact sg_kind (fneed_suf h6).1
 have he:=he.pre s4
 have ha:=suf_ahead he.1;cases h;have n1:(hd ts).line≤(hd r4).line:=by
  rw [cons_of hk] at s4;exact hc.sle s4
 obtain ⟨b1,hb1,hb2⟩:=hl _ n1;refine ⟨rfl,⟨Nat.le_refl _,?_,?_⟩,e,he.1,by show (ahead ts r).line=e.line; rw [ha]⟩
 ·show lnS (hd ts).line (b++[endSp (ahead ts r).line])=some (ahead ts r).line;rw [ha];exact lnS_end _ _ b1 _ hb1 hb2
 ·show Rise (b++[endSp (ahead ts r).line]);rw [ha];exact hs.rise
theorem FnsL_app:∀ (l:List Fn) (n:Nat) (f:Fn),FnsL n l→(∀ m,(l=[]→m=n)→(∀ g ∈ l.getLast?,m=g.stop)→FnL m f)→FnsL n (l++[f])
 | [],n,f,_,h=>⟨h n (fun _=>rfl) (fun g hg=>by cases hg),trivial⟩
 | [g],n,f,h,k=>⟨h.1,k g.stop (fun e=>by cases e) (fun g' hg=>by cases hg; rfl),trivial⟩
 | g::g2::l,n,f,h,k=>⟨h.1,FnsL_app (g2::l) g.stop f h.2 fun m h1 h2=>k m (fun e=>by cases e) (fun g' hg=>h2 g' (by rw [List.getLast?_cons_cons] at hg; exact hg))⟩
theorem ffuns_lines:∀ (k:Nat) (l:List Fn) (ts:List Tk) (m:List Fn) (r:List Tk) (n:Nat),Ch ts→FnsL n l→((hd ts).kind≠0→(l=[]→n≤(hd ts).line)∧∀ g ∈ l.getLast?,g.stop≤(hd ts).line)→ffuns k l ts=.ok (m,r)→FnsL n m
 | 0,l,ts,m,r,n,_,_,_,h=>by rw [ffuns] at h; cases h
 | k + 1,l,ts,m,r,n,hc,hl,h0,h=>by
  rw [ffuns] at h;split at h
  ·rename_i hk;obtain ⟨f,r1,h1,h⟩:=qbi h;obtain ⟨g1,g2,e,g3,g4⟩:=ffunc_lines hc h1;obtain ⟨j1,j2⟩:=h0 (kw_kind hk);refine ffuns_lines k _ r1 m r n (hc.suf (g3.trans (.tl _))) (FnsL_app l n f hl fun x h1 h2=>?_) (fun hz=>⟨fun e=>by simp at e,fun g hg=>?_⟩) h
   ·refine ⟨?_,g2.2⟩;rw [g1];cases hg:l.getLast? with
    | none=>rw [h1 (List.getLast?_eq_none_iff.1 hg)]; exact j1 (List.getLast?_eq_none_iff.1 hg)
    | some g=>rw [h2 g hg]; exact j2 g hg
   ·rw [List.getLast?_append] at hg;cases hg;have c1:=hc.suf g3;rw [cons_of hz] at c1;show f.stop≤_;rw [g4];exact c1.1.1
  ·cases h; exact hl
theorem fprog_lines {ts r:List Tk} {p:Prg} (hc:Ch ts) (h1:∀ t ∈ ts,1≤t.line) (h:fprog ts=.ok (p,r)):FnsL 1 p.2:=by
 unfold fprog at h;obtain ⟨R,r1,h2,h⟩:=qbi h;obtain ⟨F,r2,h3,h⟩:=qbi h;split at h
 ·cases h;have s:=frecs_suf _ _ _ _ _ h2;refine ffuns_lines _ [] r1 F r 1 (hc.suf s) trivial (fun hk=>⟨fun _=>?_,fun g hg=>by cases hg⟩) h3;obtain ⟨n,rfl⟩:=s;have:=cons_of hk;exact h1 _ (List.mem_of_mem_drop (this ▸ List.mem_cons_self ..))
 ·cases h

/-! Tokens. -/
theorem Pg_drop:∀ (n:Nat) {s:List UInt8},Pg s=true→Pg (s.drop n)=true
 | 0,s,h=>h
 | n + 1,[],h=>h
 | n + 1,c::r,h=>by
  rw [Pg,Bool.and_eq_true] at h;exact Pg_drop n h.2
def Rdy (out:List Tk) (s:List UInt8) (line:Nat):Prop:=∀ t,out.getLast?=some t→t.line≤line∧(semi t→t.line < line∨List.isPrefixOf [101,108,115,101,32] s=true∨List.isPrefixOf [99,97,116,99,104,32] s=true)
theorem Ch_app:∀ (l:List Tk) (u:Tk),Ch l→(∀ t,l.getLast?=some t→Nx t u)→Ch (l++[u])
 | [],u,_,_=>trivial
 | [t],u,_,h=>⟨h t rfl,trivial⟩
 | t::v::l,u,h,k=>⟨h.1,Ch_app (v::l) u h.2 fun x hx=>k x (by rw [List.getLast?_cons_cons]; exact hx)⟩
theorem isPrefix_eq:∀ {p s:List UInt8},List.isPrefixOf p s=true→∃ r,s=p++r
 | [],s,_=>⟨s,rfl⟩
 | x::p,[],h=>by simp [List.isPrefixOf] at h
 | x::p,y::s,h=>by
  rw [List.isPrefixOf,Bool.and_eq_true] at h;obtain ⟨r,hr⟩:=isPrefix_eq h.2;exact ⟨r,by rw [hr,eq_of_beq h.1]; rfl⟩
theorem skip_else (r:List UInt8) (l:Nat):skip false ([32,101,108,115,101,32]++r) l=([101,108,115,101,32]++r,l):=by
 simp only [List.cons_append,List.nil_append];rw [skip_cons,skip_cons];rfl
theorem skip_catch (r:List UInt8) (l:Nat):skip false ([32,99,97,116,99,104,32]++r) l=([99,97,116,99,104,32]++r,l):=by
 simp only [List.cons_append,List.nil_append];rw [skip_cons,skip_cons];rfl
theorem one_line {s:List UInt8} {line:Nat} {t:Tk} {m:Nat} (h:one s line=.ok (t,m)):t.line=line:=by
 unfold one at h;cases s with
 | nil=>cases h
 | cons c r =>
  simp only at h;cases h1:isLet c with
  | true =>
   simp only [h1,cond_true] at h;split at h
   ·cases h
   ·cases h; rfl
  | false =>
   cases h2:isDig c with
   | true =>
    simp only [h1,h2,cond_true,cond_false] at h;split at h
    ·cases h
    split at h
    ·cases h
    ·cases h; rfl
   | false =>
    simp only [h1,h2,cond_false] at h;split at h
    ·cases h
    ·cases h; rfl
theorem sign_semi {c:UInt8} {r:List UInt8} {x:UInt8} (hx:x=59∨x=125) (h:sign (c::r)=[x]):c=x:=by
 unfold sign at h;split at h
 ·rename_i h1;have:∀ l ∈ signs2,l.length=2:=by decide
  have:=this _ h1;rw [h] at this;cases this
 ·simp only at h;by_cases h2:c ∈ signs1
  ·rw [if_pos h2] at h;cases h; rfl
  ·rw [if_neg h2] at h;cases h
theorem one_semi {c:UInt8} {r:List UInt8} {line:Nat} {t:Tk} {m:Nat} (h:one (c::r) line=.ok (t,m)) (hs:semi t):(c=59∨c=125)∧m=1:=by
 have hk:t.kind=4∧(t.text=[59]∨t.text=[125]):=by
  rcases hs with hs|hs
  ·exact ⟨(of_decide_eq_true hs).1,.inl (of_decide_eq_true hs).2⟩
  ·exact ⟨(of_decide_eq_true hs).1,.inr (of_decide_eq_true hs).2⟩
 unfold one at h;simp only at h;cases h1:isLet c with
 | true =>
  simp only [h1,cond_true] at h;split at h
  ·cases h
  ·cases h;have:=hk.1;simp only at this;split at this <;> cases this
 | false =>
  cases h2:isDig c with
  | true =>
   simp only [h1,h2,cond_true,cond_false] at h;split at h
   ·cases h
   split at h
   ·cases h
   ·cases h;exact absurd hk.1 (show ¬ (2:Nat)=4 by decide)
  | false =>
   simp only [h1,h2,cond_false] at h;split at h
   ·cases h
   ·cases h;rcases hk.2 with hk|hk
    ·have hk:sign (c::r)=[59]:=hk;exact ⟨.inl (sign_semi (.inl rfl) hk),by rw [hk]; rfl⟩
    ·have hk:sign (c::r)=[125]:=hk;exact ⟨.inr (sign_semi (.inr rfl) hk),by rw [hk]; rfl⟩
theorem one_else {r:List UInt8} {line:Nat} {t:Tk} {m:Nat} (h:one ([101,108,115,101,32]++r) line=.ok (t,m)):kw t wElse=true:=by
 have e:one ([101,108,115,101,32]++r) line=.ok (⟨3,line,wElse,0⟩,4):=rfl;rw [e] at h;cases h;rfl
theorem one_catch {r:List UInt8} {line:Nat} {t:Tk} {m:Nat} (h:one ([99,97,116,99,104,32]++r) line=.ok (t,m)):kw t wCatch=true:=by
 have e:one ([99,97,116,99,104,32]++r) line=.ok (⟨3,line,wCatch,0⟩,5):=rfl;rw [e] at h;cases h;rfl
theorem scanL_ch:∀ (k:Nat) (s:List UInt8) (line:Nat) (out:List Tk),Pg s=true→Ch out→Rdy out s line→(∀ t ∈ out,1≤t.line)→1≤line→Ch (scanL k s line out).1∧∀ t ∈ (scanL k s line out).1,1≤t.line
 | 0,s,line,out,_,_,_,_,_=>by rw [scanL]; exact ⟨trivial,fun t h=>by cases h⟩
 | k + 1,[],line,out,_,hc,hr,h1,hl=>by
  rw [scanL];refine ⟨Ch_app out _ hc fun t ht=>?_,fun t ht=>?_⟩
  ·obtain ⟨q1,q2⟩:=hr t ht;exact ⟨q1,fun hs=>(q2 hs).imp_right fun h=>by rcases h with h|h <;> cases h⟩
  ·rcases List.mem_append.1 ht with ht|ht
   ·exact h1 t ht
   ·rw [List.mem_singleton.1 ht]; exact hl
 | k + 1,c::r,line,out,hp,hc,hr,h1,hl=>by
  rw [scanL];cases ho:one (c::r) line with
  | error e=>exact ⟨trivial,fun t h=>by cases h⟩
  | ok p =>
   obtain ⟨t,m⟩:=p;simp only;split
   ·exact ⟨trivial,fun t h=>by cases h⟩
   ·have htl:=one_line ho;obtain ⟨_,_,hsl,n,hsn⟩:=skip_le false ((c::r).drop m) line;refine scanL_ch k _ _ _ (by rw [hsn]; exact Pg_drop n (Pg_drop m hp)) (Ch_app out t hc fun u hu=>?_) (fun u hu=>?_) (fun u hu=>?_) (by omega)
    ·obtain ⟨q1,q2⟩:=hr u hu;refine ⟨by omega,fun hs=>?_⟩;rcases q2 hs with q|q|q
     ·exact .inl (by omega)
     ·obtain ⟨r',hr'⟩:=isPrefix_eq q;rw [hr'] at ho;exact .inr (.inl (one_else ho))
     ·obtain ⟨r',hr'⟩:=isPrefix_eq q;rw [hr'] at ho;exact .inr (.inr (one_catch ho))
    ·rw [List.getLast?_append] at hu;cases hu;show t.line≤_∧(semi t→t.line < _∨_);refine ⟨by omega,fun hs=>?_⟩;obtain ⟨hcc,rfl⟩:=one_semi ho hs;rw [Pg,Bool.and_eq_true] at hp;have hp:=hp.1;rw [List.drop_succ_cons,List.drop_zero];have nl:∀ r':List UInt8,r=[10]++r'→t.line < (skip false r line).2:=fun r' e=>by
      rw [e];show t.line < (skip false (10::r') line).2;rw [skip_cons,if_pos rfl];have:=(skip_le false r' (line + 1)).2.2.1;omega
     rcases hcc with rfl|rfl
     ·obtain ⟨r',hr'⟩:=isPrefix_eq (show List.isPrefixOf [10] r=true from hp);exact .inl (nl r' hr')
     ·have hp:(List.isPrefixOf [10] r || List.isPrefixOf [32,101,108,115,101,32] r || List.isPrefixOf [32,99,97,116,99,104,32] r)=true:=hp;rw [Bool.or_eq_true,Bool.or_eq_true] at hp;rcases hp with (hp|hp)|hp
      ·obtain ⟨r',hr'⟩:=isPrefix_eq hp;exact .inl (nl r' hr')
      ·obtain ⟨r',rfl⟩:=isPrefix_eq hp;rw [skip_else];exact .inr (.inl rfl)
      ·obtain ⟨r',rfl⟩:=isPrefix_eq hp;rw [skip_catch];exact .inr (.inr rfl)
    ·rcases List.mem_append.1 hu with hu|hu
     ·exact h1 u hu
     ·rw [List.mem_singleton.1 hu]; omega
theorem scan_ch {s:List UInt8} (h:Pg s=true):Ch (scan s).1∧∀ t ∈ (scan s).1,1≤t.line:=by
 unfold scan;split
 ·exact ⟨trivial,fun t h=>by cases h⟩
 ·obtain ⟨_,_,hl,n,hn⟩:=skip_le false s 1;exact scanL_ch _ _ _ _ (by rw [hn]; exact Pg_drop n h) trivial (fun t h=>by cases h) (fun t h=>by cases h) hl
theorem pparse_lines {s:List UInt8} {p:Prg} (hs:Pg s=true) (h:pparse s=.ok p):FnsL 1 p.2:=by
 by_cases he:(scan s).2.2=0
 ·rw [pparse_of he] at h;cases hf:fprog (scan s).1 with
  | error e=>rw [hf] at h; cases h
  | ok q =>
   obtain ⟨p',r⟩:=q;rw [hf] at h;cases h;obtain ⟨c1,c2⟩:=scan_ch hs;exact fprog_lines c1 c2 hf
 ·rw [pparse_err he] at h;cases h
end Go.Proofs
namespace Go.Proofs
open Go.AM
attribute [local irreducible] AWP AOps ACalls AAny
def lnV:Option Nat→AV
 | none=>.tuple [.int .i64 0,.bool false]
 | some b=>.tuple [.int .i64 (b:Int),.bool true]
def LinesOk (l:List Sp):Prop:=∀ (n:Nat) (st:St),ACalls Tryz.prog 12 [.view 13 (spRows l) .shared,.int .i64 (n:Int)] st (fun v st'=>v=lnV (lnS n l)∧st'=st) (fun _ _=>False)
def bdX:Sp→List Sp
 | .mk _ _ _ _ _ _ _ _ bd _=>bd
def elX:Sp→List Sp
 | .mk _ _ _ _ _ _ _ _ _ el=>el
theorem lines_of {l:List Sp} (hl:l.length≤100001) (h:∀ s ∈ l,LinesOk (bdX s)∧LinesOk (elX s)):LinesOk l:=by
 intro n st;refine ACalls.ofBody Tryz.func12 rfl Tryz.ntmps12 rfl ?_;have hn:=spRows_len l;refine goD ?_;rw [hn];refine AWP.loop (α:=Nat × Nat) (fun x=>[(12,.int .i64 (x.1:Int)),(11,.int .i64 (l.length:Int)),(10,.view 13 (spRows l) .shared),(1,.int .i64 (x.2:Int))]) (fun _=>st) (fun x=>x.1≤l.length∧lnS n l=lnS x.2 (l.drop x.1)) (fun x=>l.length - x.1)
  (0,n) ⟨Nat.zero_le _,rfl⟩ (tl4 rfl rfl rfl rfl) (.refl _) ?_
 rintro ⟨i,m⟩ ⟨hi,hm⟩;simp only at hi hm;refine AWP.weaken (T':=[(12,.int .i64 (i:Int)),(11,.int .i64 (l.length:Int)),(10,.view 13 (spRows l) .shared),(1,.int .i64 (m:Int))]) (tl4 rfl rfl rfl rfl) (.refl _) ?_;refine goD ?_;refine AWP.cond_dec rfl (fun hc=>AWP.skip ?_) (fun hc=>AWP.exit (blk_hit ?_))
 ·have hlt:i < l.length:=by have:(i:Int) < (l.length:Int):=hc; omega
  obtain ⟨s,hs⟩:∃ x,l[i]?=some x:=⟨_,List.getElem?_eq_getElem hlt⟩;have hrec:=h s (List.mem_of_getElem? hs)
  have hrow:=sprow_at l i s hs
  have hd:l.drop i=s::l.drop (i + 1):=by rw [List.drop_eq_getElem_cons hlt,List.getElem?_eq_getElem hlt] at *; cases hs; rfl
  rw [hd] at hm;obtain ⟨k,ln,nm,ty,len,tg,fn,ar,bd,el⟩:=s;obtain ⟨h1,h2⟩:=hrec;have h1:LinesOk bd:=h1
  have h2:LinesOk el:=h2;rw [spRow] at hrow;have hir:i < (spRows l).length:=by omega
  refine goD ?_;by_cases c1:(ln:Int) < (m:Int)
  ·refine goD ?_;refine AWP.ret (rets rfl (.refl _) (.refl _) ⟨?_,rfl⟩);rw [hm,lnS,if_pos (show (Sp.mk k ln nm ty len tg fn ar bd el).line < m from Int.ofNat_lt.1 c1)];rfl
  have c1':¬ (Sp.mk k ln nm ty len tg fn ar bd el).line < m:=fun h=>c1 (Int.ofNat_lt.2 h);rw [lnS,if_neg c1',lnB] at hm;refine goD ?_;refine cle rfl rfl (h1 ln _) ?_;cases e1:lnS ln bd with
  | none =>
   rw [e1] at hm;unfold lnV;refine goD ?_;exact AWP.ret (rets rfl (.refl _) (.refl _) ⟨by rw [hm]; rfl,rfl⟩)
  | some a =>
   rw [e1] at hm;simp only at hm;unfold lnV;refine goD ?_;refine cle rfl rfl (h2 a _) ?_;cases e2:lnS a el with
   | none =>
    rw [e2] at hm;unfold lnV;refine goD ?_;exact AWP.ret (rets rfl (.refl _) (.refl _) ⟨by rw [hm]; rfl,rfl⟩)
   | some b =>
    rw [e2] at hm;unfold lnV;refine goD ?_;exact ⟨(i + 1,b),⟨hlt,hm⟩,by simp only; omega,(tl4 rfl rfl rfl rfl),.refl _⟩
 ·have hil:i=l.length:=by have:¬ (i:Int) < (l.length:Int):=hc; omega
  subst hil;rw [List.drop_length,lnS_nil] at hm;refine goD ?_;exact AWP.ret (rets rfl (.refl _) (.refl _) ⟨by rw [hm]; rfl,rfl⟩)
end Go.Proofs
namespace Go.Proofs
open Go.AM
attribute [local irreducible] AWP AOps ACalls
set_option linter.unusedSimpArgs false
def numL:List Int:=[0,1,2,3,5,7,4,10,100,1048576,2147483648,1099511627776,999999999999999999,6,8,9]
theorem g_number_ok (l:List Int) (hl:l.length≤17592186043904) (i:Nat) (hi:i≤l.length) (o:Nat) (st:St) (ho:st.obj o=some (tapeC l i)) :
  ACalls Tryz.prog 96 [.cptr o 2 0 0] st (fun v st'=>∃ n:Int,v=.int .i64 n∧0≤n∧n≤999999999999999999∧∃ j:Nat,j≤l.length∧st'=st.set o (tapeC l j)) (fun _ _=>False):=by
 refine ACalls.ofBody Tryz.func96 rfl Tryz.ntmps96 rfl ?_;refine goC ?_;refine rg ?_;refine goE ?_;refine goC ?_;refine rg ?_;refine bsh (cs:=numL.map (AV.int .i64)) rfl rfl rfl rfl rfl ?_;refine goD ?_;refine cl rfl rfl (next_ok l hl i hi 16 (by decide) (by decide) o _ ho) fun v st' ⟨n,hv,n0,n1,j,hj,hst⟩=>?_;subst hv;subst hst;obtain ⟨m,rfl⟩:∃ m:Nat,n=(m:Int):=⟨n.toNat,by omega⟩;have hm:m < 16:=by omega
 obtain ⟨x,hx,x0,x1⟩:∃ x:Int,(chunk (0 + 1) 16 (numL.map (AV.int .i64)))[m]?=some [.int .i64 x]∧0≤x∧x≤999999999999999999:=by
  match m,hm with
  | 0,_=>exact ⟨_,rfl,by decide,by decide⟩
  | 1,_=>exact ⟨_,rfl,by decide,by decide⟩
  | 2,_=>exact ⟨_,rfl,by decide,by decide⟩
  | 3,_=>exact ⟨_,rfl,by decide,by decide⟩
  | 4,_=>exact ⟨_,rfl,by decide,by decide⟩
  | 5,_=>exact ⟨_,rfl,by decide,by decide⟩
  | 6,_=>exact ⟨_,rfl,by decide,by decide⟩
  | 7,_=>exact ⟨_,rfl,by decide,by decide⟩
  | 8,_=>exact ⟨_,rfl,by decide,by decide⟩
  | 9,_=>exact ⟨_,rfl,by decide,by decide⟩
  | 10,_=>exact ⟨_,rfl,by decide,by decide⟩
  | 11,_=>exact ⟨_,rfl,by decide,by decide⟩
  | 12,_=>exact ⟨_,rfl,by decide,by decide⟩
  | 13,_=>exact ⟨_,rfl,by decide,by decide⟩
  | 14,_=>exact ⟨_,rfl,by decide,by decide⟩
  | 15,_=>exact ⟨_,rfl,by decide,by decide⟩
 refine ix (m:=m) rfl rfl rfl rfl (by exact hm) ?_;refine Go.AM.le rfl rfl hx rfl ?_;refine goD ?_;exact AWP.ret (rets rfl (.refl _) (.refl _) ⟨x,rfl,x0,x1,j,hj,rfl⟩)

instance (n:Int):PureFn Tryz.prog 95 [.int .i64 n] (.agg (exRow 0 n [] [] noE)) where
 out st:=by
  refine ACalls.ofBody Tryz.func95 rfl Tryz.ntmps95 rfl ?_;refine goC ?_;refine rg ?_;refine al rfl rfl fun o2 h2=>?_;refine goC ?_;refine rg ?_;refine goE ?_;refine bds (cs:=exRow 0 n [] [] nilV) rfl rfl rfl rfl ?_;refine soV rfl rfl rfl rfl rfl rfl ?_;refine goD ?_;exact AWP.ret (rets (resCW rfl (St.obj_set _ _ _) rfl rfl rfl rfl) (ex_nil _ _ _ _) (StLe.new h2 (.refl _)) ⟨rfl,rfl⟩)
instance (s:List UInt8):PureFn Tryz.prog 39 [.str s] (.agg (exRow 1 0 s [] noE)) where
 out st:=by
  refine ACalls.ofBody Tryz.func39 rfl Tryz.ntmps39 rfl ?_;refine goC ?_;refine rg ?_;refine al rfl rfl fun o2 h2=>?_;refine goC ?_;refine rg ?_;refine goE ?_;refine bds (cs:=exRow 1 0 s [] nilV) rfl rfl rfl rfl ?_;refine soV rfl rfl rfl rfl rfl rfl ?_;refine goD ?_;exact AWP.ret (rets (resCW rfl (St.obj_set _ _ _) rfl rfl rfl rfl) (ex_nil _ _ _ _) (StLe.new h2 (.refl _)) ⟨rfl,rfl⟩)
def GE:Nat→List AV→Prop
 | 0,_=>False
 | d + 1,row=>∃ (op num:Int) (name field:List UInt8) (rows:List (List AV)),row=exRow op num name field (.view 6 rows .shared)∧0≤op∧op≤30∧0≤num∧num≤999999999999999999∧LP 30 name∧LP 1 field ∧
   rows.length≤2∧∀ r ∈ rows,GE d r
theorem GE_row {d:Nat} {row:List AV} (h:GE d row):∃ (op num:Int) (name field:List UInt8) (rows:List (List AV)),row=exRow op num name field (.view 6 rows .shared):=by
 cases d with
 | zero=>exact h.elim
 | succ d=>obtain ⟨op,num,name,field,rows,rfl,_⟩:=h; exact ⟨_,_,_,_,_,rfl⟩
theorem GE_lit (d:Nat) {n:Int} (h0:0≤n) (h1:n≤999999999999999999):GE (d + 1) (exRow 0 n [] [] noE) :=
 ⟨0,n,[],[],[],rfl,by decide,by decide,h0,h1,by decide,by decide,by decide,fun r h=>by cases h⟩
theorem GE_var (d:Nat) {s:List UInt8} (h:LP 30 s):GE (d + 1) (exRow 1 0 s [] noE) :=
 ⟨1,0,s,[],[],rfl,by decide,by decide,by decide,by decide,h,by decide,by decide,fun r h=>by cases h⟩
def mkRow (oT:Nat) (f funcs:Int) (pv sv tv av:AV) (count left:Int):List AV:=[.cptr oT 2 0 0,.int .i64 f,.int .i64 funcs,pv,sv,tv,av,.int .i64 count,.int .i64 left]
def mkC (oT:Nat) (f funcs:Int) (pv sv tv av:AV) (count left:Int):AObj:=.cells 92 9 [mkRow oT f funcs pv sv tv av count left]
structure NL (v:AV) where
 rows:List (List AV)
 tok:AM.Tok
 is:v=.view 1 rows tok
 len:rows.length≤60
 name:∀ (i:Nat),i < rows.length→∃ s:List UInt8,rows[i]?=some [.str s]∧LP 30 s
def TI (l:List Int) (oT:Nat) (st s:St):Prop:=∃ j:Nat,j≤l.length∧s=st.set oT (tapeC l j)
theorem TI.set {l:List Int} {oT j:Nat} {st:St} (hj:j≤l.length):TI l oT st (st.set oT (tapeC l j)):=⟨j,hj,rfl⟩
theorem TI.obj {l:List Int} {oT:Nat} {st s:St} (h:TI l oT st s):∃ j:Nat,j≤l.length∧s.obj oT=some (tapeC l j):=by
 obtain ⟨j,hj,rfl⟩:=h;exact ⟨j,hj,St.obj_set _ _ _⟩
theorem TI.trans {l:List Int} {oT:Nat} {st s s':St} (h:TI l oT st s) (k:TI l oT s s'):TI l oT st s':=by
 obtain ⟨j,hj,rfl⟩:=h;obtain ⟨i,hi,rfl⟩:=k;exact ⟨i,hi,St.set_set _ _ _ _⟩
theorem TI.other {l:List Int} {oT p:Nat} {st s:St} (h:TI l oT st s) (hp:p≠oT):s.obj p=st.obj p:=by
 obtain ⟨j,hj,rfl⟩:=h;exact St.obj_set_ne hp
theorem next_ti (l:List Int) (hl:l.length≤17592186043904) (k:Int) (hk:0 < k) (hk2:k≤4611686018427387904) (o:Nat) (st s:St) (h:TI l o st s) :
  ACalls Tryz.prog 37 [.cptr o 2 0 0,.int .i64 k] s (fun v s'=>(∃ n:Int,v=.int .i64 n∧0≤n∧n < k)∧TI l o st s') (fun _ _=>False):=by
 obtain ⟨j,hj,ho⟩:=h.obj;refine (next_ok l hl j hj k hk hk2 o s ho).mono (fun v s' h'=>?_) (fun _ _ h=>h);obtain ⟨n,hv,n0,n1,i,hi,hs⟩:=h';exact ⟨⟨n,hv,n0,n1⟩,h.trans ⟨i,hi,hs⟩⟩
theorem number_ti (l:List Int) (hl:l.length≤17592186043904) (o:Nat) (st s:St) (h:TI l o st s) :
  ACalls Tryz.prog 96 [.cptr o 2 0 0] s (fun v s'=>(∃ n:Int,v=.int .i64 n∧0≤n∧n≤999999999999999999)∧TI l o st s') (fun _ _=>False):=by
 obtain ⟨j,hj,ho⟩:=h.obj;refine (g_number_ok l hl j hj o s ho).mono (fun v s' h'=>?_) (fun _ _ h=>h);obtain ⟨n,hv,n0,n1,i,hi,hs⟩:=h';exact ⟨⟨n,hv,n0,n1⟩,h.trans ⟨i,hi,hs⟩⟩
theorem TI.under {l:List Int} {oT p:Nat} {st s:St} {c:AObj} (h:TI l oT st s) (hp:p≠oT):TI l oT (st.set p c) (s.set p c):=by
 obtain ⟨j,hj,rfl⟩:=h;exact ⟨j,hj,St.set_comm _ (fun e=>hp e.symm) _ _⟩
def ExprC (l:List Int) (oT oM:Nat) (st:St) (deep:Int) (d:Nat):Prop:=∀ st0 s,st0.obj oM=st.obj oM→TI l oT st0 s →
 ACalls Tryz.prog 67 [.cptr oM 9 0 0,.int .i64 deep] s (fun v s'=>(∃ row,v=.agg row∧GE d row)∧TI l oT st0 s') (fun _ _=>False)
set_option maxHeartbeats 4000000 in
theorem element_ok (l:List Int) (hl:l.length≤17592186043904) (oT oM:Nat) (hne:oM≠oT) (st0 s:St) (f funcs:Int) (pv sv tv av:AV) (count left:Int) (A:NL av) (hA:0 < A.rows.length) (hM0:st0.obj oM=some (mkC oT f funcs pv sv tv av count left)) (h:TI l oT st0 s) (deep:Int) (d:Nat) (hd:∀ n:Int,0≤n→n≤999999999999999999→GE d (exRow 0 n [] [] noE)) (hE:ExprC l oT oM st0 deep d) :
  ACalls Tryz.prog 97 [.cptr oM 9 0 0,.int .i64 deep] s (fun v s'=>(∃ row,v=.agg row∧GE (d + 1) row)∧TI l oT st0 s') (fun _ _=>False):=by
 refine ACalls.ofBody Tryz.func97 rfl Tryz.ntmps97 rfl ?_;obtain ⟨rows,tok,rfl,rl,rn⟩:=A;simp only at hA;refine goC ?_;refine rg ?_;refine al rfl rfl fun o4 h4=>?_;have o4T:o4≠oT:=fun e=>by obtain ⟨j,_,hj⟩:=h.obj; rw [e,hj] at h4; cases h4
 have o4M:oM≠o4:=fun e=>by rw [← e,h.other hne,hM0] at h4; cases h4
 generalize hz:AObj.cells 95 6 [zrow (Value.agg #[.int .i64 0,.int .i64 0,.int .i64 0,.string ⟨#[]⟩,.string ⟨#[]⟩,.slice none 0 0])]=z;have h1:=h.under (c:=z) o4T;obtain ⟨b1,hb1⟩:∃ b1,b1=st0.set o4 z:=⟨_,rfl⟩;rw [← hb1] at h1;have hM1:b1.obj oM=some (mkC oT f funcs pv sv tv (.view 1 rows tok) count left):=by rw [hb1,St.obj_set_ne o4M]; exact hM0
 have hM:∀ x,TI l oT b1 x→x.obj oM=some (mkC oT f funcs pv sv tv (.view 1 rows tok) count left):=fun x hx=>by rw [hx.other hne]; exact hM1
 generalize s.set o4 z=s1 at h1;refine goC ?_;apply AWP.drawI (hm:=rfl) (k:=14) (I:=TI l oT b1) (hI:=h1)
 case hok=>rfl
 repeat (first|apply diQ (hd:=rfl) (hw:=rfl) (h:=fun st1 hI=>lc rfl rfl (hM st1 hI) rfl rfl (nl ⟨_,rfl,rfl,rfl⟩))|apply diQ (hd:=rfl) (hw:=rfl) (h:=fun _ _=>ZA (z:=nz))|apply diQ (hd:=rfl) (hw:=rfl) (h:=fun _ _=>ZC (z:=nz))|apply diQ (hd:=rfl) (hw:=rfl) (h:=fun _ _=>ZJ (z:=nz)))
 apply diE (Q:=fun v=>∃ n:Int,v=.int .i64 n∧0≤n∧n < (rows.length:Int)) (hd:=rfl) (hw:=rfl) (hex:=⟨_,0,rfl,by decide,by omega⟩) (h:=fun x hx=>cl rfl rfl (next_ti l hl (rows.length:Int) (by omega) (by omega) oT b1 x hx) fun v s' hv=>nl ⟨v,rfl,hv⟩);rintro v ⟨n,rfl,n0,n1⟩;refine diN fun s2 h2=>?_;obtain ⟨m,rfl⟩:∃ m:Nat,n=(m:Int):=⟨n.toNat,by omega⟩;obtain ⟨w,hw,wl⟩:=rn m (by omega);refine ix (m:=m) rfl rfl rfl rfl (by omega) ?_;refine Go.AM.le rfl rfl hw rfl ?_;refine goD ?_;refine lc rfl rfl (hM s2 h2) rfl rfl ?_;refine cl rfl rfl (next_ti l hl 3 (by decide) (by decide) oT b1 s2 h2) fun v s3 ⟨⟨c,hv,c0,c1⟩,h3⟩=>?_;subst hv;refine goD ?_;have fin:∀ x,TI l oT b1 x→∃ y,TI l oT st0 y∧x=y.set o4 z∧y.obj o4=none:=fun x ⟨j,hj,hx⟩=>⟨st0.set oT (tapeC l j),⟨j,hj,rfl⟩,by rw [hx,hb1,St.set_comm _ o4T],by
  obtain ⟨i,_,hi⟩:=h;rw [hi,St.obj_set_ne o4T] at h4;rw [St.obj_set_ne o4T,h4]⟩
 refine AWP.cond_dec rfl (fun h0=>?_) (fun h0=>AWP.skip ?_)
 ·refine goD ?_;refine lc rfl rfl (hM s3 h3) rfl rfl ?_;refine cl rfl rfl (next_ti l hl 3 (by decide) (by decide) oT b1 s3 h3) fun v s4 ⟨⟨e,hv,e0,e1⟩,h4'⟩=>?_;subst hv;refine goE ?_;refine bds (cs:=exRow 3 0 w [] (.view 6 [exRow 0 e [] [] noE] .shared)) rfl rfl rfl rfl ?_;obtain ⟨y,hy,rfl,y4⟩:=fin s4 h4';subst hz;refine soV rfl rfl rfl rfl rfl rfl ?_;refine goD ?_;exact AWP.ret (rets (resCW rfl (St.obj_set _ _ _) rfl rfl rfl rfl) (.refl _) (StLe.new y4 (.refl _)) ⟨⟨_,rfl,3,0,w,[],_,rfl,by decide,by decide,by decide,by decide,wl,by decide,by simp,fun r hr=>by rw [List.mem_singleton] at hr; subst hr; exact hd e e0 (by omega)⟩,hy⟩)
 ·refine goD ?_;refine cl rfl rfl (hE b1 s3 (hM1.trans hM0.symm) h3) fun v s4 ⟨⟨row,hv,hg⟩,h4'⟩=>?_;subst hv;obtain ⟨p1,p2,p3,p4,p5,rfl⟩:=GE_row hg;refine goE ?_;refine bds (cs:=exRow 3 0 w [] (.view 6 [exRow p1 p2 p3 p4 (.view 6 p5 .shared)] .shared)) rfl rfl rfl rfl ?_;obtain ⟨y,hy,rfl,y4⟩:=fin s4 h4';subst hz;refine soV rfl rfl rfl rfl rfl rfl ?_;refine goD ?_;exact AWP.ret (rets (resCW rfl (St.obj_set _ _ _) rfl rfl rfl rfl) (.refl _) (StLe.new y4 (.refl _)) ⟨⟨_,rfl,3,0,w,[],_,rfl,by decide,by decide,by decide,by decide,wl,by decide,by simp,fun r hr=>by rw [List.mem_singleton] at hr; subst hr; exact hg⟩,hy⟩)
set_option maxHeartbeats 4000000 in
theorem expr_step (l:List Int) (hl:l.length≤17592186043904) (oT oM:Nat) (hne:oM≠oT) (st0 s:St) (f funcs:Int) (pv sv tv av:AV) (count left:Int) (S:NL sv) (D:NL tv) (A:NL av) (hM0:st0.obj oM=some (mkC oT f funcs pv sv tv av count left)) (h:TI l oT st0 s) (deep:Int) (d:Nat)
  (d0:0≤deep) (d1:deep < 3) (hE:ExprC l oT oM st0 (deep + 1) (d + 1)) :
  ACalls Tryz.prog 67 [.cptr oM 9 0 0,.int .i64 deep] s (fun v s'=>(∃ row,v=.agg row∧GE (d + 2) row)∧TI l oT st0 s') (fun _ _=>False):=by
 refine ACalls.ofBody Tryz.func67 rfl Tryz.ntmps67 rfl ?_;obtain ⟨rS,kS,rfl,lS,nS⟩:=S;obtain ⟨rD,kD,rfl,lD,nD⟩:=D;obtain ⟨rA,kA,hA,lA,nA⟩:=A;subst hA;refine goC ?_;refine rg ?_;refine al rfl rfl fun o4 h4=>?_;have o4T:o4≠oT:=fun e=>by obtain ⟨j,_,hj⟩:=h.obj; rw [e,hj] at h4; cases h4
 have o4M:oM≠o4:=fun e=>by rw [← e,h.other hne,hM0] at h4; cases h4
 generalize hz:AObj.cells 95 6 [zrow (Value.agg #[.int .i64 0,.int .i64 0,.int .i64 0,.string ⟨#[]⟩,.string ⟨#[]⟩,.slice none 0 0])]=z;have h1:=h.under (c:=z) o4T;obtain ⟨b1,hb1⟩:∃ b1,b1=st0.set o4 z:=⟨_,rfl⟩;rw [← hb1] at h1;have hM1:b1.obj oM=some (mkC oT f funcs pv (.view 1 rS kS) (.view 1 rD kD) (.view 1 rA kA) count left):=by rw [hb1,St.obj_set_ne o4M]; exact hM0
 have hM:∀ x,TI l oT b1 x→x.obj oM=some (mkC oT f funcs pv (.view 1 rS kS) (.view 1 rD kD) (.view 1 rA kA) count left):=fun x hx=>by rw [hx.other hne]; exact hM1
 have fin:∀ x,TI l oT b1 x→∃ y,TI l oT st0 y∧x=y.set o4 z∧y.obj o4=none:=fun x ⟨j,hj,hx⟩=>⟨st0.set oT (tapeC l j),⟨j,hj,rfl⟩,by rw [hx,hb1,St.set_comm _ o4T],by
  obtain ⟨i,_,hi⟩:=h;rw [hi,St.obj_set_ne o4T] at h4;rw [St.obj_set_ne o4T,h4]⟩
 have hEb:∀ b,b.obj oM=some (mkC oT f funcs pv (.view 1 rS kS) (.view 1 rD kD) (.view 1 rA kA) count left)→ExprC l oT oM b (deep + 1) (d + 1):=fun b hb st1 x hx hx'=>hE st1 x (hx.trans (hb.trans hM0.symm)) hx';generalize s.set o4 z=s1 at h1;refine goD ?_;refine lc rfl rfl (hM s1 h1) rfl rfl ?_;refine cl rfl rfl (next_ti l hl 16 (by decide) (by decide) oT b1 s1 h1) fun v s2 ⟨⟨k,hv,k0,k1⟩,h2⟩=>?_;subst hv;clear h1 h;have m2:=hM s2 h2;refine goE ?_;refine nl ?_;refine AWP.cut True [(4,.cptr o4 6 0 0),(1,.int .i64 deep),(0,.cptr oM 9 0 0)] s2 ?_ fun _=>?_
 ·refine goC ?_;by_cases c1:k < 3
  ·refine goD ?_;refine cl rfl rfl (number_ti l hl oT b1 s2 h2) fun v s3 ⟨⟨x,hv,x0,x1⟩,h3⟩=>?_;subst hv;refine goE ?_;obtain ⟨y,hy,rfl,y4⟩:=fin s3 h3;subst hz;refine soV rfl rfl rfl rfl rfl rfl ?_;refine goD ?_;exact AWP.ret (rets (resCW rfl (St.obj_set _ _ _) rfl rfl rfl rfl) (.refl _) (StLe.new y4 (.refl _)) ⟨⟨_,rfl,GE_lit (d + 1) x0 x1⟩,hy⟩)
  by_cases c2:k < 8
  ·by_cases c3:0 < (rS.length:Int)
   ·refine goD ?_;apply AWP.drawI (hm:=rfl) (k:=14) (I:=TI l oT b1) (hI:=h2)
    case hok=>rfl
    repeat (first|apply diQ (hd:=rfl) (hw:=rfl) (h:=fun st1 hI=>lc rfl rfl (hM st1 hI) rfl rfl (nl ⟨_,rfl,rfl,rfl⟩))|apply diQ (hd:=rfl) (hw:=rfl) (h:=fun _ _=>ZA (z:=nz))|apply diQ (hd:=rfl) (hw:=rfl) (h:=fun _ _=>ZC (z:=nz))|apply diQ (hd:=rfl) (hw:=rfl) (h:=fun _ _=>ZJ (z:=nz)))
    apply diE (Q:=fun v=>∃ n:Int,v=.int .i64 n∧0≤n∧n < (rS.length:Int)) (hd:=rfl) (hw:=rfl) (hex:=⟨_,0,rfl,by decide,by omega⟩) (h:=fun x hx=>cl rfl rfl (next_ti l hl (rS.length:Int) (by omega) (by omega) oT b1 x hx) fun v s' hv=>nl ⟨v,rfl,hv⟩);rintro v ⟨n,rfl,n0,n1⟩;refine diN fun s3 h3=>?_;obtain ⟨m,rfl⟩:∃ m:Nat,n=(m:Int):=⟨n.toNat,by omega⟩;obtain ⟨w,hw,wl⟩:=nS m (by omega);refine ix (m:=m) rfl rfl rfl rfl (by omega) ?_;refine Go.AM.le rfl rfl hw rfl ?_;refine goE ?_;obtain ⟨y,hy,rfl,y4⟩:=fin s3 h3;subst hz;refine soV rfl rfl rfl rfl rfl rfl ?_;refine goD ?_;exact AWP.ret (rets (resCW rfl (St.obj_set _ _ _) rfl rfl rfl rfl) (.refl _) (StLe.new y4 (.refl _)) ⟨⟨_,rfl,GE_var (d + 1) wl⟩,hy⟩)
   ·refine goD ?_;exact ⟨(tl3 rfl rfl rfl),.refl _,trivial⟩
  by_cases c4:k=8
  ·by_cases c5:0 < (rD.length:Int)
   ·refine goD ?_;apply AWP.drawI (hm:=rfl) (k:=24) (I:=TI l oT b1) (hI:=h2)
    case hok=>rfl
    repeat (first|apply diQ (hd:=rfl) (hw:=rfl) (h:=fun st1 hI=>lc rfl rfl (hM st1 hI) rfl rfl (nl ⟨_,rfl,rfl,rfl⟩))|apply diQ (hd:=rfl) (hw:=rfl) (h:=fun _ _=>ZA (z:=nz))|apply diQ (hd:=rfl) (hw:=rfl) (h:=fun _ _=>ZC (z:=nz))|apply diQ (hd:=rfl) (hw:=rfl) (h:=fun _ _=>ZJ (z:=nz)))
    apply diE (Q:=fun v=>∃ m:Nat,v=.int .i64 (m:Int)∧m < rD.length) (hd:=rfl) (hw:=rfl) (hex:=⟨_,0,rfl,by omega⟩) (h:=fun x hx=>cl rfl rfl (next_ti l hl (rD.length:Int) (by omega) (by omega) oT b1 x hx) fun v s' ⟨⟨n,hv,n0,n1⟩,hs⟩=>nl ⟨v,rfl,⟨n.toNat,by rw [hv,Int.toNat_of_nonneg n0],by omega⟩,hs⟩);rintro v ⟨m,rfl,hm⟩;obtain ⟨q0,hq0,hq0l⟩:=nD m hm;apply diE (Q:=fun v=>∃ m:Nat,v=.eptr 1 rD m 0∧m < rD.length) (hd:=rfl) (hw:=rfl) (hex:=⟨_,m,rfl,hm⟩) (h:=fun x hx=>ix (m:=m) rfl rfl rfl rfl hm (nl ⟨_,rfl,⟨m,rfl,hm⟩,hx⟩));rintro v ⟨m1,rfl,hm1⟩;obtain ⟨q1,hq1,hq1l⟩:=nD m1 hm1;apply diE (Q:=fun v=>∃ w:List UInt8,v=.str w∧LP 30 w) (hd:=rfl) (hw:=rfl) (hex:=⟨_,q1,rfl,hq1l⟩) (h:=fun x hx=>Go.AM.le rfl rfl hq1 rfl (nl ⟨_,rfl,⟨q1,rfl,hq1l⟩,hx⟩));rintro v ⟨w,rfl,wl⟩;apply diQ (hd:=rfl) (hw:=rfl) (h:=fun x hx=>bsh (cs:=[.str [120],.str [121]]) rfl rfl rfl rfl rfl (nl ⟨_,rfl,rfl,rfl⟩));repeat (first|apply diQ (hd:=rfl) (hw:=rfl) (h:=fun st1 hI=>lc rfl rfl (hM st1 hI) rfl rfl (nl ⟨_,rfl,rfl,rfl⟩))|apply diQ (hd:=rfl) (hw:=rfl) (h:=fun _ _=>ZA (z:=nz))|apply diQ (hd:=rfl) (hw:=rfl) (h:=fun _ _=>ZC (z:=nz)))
    apply diE (Q:=fun v=>∃ m:Nat,v=.int .i64 (m:Int)∧m < 2) (hd:=rfl) (hw:=rfl) (hex:=⟨_,0,rfl,by decide⟩) (h:=fun x hx=>cl rfl rfl (next_ti l hl 2 (by decide) (by decide) oT b1 x hx) fun v s' ⟨⟨n,hv,n0,n1⟩,hs⟩=>nl ⟨v,rfl,⟨n.toNat,by rw [hv,Int.toNat_of_nonneg n0],by omega⟩,hs⟩);rintro v ⟨m2,rfl,hm2⟩;have fxy:∀ m,m < 2→∃ b:List UInt8,(chunk (0 + 1) 2 [AV.str [120],AV.str [121]])[m]?=some [.str b]∧LP 1 b:=fun m hm=>match m,hm with
     | 0,_=>⟨_,rfl,by decide⟩
     | 1,_=>⟨_,rfl,by decide⟩
    apply diE (Q:=fun v=>∃ m:Nat,v=.eptr 1 (chunk (0 + 1) 2 [AV.str [120],AV.str [121]]) m 0∧m < 2) (hd:=rfl) (hw:=rfl) (hex:=⟨_,m2,rfl,hm2⟩) (h:=fun x hx=>ix (m:=m2) rfl rfl rfl rfl (by exact hm2) (nl ⟨_,rfl,⟨m2,rfl,hm2⟩,hx⟩));rintro v ⟨m3,rfl,hm3⟩;obtain ⟨b3,hb3,hb3l⟩:=fxy m3 hm3;apply diE (Q:=fun v=>∃ w:List UInt8,v=.str w∧LP 1 w) (hd:=rfl) (hw:=rfl) (hex:=⟨_,b3,rfl,hb3l⟩) (h:=fun x hx=>Go.AM.le rfl rfl hb3 rfl (nl ⟨_,rfl,⟨b3,rfl,hb3l⟩,hx⟩));rintro v ⟨fw,rfl,fl⟩;refine diN fun s3 h3=>?_;refine bds (cs:=exRow 2 0 w fw nilV) rfl rfl rfl rfl ?_;obtain ⟨y,hy,rfl,y4⟩:=fin s3 h3;subst hz;refine soV rfl rfl rfl rfl rfl rfl ?_;refine goD ?_;exact AWP.ret (rets (resCW rfl (St.obj_set _ _ _) rfl rfl rfl rfl) (ex_nil _ _ _ _) (StLe.new y4 (.refl _)) ⟨⟨_,rfl,2,0,w,fw,[],rfl,by decide,by decide,by decide,by decide,wl,fl,by decide,fun r hr=>by cases hr⟩,hy⟩)
   ·refine goD ?_;exact ⟨(tl3 rfl rfl rfl),.refl _,trivial⟩
  by_cases c6:k=9
  ·by_cases c7:0 < (rA.length:Int)
   ·refine goD ?_;refine Go.AM.ad rfl rfl rfl (by omega) ?_
    skip
    refine cl rfl rfl (element_ok l hl oT oM hne b1 s2 f funcs pv (.view 1 rS kS) (.view 1 rD kD) (.view 1 rA kA) count left ⟨rA,kA,rfl,lA,nA⟩ (by simpa using c7) hM1 h2 (deep + 1) (d + 1) (fun n n0 n1=>GE_lit d n0 n1) (hEb b1 hM1)) fun v s3 ⟨⟨row,hv,hg⟩,h3⟩=>?_;subst hv;obtain ⟨p1,p2,p3,p4,p5,rfl⟩:=GE_row hg;obtain ⟨y,hy,rfl,y4⟩:=fin s3 h3;subst hz
    skip
    refine soV rfl rfl rfl rfl rfl rfl ?_;refine goD ?_;exact AWP.ret (rets (resCW rfl (St.obj_set _ _ _) rfl rfl rfl rfl) (.refl _) (StLe.new y4 (.refl _)) ⟨⟨_,rfl,hg⟩,hy⟩)
   ·refine goD ?_;exact ⟨(tl3 rfl rfl rfl),.refl _,trivial⟩
  by_cases c8:k=10
  ·refine goD ?_;refine cl rfl rfl (next_ti l hl 2 (by decide) (by decide) oT b1 s2 h2) fun v s3 ⟨⟨c,hv,n0,n1⟩,h3⟩=>?_;subst hv
   skip
   refine Go.AM.ad rfl rfl rfl (by omega) ?_;refine goE ?_;refine Go.AM.ad rfl rfl rfl (by omega) ?_
   skip
   refine cl rfl rfl (hEb b1 hM1 b1 s3 rfl h3) fun v s4 ⟨⟨row,hv,hg⟩,h4'⟩=>?_;subst hv;obtain ⟨p1,p2,p3,p4,p5,rfl⟩:=GE_row hg;refine goE ?_;refine bds (cs:=exRow (4 + c) 0 [] [] (.view 6 [exRow p1 p2 p3 p4 (.view 6 p5 .shared)] .shared)) rfl rfl rfl rfl ?_;obtain ⟨y,hy,rfl,y4⟩:=fin s4 h4';subst hz;refine soV rfl rfl rfl rfl rfl rfl ?_;refine goD ?_;exact AWP.ret (rets (resCW rfl (St.obj_set _ _ _) rfl rfl rfl rfl) (.refl _) (StLe.new y4 (.refl _)) ⟨⟨_,rfl,4 + c,0,[],[],_,rfl,by omega,by omega,by decide,by decide,by decide,by decide,by simp,fun r hr=>by rw [List.mem_singleton] at hr; subst hr; exact hg⟩,hy⟩)
  refine goD ?_;exact ⟨(tl3 rfl rfl rfl),.refl _,trivial⟩
 refine goD ?_;refine cl rfl rfl (next_ti l hl 12 (by decide) (by decide) oT b1 s2 h2) fun v s3 ⟨⟨c,hv,n0,n1⟩,h3⟩=>?_;subst hv;have m3:=hM s3 h3
 skip
 refine Go.AM.ad rfl rfl rfl (by omega) ?_;refine goD ?_;refine Go.AM.ad rfl rfl rfl (by omega) ?_
 skip
 refine cl rfl rfl (hEb b1 hM1 b1 s3 rfl h3) fun v s4 ⟨⟨row,hv,hg⟩,h4'⟩=>?_;subst hv;obtain ⟨p1,p2,p3,p4,p5,rfl⟩:=GE_row hg;refine goD ?_;refine AWP.weaken (tl5 (i0:=7) (i1:=6) (i2:=4) (i3:=1) (i4:=0) rfl rfl rfl rfl rfl) (.refl _) ?_;apply AWP.drawI (hm:=rfl) (k:=7) (I:=TI l oT b1) (hI:=h4')
 case hok=>rfl
 repeat (first|apply diQ (hd:=rfl) (hw:=rfl) (h:=fun _ _=>ZA (z:=nz))|apply diQ (hd:=rfl) (hw:=rfl) (h:=fun _ _=>ZD (z:=nz))|apply diQ (hd:=rfl) (hw:=rfl) (h:=fun _ _=>YJ (z:=nz)))
 apply diE (Q:=fun v=>∃ row,v=.agg row∧GE (d + 1) row) (hd:=rfl) (hw:=rfl) (hex:=⟨_,_,rfl,hg⟩) (h:=fun x hx=>cl rfl rfl (hEb b1 hM1 b1 x rfl hx) fun v s' hv=>nl ⟨v,rfl,hv⟩);rintro v ⟨row2,rfl,hg2⟩;obtain ⟨q1,q2,q3,q4,q5,rfl⟩:=GE_row hg2;apply diE (Q:=fun v=>∃ row,v=.view 6 [exRow p1 p2 p3 p4 (.view 6 p5 .shared),row] .shared∧GE (d + 1) row) (hd:=rfl) (hw:=rfl) (hex:=⟨_,_,rfl,hg⟩) (h:=fun x hx=>bsh (cs:=exRow p1 p2 p3 p4 (.view 6 p5 .shared)++exRow q1 q2 q3 q4 (.view 6 q5 .shared)) rfl rfl rfl rfl rfl (nl ⟨_,rfl,⟨exRow q1 q2 q3 q4 (.view 6 q5 .shared),rfl,hg2⟩,hx⟩));rintro v ⟨row3,rfl,hg3⟩;refine diN fun s5 h5=>?_;obtain ⟨r1,r2,r3,r4,r5,rfl⟩:=GE_row hg3;refine bds (cs:=exRow (6 + c) 0 [] [] (.view 6 [exRow p1 p2 p3 p4 (.view 6 p5 .shared),exRow r1 r2 r3 r4 (.view 6 r5 .shared)] .shared)) rfl rfl rfl rfl ?_;obtain ⟨y,hy,rfl,y4⟩:=fin s5 h5;subst hz;refine soV rfl rfl rfl rfl rfl rfl ?_;refine goD ?_;exact AWP.ret (rets (resCW rfl (St.obj_set _ _ _) rfl rfl rfl rfl) (.refl _) (StLe.new y4 (.refl _)) ⟨⟨_,rfl,6 + c,0,[],[],_,rfl,by omega,by omega,by decide,by decide,by decide,by decide,by simp,fun r hr=>by
  rw [List.mem_cons,List.mem_singleton] at hr;rcases hr with hr|hr <;> subst hr
  ·exact hg
  ·exact hg3⟩,hy⟩)
end Go.Proofs
namespace Go.Proofs
open Go.AM
attribute [local irreducible] AWP AOps ACalls AAny
set_option linter.unusedSimpArgs false
theorem GE_mono:∀ {d:Nat} {row:List AV},GE d row→GE (d + 1) row
 | 0,_,h=>h.elim
 | d + 1,row,h=>by
  obtain ⟨op,num,name,field,rows,rfl,h1,h2,h3,h4,h5,h6,h7,h8⟩:=h;exact ⟨op,num,name,field,rows,rfl,h1,h2,h3,h4,h5,h6,h7,fun r hr=>GE_mono (h8 r hr)⟩
theorem GE_le {d e:Nat} (hde:d≤e) {row:List AV} (h:GE d row):GE e row:=by
 induction hde with
 | refl=>exact h
 | step _ ih=>exact GE_mono ih
set_option maxHeartbeats 4000000 in
theorem expr_deep (l:List Int) (hl:l.length≤17592186043904) (oT oM:Nat) (hne:oM≠oT) (st0 s:St) (f funcs:Int) (pv sv tv av:AV) (count left:Int) (hM0:st0.obj oM=some (mkC oT f funcs pv sv tv av count left)) (h:TI l oT st0 s) (deep:Int) (d1:3≤deep) :
  ACalls Tryz.prog 67 [.cptr oM 9 0 0,.int .i64 deep] s (fun v s'=>(∃ row,v=.agg row∧GE 1 row)∧TI l oT st0 s') (fun _ _=>False):=by
 refine ACalls.ofBody Tryz.func67 rfl Tryz.ntmps67 rfl ?_;refine goC ?_;refine rg ?_;refine al rfl rfl fun o4 h4=>?_;have o4T:o4≠oT:=fun e=>by obtain ⟨j,_,hj⟩:=h.obj; rw [e,hj] at h4; cases h4
 have o4M:oM≠o4:=fun e=>by rw [← e,h.other hne,hM0] at h4; cases h4
 generalize hz:AObj.cells 95 6 [zrow (Value.agg #[.int .i64 0,.int .i64 0,.int .i64 0,.string ⟨#[]⟩,.string ⟨#[]⟩,.slice none 0 0])]=z;have h1:=h.under (c:=z) o4T;obtain ⟨b1,hb1⟩:∃ b1,b1=st0.set o4 z:=⟨_,rfl⟩;rw [← hb1] at h1;have hM1:b1.obj oM=some (mkC oT f funcs pv sv tv av count left):=by rw [hb1,St.obj_set_ne o4M]; exact hM0
 have hM:∀ x,TI l oT b1 x→x.obj oM=some (mkC oT f funcs pv sv tv av count left):=fun x hx=>by rw [hx.other hne]; exact hM1
 have fin:∀ x,TI l oT b1 x→∃ y,TI l oT st0 y∧x=y.set o4 z∧y.obj o4=none:=fun x ⟨j,hj,hx⟩=>⟨st0.set oT (tapeC l j),⟨j,hj,rfl⟩,by rw [hx,hb1,St.set_comm _ o4T],by
  obtain ⟨i,_,hi⟩:=h;rw [hi,St.obj_set_ne o4T] at h4;rw [St.obj_set_ne o4T,h4]⟩
 generalize s.set o4 z=s1 at h1;have m1:=hM s1 h1;refine goD ?_;refine cl rfl rfl (next_ti l hl 16 (by decide) (by decide) oT b1 s1 h1) fun v s2 ⟨⟨k,hv,k0,k1⟩,h2⟩=>?_;subst hv;have m2:=hM s2 h2;refine goD ?_;refine cl rfl rfl (number_ti l hl oT b1 s2 h2) fun v s3 ⟨⟨x,hv,x0,x1⟩,h3⟩=>?_;subst hv;refine goE ?_;obtain ⟨y,hy,rfl,y4⟩:=fin s3 h3;subst hz;refine soV rfl rfl rfl rfl rfl rfl ?_;refine goD ?_;exact AWP.ret (rets (resCW rfl (St.obj_set _ _ _) rfl rfl rfl rfl) (.refl _) (StLe.new y4 (.refl _)) ⟨⟨_,rfl,GE_lit 0 x0 x1⟩,hy⟩)
theorem expr_all (l:List Int) (hl:l.length≤17592186043904) (oT oM:Nat) (hne:oM≠oT) (st0:St) (f funcs:Int) (pv sv tv av:AV) (count left:Int) (S:NL sv) (D:NL tv) (A:NL av) (hM0:st0.obj oM=some (mkC oT f funcs pv sv tv av count left)) :
  ∀ i:Nat,i≤3→ExprC l oT oM st0 (3 - i:Int) (i + 1)
 | 0,_=>fun b s hb h=>expr_deep l hl oT oM hne b s f funcs pv sv tv av count left (hb.trans hM0) h _ (by omega)
 | i + 1,hi=>fun b s hb h=>by
  have ih:=expr_all l hl oT oM hne b f funcs pv sv tv av count left S D A (hb.trans hM0) i (by omega)
  have e:(3 - (i:Int))=3 - ((i + 1:Nat):Int) + 1:=by omega
  rw [e] at ih;exact expr_step l hl oT oM hne b s f funcs pv sv tv av count left S D A (hb.trans hM0) h _ i (by omega) (by omega) ih
theorem ExprC.le {l:List Int} {oT oM:Nat} {st:St} {deep:Int} {d e:Nat} (h:ExprC l oT oM st deep d) (hde:d≤e):ExprC l oT oM st deep e:=fun b s hb hs =>
 (h b s hb hs).mono (fun _ _ ⟨⟨row,hv,hg⟩,ht⟩=>⟨⟨row,hv,GE_le hde hg⟩,ht⟩) (fun _ _ h=>h)

theorem wrapu8 {a:Int} (h:0≤a∧a < 256):IntKind.u8.wrap a=a:=by
 show a % 256=a;omega
def digs:Nat→Nat→List UInt8
 | 0,_=>[]
 | k + 1,n=>if n < 10 then [UInt8.ofNat (48 + n)] else digs k (n / 10)++[UInt8.ofNat (48 + n % 10)]
theorem digs_len:∀ (k n:Nat),(digs k n).length≤k
 | 0,_=>by simp [digs]
 | k + 1,n=>by
  rw [digs];split
  ·simp
  ·have:=digs_len k (n / 10);simp; omega
theorem digs_pg:∀ (k n:Nat),Pg (digs k n)=true
 | 0,_=>rfl
 | k + 1,n=>by
  have one:∀ m:Nat,m < 10→Pg [UInt8.ofNat (48 + m)]=true:=by decide
  rw [digs];split
  ·rename_i h;exact one n h
  ·exact Pg.app (digs_pg k _) (one _ (Nat.mod_lt _ (by decide)))
theorem digits_ok:∀ (k n:Nat),n < 10 ^ k→1≤k→k≤18→∀ st,ACalls Tryz.prog 62 [.int .i64 (n:Int)] st (fun v st'=>v=.str (digs k n)∧st'=st) (fun _ _=>False)
 | 0,n,_,h1,_,st=>by omega
 | k + 1,n,hn,_,hk,st=>by
  have hp:10 ^ (k + 1)≤10 ^ 18:=Nat.pow_le_pow_right (by omega) hk
  have ih:=digits_ok k;refine ACalls.ofBody Tryz.func62 rfl Tryz.ntmps62 rfl ?_;refine goD ?_;by_cases h10:n < 10
  ·refine goD ?_;refine adn (a:=48) rfl rfl rfl (by omega) ?_;have hb:(UInt8.ofNat (48 + n)).toNat=48 + n:=by rw [UInt8.toNat_ofNat']; omega
   refine cv (c:=((48 + n:Nat):Int)) rfl rfl (wrapu8 (by omega)) ?_;rw [← hb];have e:digs (k + 1) n=[UInt8.ofNat (48 + n)]:=by rw [digs,if_pos h10]
   rw [e];generalize UInt8.ofNat (48 + n)=b;refine goD ?_;refine cbs (l:=[b]) rfl rfl ?_;refine goD ?_;exact AWP.ret (rets rfl (.refl _) (.refl _) ⟨rfl,rfl⟩)
  ·have e:digs (k + 1) n=digs k (n / 10)++[UInt8.ofNat (48 + n % 10)]:=by rw [digs,if_neg h10]
   have hk1:1≤k:=by
    rcases Nat.eq_zero_or_pos k with h|h
    ·subst h; simp at hn; omega
    ·exact h
   refine goD ?_;refine qu rfl rfl rfl (by decide) (by rw [Int.tdiv_eq_ediv_of_nonneg (by omega)]; omega) ?_;rw [show ((n:Int)).tdiv 10=((n / 10:Nat):Int) by rw [Int.tdiv_eq_ediv_of_nonneg (by omega)]; omega];refine cle rfl rfl (ih (n / 10) (by rw [Nat.pow_succ] at hn; omega) hk1 (by omega) st) ?_;refine goE ?_;refine rm rfl rfl rfl (by decide) ?_;rw [show ((n:Int)).tmod 10=((n % 10:Nat):Int) by rw [Int.tmod_eq_emod_of_nonneg (by omega)]; omega];have h1:=ih (n % 10) (Nat.lt_of_lt_of_le (Nat.mod_lt _ (by omega)) (Nat.pow_le_pow_right (n:=10) (by omega) hk1)) hk1 (by omega) st
   have e1:digs k (n % 10)=[UInt8.ofNat (48 + n % 10)]:=by
    obtain ⟨j,rfl⟩:∃ j,k=j + 1:=⟨k - 1,by omega⟩;rw [digs,if_pos (Nat.mod_lt _ (by omega))]
   rw [e1] at h1;refine cle rfl rfl h1 ?_;refine sad rfl rfl rfl (by have:=digs_len k (n / 10); simp only [List.length_cons,List.length_nil]; omega) ?_;rw [e];refine goD ?_;exact AWP.ret (rets rfl (.refl _) (.refl _) ⟨rfl,rfl⟩)
structure MEnv where
 l:List Int
 oT:Nat
 oM:Nat
 f:Nat
 funcs:Nat
 ps:List Nat
 hl:l.length≤17592186043904
 hne:oM≠oT
 hf:f < funcs
 hfs:funcs≤4
 hps:ps.length=4
 hp:∀ p ∈ ps,p≤4
structure MA where
 j:Nat
 S:List (List UInt8)
 D:List (List UInt8)
 A:List (List UInt8)
 kS:Nat
 kD:Nat
 kA:Nat
 count:Nat
 left:Nat
def nrows (S:List (List UInt8)):List (List AV):=S.map fun s=>[AV.str s]
theorem nrows_len (S:List (List UInt8)):(nrows S).length=S.length:=List.length_map ..
theorem nrows_get {S:List (List UInt8)} {i:Nat} (h:i < S.length):(nrows S)[i]?=some [AV.str S[i]]:=by
 rw [nrows,List.getElem?_map,List.getElem?_eq_getElem h]; rfl
theorem nrows_append (S:List (List UInt8)) (s:List UInt8):nrows S++[[AV.str s]]=nrows (S++[s]):=by
 rw [nrows,nrows,List.map_append]; rfl
theorem nrows_take (S:List (List UInt8)) (n:Nat):(nrows S).take n=nrows (S.take n):=by rw [nrows,nrows,List.map_take]
def gnv (S:List (List UInt8)) (k:Nat):AV:=.view 1 (nrows S) (.own k 9)
def MA.toks (a:MA):List (Option Nat):=[some a.kS,some a.kD,some a.kA]
def MEnv.pv (E:MEnv):AV:=.view 1 (E.ps.map fun (p:Nat)=>[AV.int .i64 (p:Int)]) .shared
def MEnv.c (E:MEnv) (a:MA):AObj:=mkC E.oT (E.f:Int) (E.funcs:Int) E.pv (gnv a.S a.kS) (gnv a.D a.kD) (gnv a.A a.kA) (a.count:Int) (a.left:Int)
def MEnv.st (E:MEnv) (st0:St) (a:MA):St:=((st0.set E.oT (tapeC E.l a.j)).set E.oM (E.c a)).toks a.toks
theorem MEnv.st_M (E:MEnv) (st0:St) (a:MA):E.st st0 a=((st0.set E.oT (tapeC E.l a.j)).toks a.toks).set E.oM (E.c a):=rfl
theorem MEnv.obj_M (E:MEnv) (st0:St) (a:MA):(E.st st0 a).obj E.oM=some (E.c a):=St.obj_set _ _ _
theorem MEnv.obj_T (E:MEnv) (st0:St) (a:MA):(E.st st0 a).obj E.oT=some (tapeC E.l a.j):=by
 show ((st0.set E.oT _).set E.oM _).obj E.oT=_;rw [St.obj_set_ne (Ne.symm E.hne)];exact St.obj_set _ _ _
theorem MEnv.obj_o (E:MEnv) {st0:St} {a:MA} {o:Nat} (h1:o≠E.oT) (h2:o≠E.oM):(E.st st0 a).obj o=st0.obj o:=by
 show ((st0.set E.oT _).set E.oM _).obj o=_;rw [St.obj_set_ne h2,St.obj_set_ne h1]
theorem MEnv.new {E:MEnv} {st0:St} {a:MA} {o:Nat} (h:(E.st st0 a).obj o=none):o≠E.oT∧o≠E.oM∧st0.obj o=none:=by
 have h1:o≠E.oT:=fun e=>by rw [e,E.obj_T] at h; cases h
 have h2:o≠E.oM:=fun e=>by rw [e,E.obj_M] at h; cases h
 exact ⟨h1,h2,by rw [E.obj_o h1 h2] at h; exact h⟩
theorem MEnv.under (E:MEnv) {st0:St} {a:MA} {o:Nat} (h1:o≠E.oT) (h2:o≠E.oM) (c:AObj):(E.st st0 a).set o c=E.st (st0.set o c) a:=by
 show ((((st0.set E.oT _).set E.oM _).set o c).toks _)=((((st0.set o c).set E.oT _).set E.oM _).toks _);rw [St.set_comm _ (Ne.symm h2),St.set_comm st0 (Ne.symm h1)]
theorem MEnv.tape (E:MEnv) (st0:St) (a:MA) (j:Nat):(E.st st0 a).set E.oT (tapeC E.l j)=E.st st0 { a with j:=j }:=by
 show ((((st0.set E.oT _).set E.oM _).set E.oT _).toks _)=_;rw [St.set_comm _ E.hne,St.set_set];rfl
structure MV (E:MEnv) (st0:St) (a:MA):Prop where
 j:a.j≤E.l.length
 nS:∀ s ∈ a.S,LP 30 s
 nD:∀ s ∈ a.D,LP 30 s
 nA:∀ s ∈ a.A,LP 30 s
 lS:a.S.length≤4 + a.count
 lD:a.D.length≤a.count
 lA:a.A.length≤a.count
 c:a.count + a.left≤22
 tk:TokL st0 a.toks
structure MLe (a b:MA):Prop where
 S:a.S.length≤b.S.length
 D:a.D.length≤b.D.length
 A:a.A.length≤b.A.length
 left:b.left≤a.left
theorem MLe.refl (a:MA):MLe a a:=⟨Nat.le_refl _,Nat.le_refl _,Nat.le_refl _,Nat.le_refl _⟩
theorem MLe.trans {a b c:MA} (h:MLe a b) (k:MLe b c):MLe a c:=⟨Nat.le_trans h.S k.S,Nat.le_trans h.D k.D,Nat.le_trans h.A k.A,Nat.le_trans k.left h.left⟩
theorem TokL.of_tok {st st':St} {L:List (Option Nat)} (h:TokL st L) (e:st'.tok=st.tok):TokL st' L:=⟨h.one,fun i t hi=>by rw [e]; exact h.fresh i t hi⟩
theorem MV.set {E:MEnv} {st0:St} {a:MA} (h:MV E st0 a) (o:Nat) (c:AObj):MV E (st0.set o c) a:={ h with tk:=TokL.of_tok h.tk rfl }
theorem MV.unset {E:MEnv} {st0:St} {a:MA} {o:Nat} {c:AObj} (h:MV E (st0.set o c) a):MV E st0 a:={ h with tk:=TokL.of_tok h.tk rfl }
theorem MV.tape {E:MEnv} {st0:St} {a:MA} (h:MV E st0 a) {j:Nat} (hj:j≤E.l.length):MV E st0 { a with j:=j }:={ h with j:=hj }
def NL.mk' {S:List (List UInt8)} {k:Nat} (h:∀ s ∈ S,LP 30 s) (hl:S.length≤60):NL (gnv S k) where
 rows:=nrows S
 tok:=.own k 9
 is:=rfl
 len:=by rw [nrows_len]; exact hl
 name i hi:=by
  rw [nrows_len] at hi;exact ⟨_,nrows_get hi,h _ (List.getElem_mem hi)⟩
def MV.NS {E:MEnv} {st0:St} {a:MA} (h:MV E st0 a):NL (gnv a.S a.kS):=.mk' h.nS (by have:=h.lS; have:=h.c; omega)
def MV.ND {E:MEnv} {st0:St} {a:MA} (h:MV E st0 a):NL (gnv a.D a.kD):=.mk' h.nD (by have:=h.lD; have:=h.c; omega)
def MV.NA {E:MEnv} {st0:St} {a:MA} (h:MV E st0 a):NL (gnv a.A a.kA):=.mk' h.nA (by have:=h.lA; have:=h.c; omega)
theorem MEnv.ti (E:MEnv) {st0:St} {a:MA} (hv:MV E st0 a):TI E.l E.oT (E.st st0 a) (E.st st0 a):=⟨a.j,hv.j,(E.tape st0 a a.j).symm⟩
theorem MEnv.of_ti {E:MEnv} {st0:St} {a:MA} {s:St} (h:TI E.l E.oT (E.st st0 a) s):∃ j,j≤E.l.length∧s=E.st st0 { a with j:=j }:=by
 obtain ⟨j,hj,rfl⟩:=h;exact ⟨j,hj,E.tape st0 a j⟩
def MJ (E:MEnv) (st0:St) (a:MA) (s:St):Prop:=∃ j,j≤E.l.length∧s=E.st st0 { a with j:=j }
theorem next_m (E:MEnv) {st0:St} {a:MA} (hv:MV E st0 a) (k:Int) (hk:0 < k) (hk2:k≤4611686018427387904) :
  ACalls Tryz.prog 37 [.cptr E.oT 2 0 0,.int .i64 k] (E.st st0 a) (fun v s'=>(∃ n:Nat,v=.int .i64 (n:Int)∧(n:Int) < k)∧MJ E st0 a s') (fun _ _=>False):=by
 refine (next_ti E.l E.hl k hk hk2 E.oT _ _ (E.ti hv)).mono (fun v s' ⟨⟨n,h1,h2,h3⟩,h4⟩=>?_) (fun _ _ h=>h);exact ⟨⟨n.toNat,by rw [h1,Int.toNat_of_nonneg h2],by omega⟩,MEnv.of_ti h4⟩
theorem expr_m (E:MEnv) {st0:St} {a:MA} (hv:MV E st0 a) (deep:Int) (h0:0≤deep) (h3:deep≤3) :
  ACalls Tryz.prog 67 [.cptr E.oM 9 0 0,.int .i64 deep] (E.st st0 a) (fun v s'=>(∃ row,v=.agg row∧GE 4 row)∧MJ E st0 a s') (fun _ _=>False):=by
 have h:=expr_all E.l E.hl E.oT E.oM E.hne (E.st st0 a) _ _ _ _ _ _ _ _ hv.NS hv.ND hv.NA (E.obj_M st0 a) (3 - deep).toNat (by omega);rw [show 3 - ((3 - deep).toNat:Int)=deep by omega] at h;exact ((h.le (e:=4) (by omega)) _ _ rfl (E.ti hv)).mono (fun v s' ⟨h1,h2⟩=>⟨h1,MEnv.of_ti h2⟩) (fun _ _ h=>h)
theorem element_m (E:MEnv) {st0:St} {a:MA} (hv:MV E st0 a) (hA:0 < a.A.length) :
  ACalls Tryz.prog 97 [.cptr E.oM 9 0 0,.int .i64 1] (E.st st0 a) (fun v s'=>(∃ row,v=.agg row∧GE 4 row)∧MJ E st0 a s') (fun _ _=>False):=by
 have h:=expr_all E.l E.hl E.oT E.oM E.hne (E.st st0 a) _ _ _ _ _ _ _ _ hv.NS hv.ND hv.NA (E.obj_M st0 a) 2 (by omega)
 have h2:=element_ok E.l E.hl E.oT E.oM E.hne (E.st st0 a) (E.st st0 a) _ _ _ _ _ _ _ _ hv.NA (by show 0 < (nrows a.A).length; rw [nrows_len]; exact hA) (E.obj_M st0 a) (E.ti hv) 1 3 (fun n h1 h2=>GE_lit 2 h1 h2) h;exact h2.mono (fun v s' ⟨h1,h2⟩=>⟨h1,MEnv.of_ti h2⟩) (fun _ _ h=>h)
theorem fresh_m (E:MEnv) {st0:St} {a:MA} (hc:a.count < 30) :
  ACalls Tryz.prog 70 [.cptr E.oM 9 0 0] (E.st st0 a) (fun v s'=>(∃ w:List UInt8,v=.str w∧LP 30 w)∧s'=E.st st0 { a with count:=a.count + 1 }) (fun _ _=>False):=by
 refine ACalls.ofBody Tryz.func70 rfl Tryz.ntmps70 rfl ?_;have hM:=E.obj_M st0 a;refine goD ?_;rw [E.st_M st0 a];unfold MEnv.c mkC;refine YB (row':=mkRow E.oT E.f E.funcs E.pv (gnv a.S a.kS) (gnv a.D a.kD) (gnv a.A a.kA) ((a.count + 1:Nat):Int) a.left) (hle:=by exact Nat.le_of_ble_eq_true rfl) (he:=by exact rfl) (z:=?_);refine goD ?_;have hd:=digits_ok 18 (a.count + 1) (by omega) (by decide) (by decide);refine cle rfl rfl (hd _) ?_;have hl:=digs_len 18 (a.count + 1);refine sad rfl rfl rfl (by simp only [List.length_cons,List.length_nil]; omega) ?_;refine goD ?_;exact AWP.ret (rets rfl (.refl _) (.refl _) ⟨⟨_,rfl,by simp only [List.length_append,List.length_cons,List.length_nil]; omega,Pg.app (by decide) (digs_pg _ _)⟩,rfl⟩)
def stRow (kind len:Int) (name typ fn:List UInt8) (tg args body els:AV):List AV:=[.int .i64 kind,.int .i64 0,.int .i64 0,.str name,.str typ,.int .i64 len,.int .i64 0,tg,.str fn,.int .i64 0,args,body,els]
def vw (sz:Nat) (rows:List (List AV)):AV:=.view sz rows .shared
theorem st_le {kind len:Int} {name typ fn:List UInt8} {tg args body els tg' args' body' els':AV} (h1:Le tg tg') (h2:Le args args') (h3:Le body body') (h4:Le els els') (g1:tg'.one=true) (g2:args'.one=true) (g3:body'.one=true) (g4:els'.one=true) :
  Le (.agg (stRow kind len name typ fn tg args body els)) (.agg (stRow kind len name typ fn tg' args' body' els')):=by
 refine .agg _ _ rfl (fun c hc=>by simp only [stRow,List.mem_cons,List.not_mem_nil,or_false] at hc; rcases hc with rfl|rfl|rfl|rfl|rfl|rfl|rfl|rfl|rfl|rfl|rfl|rfl|rfl <;> first|rfl|assumption) fun i a b h1 h2=>?_
 match i,h1,h2 with
 | 0,h1,h2=>cases h1; cases h2; exact .refl _
 | 1,h1,h2=>cases h1; cases h2; exact .refl _
 | 2,h1,h2=>cases h1; cases h2; exact .refl _
 | 3,h1,h2=>cases h1; cases h2; exact .refl _
 | 4,h1,h2=>cases h1; cases h2; exact .refl _
 | 5,h1,h2=>cases h1; cases h2; exact .refl _
 | 6,h1,h2=>cases h1; cases h2; exact .refl _
 | 7,h1,h2=>cases h1; cases h2; assumption
 | 8,h1,h2=>cases h1; cases h2; exact .refl _
 | 9,h1,h2=>cases h1; cases h2; exact .refl _
 | 10,h1,h2=>cases h1; cases h2; assumption
 | 11,h1,h2=>cases h1; cases h2; assumption
 | 12,h1,h2=>cases h1; cases h2; assumption
 | i + 13,h1,h2=>cases h1
def GS:Nat→List AV→Prop
 | 0,_=>False
 | d + 1,row=>∃ (kind len:Int) (name typ fn:List UInt8) (tg args body els:List (List AV)),row=stRow kind len name typ fn (vw 6 tg) (vw 6 args) (vw 13 body) (vw 13 els)∧0≤kind∧kind≤30∧0≤len∧len≤9 ∧
   LP 30 name∧LP 30 typ∧LP 30 fn∧tg.length≤1∧args.length≤4∧body.length≤60∧els.length≤60∧(∀ r ∈ tg,GE 4 r)∧(∀ r ∈ args,GE 4 r)∧(∀ r ∈ body,GS d r)∧∀ r ∈ els,GS d r
theorem GS_mono:∀ {d:Nat} {row:List AV},GS d row→GS (d + 1) row
 | 0,_,h=>h.elim
 | d + 1,row,h=>by
  obtain ⟨kind,len,name,typ,fn,tg,args,body,els,rfl,h1,h2,h3,h4,h5,h6,h7,h8,h9,h10,h11,h12,h13,h14,h15⟩:=h;exact ⟨kind,len,name,typ,fn,tg,args,body,els,rfl,h1,h2,h3,h4,h5,h6,h7,h8,h9,h10,h11,h12,h13,fun r hr=>GS_mono (h14 r hr),fun r hr=>GS_mono (h15 r hr)⟩
theorem GS_le {d e:Nat} (hde:d≤e) {row:List AV} (h:GS d row):GS e row:=by
 induction hde with
 | refl=>exact h
 | step _ ih=>exact GS_mono ih
theorem GS_row {d:Nat} {row:List AV} (h:GS d row):∃ (kind len:Int) (name typ fn:List UInt8) (tg args body els:List (List AV)),row=stRow kind len name typ fn (vw 6 tg) (vw 6 args) (vw 13 body) (vw 13 els):=by
 cases d with
 | zero=>exact h.elim
 | succ d=>obtain ⟨kind,len,name,typ,fn,tg,args,body,els,rfl,_⟩:=h; exact ⟨_,_,_,_,_,_,_,_,_,rfl⟩
theorem toks_set (st:St) (o:Nat) (c:AObj) (L:List (Option Nat)):(st.set o c).toks L=(st.toks L).set o c:=rfl
theorem MEnv.st_K (E:MEnv) (st0:St) (a:MA):E.st st0 a=((st0.set E.oT (tapeC E.l a.j)).set E.oM (E.c a)).toks a.toks:=rfl
def zSt:AObj:=.cells 41 13 [stRow 0 0 [] [] [] nilV nilV nilV nilV]
theorem declare_m (E:MEnv) {st0:St} {a:MA} (hv:MV E st0 a) (hc:a.count + a.left≤21) :
  ACalls Tryz.prog 66 [.cptr E.oM 9 0 0] (E.st st0 a) (fun v s'=>(∃ row,v=.agg row∧GS 1 row)∧∃ b,MV E st0 b∧MLe a b∧b.count≤a.count + 1∧b.left=a.left∧s'=E.st st0 b) (fun _ _=>False):=by
 refine ACalls.ofBody Tryz.func66 rfl Tryz.ntmps66 rfl ?_;refine goC ?_;refine rg ?_;refine al rfl rfl fun o2 h2=>?_;obtain ⟨n2T,n2M,h2'⟩:=MEnv.new h2;show AOps _ _ _ _ _ _ _ ((E.st st0 a).set o2 zSt);rw [E.under n2T n2M];refine goD ?_;refine cl rfl rfl (fresh_m E (st0:=st0.set o2 zSt) (a:=a) (by omega)) fun v s' ⟨⟨w,hw,wl⟩,hs⟩=>?_;subst hw hs;refine bds (cs:=stRow 1 0 w [] [] nilV nilV nilV nilV) rfl rfl rfl rfl ?_;refine al rfl rfl fun o3 h3=>?_;obtain ⟨n3T,n3M,h3'⟩:=MEnv.new h3;refine soV rfl rfl rfl rfl rfl rfl ?_;have n32:o3≠o2:=fun e=>by rw [e,St.obj_set] at h3'; cases h3'
 rw [E.under n3T n3M];obtain ⟨a1,ha1⟩:∃ a1:MA,a1={ a with count:=a.count + 1 }:=⟨_,rfl⟩;rw [← ha1];have hv1:MV E st0 a1:=by
  subst ha1;exact { hv with lS:=by have:=hv.lS; simp only; omega,lD:=by have:=hv.lD; simp only; omega,lA:=by have:=hv.lA; simp only; omega,c:=by simp only; omega }
 have c1:a1.count=a.count + 1∧a1.left=a.left∧a1.S=a.S∧a1.D=a.D∧a1.A=a.A:=by subst ha1; exact ⟨rfl,rfl,rfl,rfl,rfl⟩
 clear ha1
 skip
 refine nl ?_;refine cut (α:=MA × List UInt8 × Int) (fun _=>[(3,.cptr o3 13 0 0),(2,.cptr o2 13 0 0),(0,.cptr E.oM 9 0 0)]) (fun x=>E.st ((st0.set o2 zSt).set o3 (.cells 41 13 [stRow 1 x.2.2 w x.2.1 [] nilV nilV nilV nilV])) x.1)
  (fun x=>MV E st0 x.1∧MLe a x.1∧x.1.count≤a.count + 1∧x.1.left=a.left∧LP 30 x.2.1∧0≤x.2.2∧x.2.2≤9) ?_ ?_
 ·obtain ⟨B,hB⟩:∃ B,B=((st0.set o2 zSt).set o3 (.cells 41 13 [AV.cells (.agg (stRow 1 0 w [] [] nilV nilV nilV nilV))])):=⟨_,rfl⟩;rw [← hB];have hvB:MV E B a1:=by rw [hB]; exact (hv1.set _ _).set _ _
  have hM1:=E.obj_M B a1;refine goD ?_;refine cl rfl rfl (next_m E hvB 5 (by decide) (by decide)) fun v s' ⟨⟨n,hv,hn⟩,j,hj,hs⟩=>?_;subst hv hs;obtain ⟨a2,ha2⟩:∃ a2:MA,a2={ a1 with j:=j }:=⟨_,rfl⟩;rw [← ha2];have hv2:MV E st0 a2:=by rw [ha2]; exact hv1.tape hj
  have c2:a2.count=a.count + 1∧a2.left=a.left∧a2.S=a.S∧a2.D=a.D∧a2.A=a.A:=by subst ha2; exact c1
  clear ha2 hM1 hvB;have hM2:=E.obj_M B a2
  have h32:(E.st B a2).obj o3=some (.cells 41 13 [stRow 1 0 w [] [] nilV nilV nilV nilV]):=by rw [E.obj_o n3T n3M,hB]; exact St.obj_set _ _ _
  by_cases e3:n=3
  ·subst e3;refine goD ?_;rw [hB,← E.under n3T n3M];refine YB (row':=stRow 1 0 w [80] [] nilV nilV nilV nilV) (hle:=by exact Nat.le_of_ble_eq_true rfl) (he:=by exact rfl) (z:=?_);rw [E.under n3T n3M];obtain ⟨B3,hB3⟩:∃ B3,B3=(st0.set o2 zSt).set o3 (.cells 41 13 [stRow 1 0 w [80] [] nilV nilV nilV nilV]):=⟨_,rfl⟩;rw [← hB3];have hM3:=E.obj_M B3 a2
   have h33:(E.st B3 a2).obj o3=some (.cells 41 13 [stRow 1 0 w [80] [] nilV nilV nilV nilV]):=by rw [E.obj_o n3T n3M,hB3]; exact St.obj_set _ _ _
   refine goD ?_;refine AWP.draw rfl 9 8 (fun v s=>∃ k',TokL ((B3.set E.oT (tapeC E.l a2.j)).set E.oM (E.c a2)) (a2.toks.set 1 (some k'))∧v=.view 1 (nrows (a2.D++[w])) (.own k' 9)∧s=((B3.set E.oT (tapeC E.l a2.j)).set E.oM (E.c a2)).toks (a2.toks.set 1 (some k'))) rfl ?_;refine goF ?_;refine de rfl rfl rfl ?_ ?_
   ·rw [E.st_K B3 a2];refine apx (o:=some a2.kD) 1 rfl rfl rfl (TokL.of_tok hv2.tk (by rw [hB3]; rfl)) rfl (fun h=>by cases h) rfl ?_ ?_ fun k' htk=>nl ⟨_,rfl,⟨k',htk,by rw [nrows_append],rfl⟩,⟨fun _ _ h=>h,fun _ h=>(by cases h),rfl⟩⟩
    ·rw [nrows_len]; simp only [List.length_cons,List.length_nil]; have:=hv2.lD; have:=hv2.c; omega
    ·rw [nrows_len]; simp only [List.length_cons,List.length_nil,maxLen]; have:=hv2.lD; have:=hv2.c; omega
   refine dn ⟨fun h=>absurd h (by decide),fun _=>?_⟩;rintro v s1 d hd ⟨k',htk,rfl,rfl⟩;cases hd;refine goE ?_;rw [toks_set];unfold MEnv.c mkC;refine YB (row':=mkRow E.oT E.f E.funcs E.pv (gnv a2.S a2.kS) (gnv (a2.D++[w]) k') (gnv a2.A a2.kA) a2.count a2.left) (hle:=by exact Nat.le_of_ble_eq_true rfl) (he:=by exact rfl) (z:=?_);refine goD ?_;rw [hB3];refine ⟨({ a2 with D:=a2.D++[w],kD:=k' },[80],0),⟨{ hv2 with nD:=fun s hs=>?_,lD:=?_,tk:=TokL.of_tok htk (by rw [hB3]; rfl) },⟨?_,?_,?_,Nat.le_of_eq c2.2.1⟩,Nat.le_of_eq c2.1,c2.2.1,(by first|exact lp80|exact lp0),(by show (0:Int)≤0; decide),(by show (0:Int)≤9; decide)⟩,(tl3 rfl rfl rfl),.refl _⟩
   ·rcases List.mem_append.1 hs with hs|hs
    ·exact hv2.nD s hs
    ·rw [List.mem_singleton.1 hs]; exact wl
   ·simp only [List.length_append,List.length_cons,List.length_nil]; have:=hv.lD; have:=c2.1; rw [c2.2.2.2.1]; omega
   ·simp only [List.length_append,c2.2.2.1]; omega
   ·simp only [List.length_append,c2.2.2.2.1]; omega
   ·simp only [List.length_append,c2.2.2.2.2]; omega
  by_cases e4:n=4
  ·subst e4;refine goD ?_;rw [hB,← E.under n3T n3M];refine YB (row':=stRow 1 3 w [] [] nilV nilV nilV nilV) (hle:=by exact Nat.le_of_ble_eq_true rfl) (he:=by exact rfl) (z:=?_);rw [E.under n3T n3M];obtain ⟨B3,hB3⟩:∃ B3,B3=(st0.set o2 zSt).set o3 (.cells 41 13 [stRow 1 3 w [] [] nilV nilV nilV nilV]):=⟨_,rfl⟩;rw [← hB3];have hM3:=E.obj_M B3 a2
   have h33:(E.st B3 a2).obj o3=some (.cells 41 13 [stRow 1 3 w [] [] nilV nilV nilV nilV]):=by rw [E.obj_o n3T n3M,hB3]; exact St.obj_set _ _ _
   refine goD ?_;refine AWP.draw rfl 9 8 (fun v s=>∃ k',TokL ((B3.set E.oT (tapeC E.l a2.j)).set E.oM (E.c a2)) (a2.toks.set 2 (some k'))∧v=.view 1 (nrows (a2.A++[w])) (.own k' 9)∧s=((B3.set E.oT (tapeC E.l a2.j)).set E.oM (E.c a2)).toks (a2.toks.set 2 (some k'))) rfl ?_;refine goF ?_;refine de rfl rfl rfl ?_ ?_
   ·rw [E.st_K B3 a2];refine apx (o:=some a2.kA) 2 rfl rfl rfl (TokL.of_tok hv2.tk (by rw [hB3]; rfl)) rfl (fun h=>by cases h) rfl ?_ ?_ fun k' htk=>nl ⟨_,rfl,⟨k',htk,by rw [nrows_append],rfl⟩,⟨fun _ _ h=>h,fun _ h=>(by cases h),rfl⟩⟩
    ·rw [nrows_len]; simp only [List.length_cons,List.length_nil]; have:=hv2.lA; have:=hv2.c; omega
    ·rw [nrows_len]; simp only [List.length_cons,List.length_nil,maxLen]; have:=hv2.lA; have:=hv2.c; omega
   refine dn ⟨fun h=>absurd h (by decide),fun _=>?_⟩;rintro v s1 d hd ⟨k',htk,rfl,rfl⟩;cases hd;refine goE ?_;rw [toks_set];unfold MEnv.c mkC;refine YB (row':=mkRow E.oT E.f E.funcs E.pv (gnv a2.S a2.kS) (gnv a2.D a2.kD) (gnv (a2.A++[w]) k') a2.count a2.left) (hle:=by exact Nat.le_of_ble_eq_true rfl) (he:=by exact rfl) (z:=?_);refine goD ?_;rw [hB3];refine ⟨({ a2 with A:=a2.A++[w],kA:=k' },[],3),⟨{ hv2 with nA:=fun s hs=>?_,lA:=?_,tk:=TokL.of_tok htk (by rw [hB3]; rfl) },⟨?_,?_,?_,Nat.le_of_eq c2.2.1⟩,Nat.le_of_eq c2.1,c2.2.1,(by first|exact lp80|exact lp0),(by show (0:Int)≤3; decide),(by show (3:Int)≤9; decide)⟩,(tl3 rfl rfl rfl),.refl _⟩
   ·rcases List.mem_append.1 hs with hs|hs
    ·exact hv2.nA s hs
    ·rw [List.mem_singleton.1 hs]; exact wl
   ·simp only [List.length_append,List.length_cons,List.length_nil]; have:=hv.lA; have:=c2.1; rw [c2.2.2.2.2]; omega
   ·simp only [List.length_append,c2.2.2.1]; omega
   ·simp only [List.length_append,c2.2.2.2.1]; omega
   ·simp only [List.length_append,c2.2.2.2.2]; omega
  refine goD ?_;refine AWP.draw rfl 9 8 (fun v s=>∃ k',TokL ((B.set E.oT (tapeC E.l a2.j)).set E.oM (E.c a2)) (a2.toks.set 0 (some k'))∧v=.view 1 (nrows (a2.S++[w])) (.own k' 9)∧s=((B.set E.oT (tapeC E.l a2.j)).set E.oM (E.c a2)).toks (a2.toks.set 0 (some k'))) rfl ?_;refine goF ?_;refine de rfl rfl rfl ?_ ?_
  ·rw [E.st_K B a2];refine apx (o:=some a2.kS) 0 rfl rfl rfl (TokL.of_tok hv2.tk (by rw [hB]; rfl)) rfl (fun h=>by cases h) rfl ?_ ?_ fun k' htk=>nl ⟨_,rfl,⟨k',htk,by rw [nrows_append],rfl⟩,⟨fun _ _ h=>h,fun _ h=>(by cases h),rfl⟩⟩
   ·rw [nrows_len]; simp only [List.length_cons,List.length_nil]; have:=hv2.lS; have:=hv2.c; omega
   ·rw [nrows_len]; simp only [List.length_cons,List.length_nil,maxLen]; have:=hv2.lS; have:=hv2.c; omega
  refine dn ⟨fun h=>absurd h (by decide),fun _=>?_⟩;rintro v s1 d hd ⟨k',htk,rfl,rfl⟩;cases hd;refine goE ?_;rw [toks_set];unfold MEnv.c mkC;refine YB (row':=mkRow E.oT E.f E.funcs E.pv (gnv (a2.S++[w]) k') (gnv a2.D a2.kD) (gnv a2.A a2.kA) a2.count a2.left) (hle:=by exact Nat.le_of_ble_eq_true rfl) (he:=by exact rfl) (z:=?_);refine goD ?_;rw [hB];refine ⟨({ a2 with S:=a2.S++[w],kS:=k' },[],0),⟨{ hv2 with nS:=fun s hs=>?_,lS:=?_,tk:=TokL.of_tok htk (by rw [hB]; rfl) },⟨?_,?_,?_,Nat.le_of_eq c2.2.1⟩,Nat.le_of_eq c2.1,c2.2.1,(by first|exact lp80|exact lp0),(by show (0:Int)≤0; decide),(by show (0:Int)≤9; decide)⟩,(tl3 rfl rfl rfl),.refl _⟩
  ·rcases List.mem_append.1 hs with hs|hs
   ·exact hv2.nS s hs
   ·rw [List.mem_singleton.1 hs]; exact wl
  ·simp only [List.length_append,List.length_cons,List.length_nil]; have:=hv.lS; have:=c2.1; rw [c2.2.2.1]; omega
  ·simp only [List.length_append,c2.2.2.1]; omega
  ·simp only [List.length_append,c2.2.2.2.1]; omega
  ·simp only [List.length_append,c2.2.2.2.2]; omega
 ·rintro ⟨b,ty,ln⟩ ⟨hvb,hle,hcb,hlb,hty,hl0,hl9⟩;simp only at hvb hle hcb hlb hty hl0 hl9;show AWP _ _ _ _ _ _ (E.st ((st0.set o2 zSt).set o3 (.cells 41 13 [stRow 1 ln w ty [] nilV nilV nilV nilV])) b);rw [← E.under n3T n3M,← E.under n2T n2M];refine goD ?_;refine soU rfl n32 rfl rfl rfl rfl rfl ?_;refine goD ?_;have e2:(E.st st0 b).obj o2=none:=by rw [E.obj_o n2T n2M]; exact h2'
  have e3:(E.st st0 b).obj o3=none:=by rw [E.obj_o n3T n3M]; rw [St.obj_set_ne n32] at h3'; exact h3'
  refine AWP.ret (rets (resCW rfl (St.obj_under n32 _ _) rfl rfl rfl rfl) (st_le (.nilShared _ _) (.nilShared _ _) (.nilShared _ _) (.nilShared _ _) rfl rfl rfl rfl) (StLe.new (by rw [St.obj_set_ne n32]; exact e3) (StLe.new e2 (.refl _))) ⟨⟨_,rfl,1,ln,w,ty,[],[],[],[],[],rfl,by decide,by decide,hl0,hl9,wl,hty,by decide,by decide,by decide,by decide,by decide,fun r hr=>(by cases hr),fun r hr=>(by cases hr),fun r hr=>(by cases hr),fun r hr=>(by cases hr)⟩,b,hvb,hle,hcb,hlb,rfl⟩)
def callRow (kind:Int) (fn:List UInt8) (args:AV):List AV:=stRow kind 0 [] [] fn nilV args nilV nilV
def stC (row:List AV):AObj:=.cells 41 13 [row]
theorem MJ.refl {E:MEnv} {st0:St} {a:MA} (hv:MV E st0 a):MJ E st0 a (E.st st0 a):=⟨a.j,hv.j,rfl⟩
theorem MJ.trans {E:MEnv} {st0:St} {a:MA} {j:Nat} {s:St} (h:MJ E st0 { a with j:=j } s):MJ E st0 a s:=by
 obtain ⟨k,hk,rfl⟩:=h;exact ⟨k,hk,rfl⟩
theorem MJ.M {E:MEnv} {st0:St} {a:MA} {s:St} (h:MJ E st0 a s):s.obj E.oM=some (E.c a):=by
 obtain ⟨k,hk,rfl⟩:=h;exact E.obj_M st0 { a with j:=k }
theorem next_j (E:MEnv) {st0:St} {a:MA} (hv:MV E st0 a) {s:St} (h:MJ E st0 a s) (k:Int) (hk:0 < k) (hk2:k≤4611686018427387904) :
  ACalls Tryz.prog 37 [.cptr E.oT 2 0 0,.int .i64 k] s (fun v s'=>(∃ n:Nat,v=.int .i64 (n:Int)∧(n:Int) < k)∧MJ E st0 a s') (fun _ _=>False):=by
 obtain ⟨j,hj,rfl⟩:=h;exact (next_m E (hv.tape hj) k hk hk2).mono (fun v s' ⟨h1,h2⟩=>⟨h1,h2.trans⟩) (fun _ _ h=>h)
theorem expr_j (E:MEnv) {st0:St} {a:MA} (hv:MV E st0 a) {s:St} (h:MJ E st0 a s) (deep:Int) (h0:0≤deep) (h3:deep≤3) :
  ACalls Tryz.prog 67 [.cptr E.oM 9 0 0,.int .i64 deep] s (fun v s'=>(∃ row,v=.agg row∧GE 4 row)∧MJ E st0 a s') (fun _ _=>False):=by
 obtain ⟨j,hj,rfl⟩:=h;exact (expr_m E (hv.tape hj) deep h0 h3).mono (fun v s' ⟨h1,h2⟩=>⟨h1,h2.trans⟩) (fun _ _ h=>h)
def gfnames:List AV:=[.str [102],.str [103],.str [104],.str [107]]
theorem fnames_get:∀ k:Nat,k < 4→∃ w:List UInt8,(chunk (0 + 1) 4 gfnames)[k]?=some [.str w]∧LP 30 w
 | 0,_=>⟨_,rfl,by decide⟩
 | 1,_=>⟨_,rfl,by decide⟩
 | 2,_=>⟨_,rfl,by decide⟩
 | 3,_=>⟨_,rfl,by decide⟩
theorem MEnv.ps_get (E:MEnv) {k:Nat} (hk:k < 4):∃ p:Nat,(E.ps.map fun (p:Nat)=>[AV.int .i64 (p:Int)])[k]?=some [.int .i64 (p:Int)]∧p≤4:=by
 have hl:k < E.ps.length:=by rw [E.hps]; exact hk
 refine ⟨E.ps[k],?_,E.hp _ (List.getElem_mem hl)⟩;rw [List.getElem?_map,List.getElem?_eq_getElem hl];rfl
theorem MJ.le {E:MEnv} {st0:St} {a:MA} {s:St} (h:MJ E st0 a s):StLe s ((E.st st0 a).drop E.oT):=by
 obtain ⟨j,hj,rfl⟩:=h;refine ⟨fun o c hc=>?_,fun _ h=>h,rfl⟩;have hoT:o≠E.oT:=fun e=>by rw [e] at hc; simp only [St.drop,if_true] at hc; cases hc
 rw [St.obj_drop_ne hoT] at hc;by_cases hoM:o=E.oM
 ·subst hoM;rw [E.obj_M] at hc ⊢;exact hc
 ·rw [E.obj_o hoT hoM] at hc ⊢;exact hc
theorem MEnv.under_m (E:MEnv) {st0:St} {a:MA} {e:TypeId} {sz:Nat} {rows:List (List AV)} {oo:Option Nat} (h:∀ o,oo=some o→o≠E.oT∧o≠E.oM):E.st (mst st0 e sz rows oo) a=mst (E.st st0 a) e sz rows oo:=by
 cases oo with
 | none=>rfl
 | some o=>exact (E.under (h o rfl).1 (h o rfl).2 _).symm
set_option maxHeartbeats 1000000 in
theorem call_m (E:MEnv) {st0:St} {a:MA} (hv0:MV E st0 a) (oX:Nat) (n1:oX≠E.oT) (n2:oX≠E.oM) (kind:Int) :
  ACalls Tryz.prog 71 [.cptr E.oM 9 0 0,.cptr oX 13 0 0] (E.st (st0.set oX (stC (callRow kind [] nilV))) a)
   (fun v s'=>∃ (b:Bool) (fn:List UInt8) (args:AV) (rows:List (List AV)) (j:Nat),v=.bool b∧LP 30 fn∧Le args (vw 6 rows)∧args.one=true∧rows.length≤4∧(∀ r ∈ rows,GE 4 r)∧j≤E.l.length∧s'=E.st (st0.set oX (stC (callRow kind fn args))) { a with j:=j }) (fun _ _=>False):=by
 refine ACalls.ofBody Tryz.func71 rfl Tryz.ntmps71 rfl ?_;obtain ⟨B,hB⟩:∃ B,B=st0.set oX (stC (callRow kind [] nilV)):=⟨_,rfl⟩;rw [← hB];have hv:MV E B a:=by rw [hB]; exact hv0.set _ _
 have hM:=E.obj_M B a
 have hf:=E.hf
 have hfs:=E.hfs;refine goC ?_;refine rg ?_;refine goE ?_;refine goC ?_;refine rg ?_;refine goE ?_;refine nl ?_;have hMs:∀ s,MJ E B a s→s.obj E.oM=some (E.c a):=fun s h=>h.M
 have hdone:∀ j,j≤E.l.length→∃ (b:Bool) (fn:List UInt8) (args:AV) (rows:List (List AV)) (j':Nat),(AV.bool false)=.bool b∧LP 30 fn∧Le args (vw 6 rows)∧args.one=true∧rows.length≤4∧(∀ r ∈ rows,GE 4 r)∧j'≤E.l.length∧E.st B { a with j:=j }=E.st (st0.set oX (stC (callRow kind fn args))) { a with j:=j' } :=
  fun j hj=>⟨false,[],nilV,[],j,rfl,by decide,.nilShared _ _,rfl,by decide,fun r hr=>(by cases hr),hj,by rw [hB]⟩
 refine cut (α:=Nat × Nat) (fun x=>[(5,.int .i64 (x.1:Int)),(1,.cptr oX 13 0 0),(0,.cptr E.oM 9 0 0)]) (fun x=>E.st B { a with j:=x.2 }) (fun x=>x.1 < 4∧x.2≤E.l.length) ?_ ?_
 ·refine goC ?_;refine rg ?_;refine goE ?_;refine nl ?_;refine AWP.cond_dec rfl (fun h=>?_) (fun h=>?_)
  ·have h':((E.f + 1:Nat):Int) < (E.funcs:Int):=h;apply AWP.drawI (hm:=rfl) (k:=12) (I:=MJ E B a) (hI:=MJ.refl hv)
   case hok=>rfl
   have hM:=hMs;repeat (first|apply diQ (hd:=rfl) (hw:=rfl) (h:=fun st1 hI=>lc rfl rfl (hM st1 hI) rfl rfl (nl ⟨_,rfl,rfl,rfl⟩))|apply diQ (hd:=rfl) (hw:=rfl) (h:=fun _ _=>ZA (z:=nz))|apply diQ (hd:=rfl) (hw:=rfl) (h:=fun _ _=>ZC (z:=nz))|apply diQ (hd:=rfl) (hw:=rfl) (h:=fun _ _=>YK (z:=nz)))
   apply diE (Q:=fun v=>∃ n:Nat,v=.int .i64 (n:Int)∧(n:Int) < (E.funcs:Int) - (((E.f + 1:Nat):Int))) (hd:=rfl) (hw:=rfl) (hex:=⟨_,0,rfl,by omega⟩) (h:=fun x hx=>cl rfl rfl (next_j E hv hx ((E.funcs:Int) - (((E.f + 1:Nat):Int))) (by omega) (by omega)) fun v s' hv=>nl ⟨v,rfl,hv⟩);rintro v ⟨n,rfl,hn⟩;refine diN fun s2 ⟨j,hj,hs⟩=>?_;subst hs;refine Go.AM.ad rfl rfl rfl (by omega) ?_;refine goE ?_;refine nl ⟨(E.f + 1 + n,j),⟨by simp only; omega,hj⟩,TLe.consE rfl (by simp only [Int.natCast_add]) (tl2 rfl rfl),.refl _⟩
  ·have h':¬ ((E.f + 1:Nat):Int) < (E.funcs:Int):=h;refine goD ?_;refine cl rfl rfl (next_j E hv (MJ.refl hv) 4 (by decide) (by decide)) fun v s' ⟨⟨n,hn,hn4⟩,j,hj,hs⟩=>?_;subst hn hs;refine goE ?_;refine nl ?_;refine AWP.cond_dec rfl (fun h=>?_) (fun h=>AWP.skip ?_)
   ·refine goD ?_;exact AWP.ret (rets rfl (.refl _) (.refl _) (hdone j hj))
   ·apply AWP.drawI (hm:=rfl) (k:=8) (I:=MJ E B a) (hI:=⟨j,hj,rfl⟩)
    case hok=>rfl
    have hM:=hMs;repeat (first|apply diQ (hd:=rfl) (hw:=rfl) (h:=fun st1 hI=>lc rfl rfl (hM st1 hI) rfl rfl (nl ⟨_,rfl,rfl,rfl⟩))|apply diQ (hd:=rfl) (hw:=rfl) (h:=fun _ _=>ZA (z:=nz))|apply diQ (hd:=rfl) (hw:=rfl) (h:=fun _ _=>ZC (z:=nz)))
    refine diN fun s2 hs2=>?_;refine cl rfl rfl (next_j E hv hs2 (E.funcs:Int) (by omega) (by omega)) fun v s' ⟨⟨m,hm,hm4⟩,j2,hj2,hs⟩=>?_;subst hm hs;refine goE ?_;refine nl ⟨(m,j2),⟨by simp only; omega,hj2⟩,(tl3 rfl rfl rfl),.refl _⟩
 ·rintro ⟨k,j⟩ ⟨hk,hj⟩;simp only at hk hj;have hvj:MV E st0 { a with j:=j }:=hv0.tape hj;generalize ha2:({ a with j:=j }:MA)=a2 at hvj;rw [hB];rw [← E.under n1 n2];have hM2:((E.st st0 a2).set oX (stC (callRow kind [] nilV))).obj E.oM=some (E.c a2):=by rw [St.obj_set_ne (Ne.symm n2)]; exact E.obj_M _ _
  obtain ⟨w,hw,wl⟩:=fnames_get k hk;refine goD ?_;refine bsh (cs:=gfnames) rfl rfl rfl rfl rfl ?_;refine goD ?_
  skip
  unfold stC;refine YB (row':=callRow kind w nilV) (hle:=by exact Nat.le_of_ble_eq_true rfl) (he:=by exact rfl) (z:=?_);refine goD ?_;obtain ⟨p,hp,p4⟩:=E.ps_get hk;subst ha2;refine AWP.loop (α:=Nat × List (List AV) × Option Nat) (fun x=>[(6,.int .i64 (x.2.1.length:Int)),(5,.int .i64 (k:Int)),(1,.cptr oX 13 0 0),(0,.cptr E.oM 9 0 0)])
   (fun x=>E.st (mst (st0.set oX (stC (callRow kind w (mslot 6 x.2.1.length x.2.2)))) 95 6 x.2.1 x.2.2) { a with j:=x.1 })
   (fun x=>x.1≤E.l.length∧x.2.1.length≤p∧(∀ r ∈ x.2.1,GE 4 r)∧(x.2.2=none→x.2.1=[])∧∀ o,x.2.2=some o→o≠E.oT∧o≠E.oM∧o≠oX∧st0.obj o=none) (fun x=>4 - x.2.1.length)
   (j,[],none) ⟨hj,Nat.zero_le _,fun r hr=>(by cases hr),fun _=>rfl,fun o h=>(by cases h)⟩ (tl4 rfl rfl rfl rfl) (by rw [E.under n1 n2]; exact .refl _) ?_
  rintro ⟨j,rows,oo⟩ ⟨hj,hrp,hg,h0,hoo⟩;simp only at hj hrp hg h0 hoo;have hBx:∃ Bx,Bx=st0.set oX (stC (callRow kind w (mslot 6 rows.length oo))):=⟨_,rfl⟩;obtain ⟨Bx,hBx⟩:=hBx;show AWP _ _ _ _ _ _ (E.st (mst (st0.set oX (stC (callRow kind w (mslot 6 rows.length oo)))) 95 6 rows oo) { a with j:=j });rw [← hBx];have hvm:MV E (mst Bx 95 6 rows oo) a:=by
   rw [hBx];cases oo with
   | none=>exact hv0.set _ _
   | some o=>exact (hv0.set _ _).set _ _
  have hX:∀ j,(E.st (mst Bx 95 6 rows oo) { a with j:=j }).obj oX=some (stC (callRow kind w (mslot 6 rows.length oo))):=fun j=>by
   rw [E.obj_o n1 n2,hBx];cases oo with
   | none=>exact St.obj_set _ _ _
   | some o=>exact St.obj_under (hoo o rfl).2.2.1 _ _
  have hM:=E.obj_M (mst Bx 95 6 rows oo) { a with j:=j }
  have hps:=E.hps
  have hkp:k < (E.ps.map fun (p:Nat)=>[AV.int .i64 (p:Int)]).length:=by rw [List.length_map,hps]; exact hk
  refine goD ?_;refine AWP.cond_dec rfl (fun h=>AWP.skip ?_) (fun h=>AWP.exit (blk_hit ?_))
  ·have hlt:rows.length < p:=by have:((rows.length:Nat):Int) < (p:Int):=h; omega
   refine AWP.weaken (T':=[(6,.int .i64 (rows.length:Int)),(5,.int .i64 (k:Int)),(1,.cptr oX 13 0 0),(0,.cptr E.oM 9 0 0)]) (tl4 rfl rfl rfl rfl) (.refl _) ?_;have hXb:((E.st (mst Bx 95 6 rows oo) a).drop E.oT).obj oX=some (stC (callRow kind w (mslot 6 rows.length oo))):=by rw [St.obj_drop_ne n1]; exact hX a.j
   refine goC ?_;refine AWP.any rfl ?_;apply AAny.segF (k':=8) (F:=MJ E (mst Bx 95 6 rows oo) a) (base:=(E.st (mst Bx 95 6 rows oo) a).drop E.oT) (hok:=rfl) (hF:=⟨j,hj,rfl⟩) (hb:=fun s hs=>hs.le);repeat (first|apply dsY (hi:=rfl) (hs:=rfl)|apply dqY (hi:=rfl) (hd:=rfl) (hw:=rfl) (h:=fun _ _=>ZC (z:=nz))|apply dqY (hi:=rfl) (hd:=rfl) (hw:=rfl) (h:=fun _ _=>ZH (z:=nz)))
   apply dfY (Q:=fun v=>∃ row,v=.agg row∧GE 4 row) (hi:=rfl) (hd:=rfl) (hw:=rfl) (hex:=⟨_,_,rfl,GE_lit 3 (n:=0) (by decide) (by decide)⟩) (h:=fun s0 s hF hle=>cl rfl rfl (expr_j E hvm hF 2 (by decide) (by decide)) fun v s' hv=>nl ⟨v,rfl,hv.1,hv.2,hv.2.le⟩);rintro v ⟨row,rfl,hrow⟩;obtain ⟨p1,p2,p3,p4',p5,rfl⟩:=GE_row hrow;apply dqY (hi:=rfl) (hd:=rfl) (hw:=rfl) (h:=fun _ _=>lnq rfl rfl (fun e=>by rw [h0 e]; rfl) nz);apply dqY (hi:=rfl) (hd:=rfl) (hw:=rfl) (h:=fun _ _=>bz1 (row:=exRow 0 0 [] [] nilV) (z:=nz));refine dnF fun s hs=>?_;obtain ⟨j2,hj2,rfl⟩:=hs;refine AAny.one rfl rfl rfl rfl ?_;rw [E.under_m (fun o h=>⟨(hoo o h).1,(hoo o h).2.1⟩)];refine apq (rows:=rows) (oo:=oo) rfl rfl rfl ?_ (by simp) rfl (by simp only [List.length_cons,List.length_nil]; omega) (by simp only [List.length_cons,List.length_nil,maxLen]; omega) fun o' ho'=>nl ⟨_,rfl,?_⟩
   ·cases oo with
    | none=>show rows.length=0; rw [h0 rfl]; rfl
    | some o =>
     obtain ⟨q1,q2,q3,q4⟩:=hoo o rfl;show (E.st Bx _).obj o=none;rw [E.obj_o q1 q2,hBx,St.obj_set_ne q3];exact q4
   have ho'':=ho';rw [hBx] at ho'';obtain ⟨q1,q2,q3⟩:=MEnv.new ho'';have qX:o'≠oX:=fun e=>by rw [e,St.obj_set] at q3; cases q3
   have q4:st0.obj o'=none:=by rw [St.obj_set_ne qX] at q3; exact q3
   obtain ⟨a2,ha2⟩:∃ a2:MA,a2={ a with j:=j2 }:=⟨_,rfl⟩;rw [← ha2];obtain ⟨W,hW⟩:∃ W:AV→List (List AV)→St,W=fun c rs=>((E.st st0 a2).set o' (.cells 95 6 rs)).set oX (stC (callRow kind w c)):=⟨_,rfl⟩;have hw0:(E.st Bx a2).set o' (.cells 95 (5 + 1) (rows++[exRow 0 0 [] [] nilV]))=W (mslot 6 rows.length oo) (rows++[exRow 0 0 [] [] nilV]):=by
    rw [hW,hBx,← E.under n1 n2,St.set_comm _ (Ne.symm qX)]
   rw [hw0];apply AAny.segY (k':=14) (S:=_) (Es:=[10,13]) (sts:=fun bs=>match bs with|[b1,b2]=>some (W (bif b2 then .msl o' 6 0 (rows.length + 1) else mslot 6 rows.length oo) (rows++[bif b1 then exRow p1 p2 p3 p4' (.view 6 p5 .shared) else exRow 0 0 [] [] nilV]))|_=>none) (F:=fun x y=>y=x) (base:=St.bareOf (E.st st0 a2)) (hok:=rfl) (hS:=rfl) (h0:=rfl) (hF:=rfl) (hb:=by rw [hW]; exact StLe.bare rfl)
   skip
   apply dqY (hi:=rfl) (hd:=rfl) (hw:=rfl) (h:=fun _ _=>ixm (m:=rows.length) rfl rfl rfl rfl (by simp only [List.length_cons,List.length_nil]; omega) nz);apply deY (L:=[[false,false],[false,true]]) (hL:=rfl) (hd:=rfl) (hw:=rfl) (h:=by
    refine ⟨?_,?_,trivial⟩ <;>
    ·intro s0 e;cases e;refine ⟨_,rfl,fun s hs hle=>?_⟩;subst hs;rw [hW];simp only [cond_true,cond_false];rw [St.set_comm _ qX (.cells 95 6 (rows++[exRow 0 0 [] [] nilV]))];refine sos (row:=exRow 0 0 [] [] nilV) (rows':=rows++[exRow p1 p2 p3 p4' (.view 6 p5 .shared)]) rfl rfl rfl (by rw [Nat.zero_add]; simp) rfl rfl rfl (by rw [Nat.zero_add]; simp [rowSet,exRow]) ?_;refine nl ⟨rfl,?_,StLe.bare rfl⟩;rw [St.set_comm _ (Ne.symm qX)];rfl)
   repeat (first|apply dsY (hi:=rfl) (hs:=rfl)|apply dqY (hi:=rfl) (hd:=rfl) (hw:=rfl) (h:=fun _ _=>ZC (z:=nz)))
   apply deY (L:=[[false,false],[true,false]]) (hL:=rfl) (hd:=rfl) (hw:=rfl) (h:=by
    refine ⟨?_,?_,trivial⟩ <;>
    ·intro s0 e;cases e;refine ⟨_,rfl,fun s hs hle=>?_⟩;subst hs;rw [hW];simp only [stC];refine so1 (row':=callRow kind w (.msl o' 6 0 (rows.length + 1))) rfl rfl rfl rfl rfl (Nat.le_of_ble_eq_true rfl) rfl ?_;exact nl ⟨rfl,rfl,StLe.bare rfl⟩)
   refine dnY rfl fun s hs _=>?_;subst hs;refine AAny.text rfl ?_;refine nl ?_;refine goD ?_;have hl1:(rows++[exRow p1 p2 p3 p4' (.view 6 p5 .shared)]).length=rows.length + 1:=by simp
   refine ⟨(j2,rows++[exRow p1 p2 p3 p4' (.view 6 p5 .shared)],some o'),⟨hj2,by simp only [hl1]; omega,fun r hr=>?_,fun h=>(by cases h),fun o h=>?_⟩,by simp only [hl1]; omega,TLe.consE rfl (by simp only [hl1]) (tl3 rfl rfl rfl),?_⟩
   ·rcases List.mem_append.1 hr with hr|hr
    ·exact hg r hr
    ·rw [List.mem_singleton.1 hr]; exact hrow
   ·cases h;exact ⟨q1,q2,qX,q4⟩
   ·show StLe _ (E.st (mst (st0.set oX (stC (callRow kind w (mslot 6 (rows++[_]).length (some o'))))) 95 6 (rows++[_]) (some o')) { a with j:=j2 });rw [hl1,← ha2,hW];show StLe _ (E.st ((st0.set oX (stC (callRow kind w (.msl o' 6 0 (rows.length + 1))))).set o' (.cells 95 6 (rows++[exRow p1 p2 p3 p4' (.view 6 p5 .shared)]))) a2);rw [← E.under q1 q2,← E.under n1 n2,St.set_comm _ (Ne.symm qX)];exact .refl _
  ·have hrow4:rows.length≤4:=Nat.le_trans hrp p4;cases oo with
   | none =>
    rw [h0 rfl] at hBx;refine goD ?_;refine AWP.ret (rets rfl (.refl _) (.refl _) ⟨true,w,nilV,[],j,rfl,wl,.nilShared _ _,rfl,by decide,fun r hr=>(by cases hr),hj,?_⟩);rw [hBx];rfl
   | some o =>
    obtain ⟨q1,q2,q3,q4⟩:=hoo o rfl;have e1:E.st (mst Bx 95 6 rows (some o)) { a with j:=j }=(E.st Bx { a with j:=j }).set o (.cells 95 6 rows):=(E.under q1 q2 _).symm;rw [e1];refine AWP.frzIn (o:=oX) (o':=o) (i:=0) (j:=10) (row:=callRow kind w (.msl o 6 0 rows.length)) (Ne.symm q3) (by rw [← e1]; exact hX j) rfl rfl (St.obj_set _ _ _) (by rw [Nat.zero_add]; exact Nat.le_refl _) ?_;rw [List.drop_zero,List.take_of_length_le (Nat.le_refl _)];refine goD ?_;refine AWP.ret (rets rfl (.refl _) ?_ ⟨true,w,vw 6 rows,rows,j,rfl,wl,.refl _,rfl,hrow4,hg,hj,rfl⟩);have e2:E.st (st0.set oX (stC (callRow kind w (vw 6 rows)))) { a with j:=j }=(E.st Bx { a with j:=j }).set oX (stC (callRow kind w (vw 6 rows))):=by
     rw [hBx,← E.under n1 n2,← E.under n1 n2,St.set_set]
    unfold stC at e2;rw [e2];refine StLe.set _ _ (StLe.ofNew ?_);rw [E.obj_o q1 q2,hBx,St.obj_set_ne q3];exact q4
theorem MEnv.two (E:MEnv) {st0:St} {a:MA} {o2 o3:Nat} (n2T:o2≠E.oT) (n2M:o2≠E.oM) (n3T:o3≠E.oT) (n3M:o3≠E.oM) (c2 c3:AObj):E.st ((st0.set o2 c2).set o3 c3) a=((E.st st0 a).set o2 c2).set o3 c3:=by
 rw [← E.under n3T n3M,← E.under n2T n2M]
theorem MEnv.fin2 (E:MEnv) {st0:St} {a:MA} {o2 o3:Nat} (n2T:o2≠E.oT) (n2M:o2≠E.oM) (n3T:o3≠E.oT) (n3M:o3≠E.oM) (n32:o3≠o2) (h2:st0.obj o2=none) (h3:st0.obj o3=none) (c2 c3:AObj):StLe (((E.st st0 a).set o2 c2).set o3 c3) (E.st st0 a) :=
 StLe.new (by rw [St.obj_set_ne n32,E.obj_o n3T n3M]; exact h3) (StLe.new (by rw [E.obj_o n2T n2M]; exact h2) (.refl _))
theorem GS_one {kind len:Int} {name typ fn:List UInt8} {tg args:List (List AV)} (h1:0≤kind) (h2:kind≤30) (h3:0≤len) (h4:len≤9) (h5:LP 30 name) (h6:LP 30 typ) (h7:LP 30 fn) (h8:tg.length≤1) (h9:args.length≤4)
  (h10:∀ r ∈ tg,GE 4 r) (h11:∀ r ∈ args,GE 4 r):GS 1 (stRow kind len name typ fn (vw 6 tg) (vw 6 args) (vw 13 []) (vw 13 [])) :=
 ⟨kind,len,name,typ,fn,tg,args,[],[],rfl,h1,h2,h3,h4,h5,h6,h7,h8,h9,by decide,by decide,h10,h11,fun r hr=>(by cases hr),fun r hr=>(by cases hr)⟩
theorem MA.S_get {a:MA} (h:∀ s ∈ a.S,LP 30 s) {m:Nat} (hm:m < (nrows a.S).length):∃ w:List UInt8,(nrows a.S)[m]?=some [.str w]∧LP 30 w:=by
 rw [nrows_len] at hm;exact ⟨_,nrows_get hm,h _ (List.getElem_mem hm)⟩
theorem MA.D_get {a:MA} (h:∀ s ∈ a.D,LP 30 s) {m:Nat} (hm:m < (nrows a.D).length):∃ w:List UInt8,(nrows a.D)[m]?=some [.str w]∧LP 30 w:=by
 rw [nrows_len] at hm;exact ⟨_,nrows_get hm,h _ (List.getElem_mem hm)⟩
theorem call_j (E:MEnv) {st0:St} {a:MA} (hv0:MV E st0 a) (oX:Nat) (n1:oX≠E.oT) (n2:oX≠E.oM) (kind:Int) {s:St} (h:MJ E (st0.set oX (stC (callRow kind [] nilV))) a s) :
  ACalls Tryz.prog 71 [.cptr E.oM 9 0 0,.cptr oX 13 0 0] s
   (fun v s'=>∃ (b:Bool) (fn:List UInt8) (args:AV) (rows:List (List AV)) (j:Nat),v=.bool b∧LP 30 fn∧Le args (vw 6 rows)∧args.one=true∧rows.length≤4∧(∀ r ∈ rows,GE 4 r)∧j≤E.l.length∧s'=E.st (st0.set oX (stC (callRow kind fn args))) { a with j:=j }) (fun _ _=>False):=by
 obtain ⟨j,hj,rfl⟩:=h;exact call_m E (hv0.tape hj) oX n1 n2 kind
theorem element_j (E:MEnv) {st0:St} {a:MA} (hv:MV E st0 a) {s:St} (h:MJ E st0 a s) (hA:0 < a.A.length) :
  ACalls Tryz.prog 97 [.cptr E.oM 9 0 0,.int .i64 1] s (fun v s'=>(∃ row,v=.agg row∧GE 4 row)∧MJ E st0 a s') (fun _ _=>False):=by
 obtain ⟨j,hj,rfl⟩:=h;exact (element_m E (hv.tape hj) hA).mono (fun v s' ⟨h1,h2⟩=>⟨h1,h2.trans⟩) (fun _ _ h=>h)
theorem ex_one (op num:Int) (name field:List UInt8):Le (.view 6 [exRow op num name field nilV] .shared) (.view 6 [exRow op num name field noE] .shared):=by
 refine .view _ _ _ _ rfl (fun row hr c hc=>?_) (fun i a b h1 h2=>?_) fun i j a b c d h1 h2 h3 h4=>?_
 ·rw [List.mem_singleton.1 hr] at hc;simp only [exRow,List.mem_cons,List.not_mem_nil,or_false] at hc;rcases hc with rfl|rfl|rfl|rfl|rfl|rfl <;> rfl
 ·match i,h1,h2 with
  | 0,h1,h2=>cases h1; cases h2; rfl
 ·match i,h1,h2 with
  | 0,h1,h2 =>
   cases h1; cases h2
   match j,h3,h4 with
   | 0,h3,h4=>cases h3; cases h4; exact .refl _
   | 1,h3,h4=>cases h3; cases h4; exact .refl _
   | 2,h3,h4=>cases h3; cases h4; exact .refl _
   | 3,h3,h4=>cases h3; cases h4; exact .refl _
   | 4,h3,h4=>cases h3; cases h4; exact .refl _
   | 5,h3,h4=>cases h3; cases h4; exact .nilShared _ _
   | j + 6,h3,h4=>cases h3
theorem fxy:∀ m,m < 2→∃ b:List UInt8,(chunk (0 + 1) 2 [AV.str [120],AV.str [121]])[m]?=some [.str b]∧LP 1 b
 | 0,_=>⟨_,rfl,by decide⟩
 | 1,_=>⟨_,rfl,by decide⟩
set_option maxHeartbeats 4000000 in
theorem assign_m (E:MEnv) {st0:St} {a:MA} (hv0:MV E st0 a) :
  ACalls Tryz.prog 72 [.cptr E.oM 9 0 0] (E.st st0 a) (fun v s'=>(∃ row,v=.agg row∧GS 1 row)∧MJ E st0 a s') (fun _ _=>False):=by
 refine ACalls.ofBody Tryz.func72 rfl Tryz.ntmps72 rfl ?_;refine goC ?_;refine rg ?_;refine al rfl rfl fun o2 h2=>?_;obtain ⟨n2T,n2M,h2'⟩:=MEnv.new h2;show AOps _ _ _ _ _ _ _ ((E.st st0 a).set o2 zSt);rw [E.under n2T n2M];refine goD ?_;refine bds (cs:=callRow 3 [] nilV) rfl rfl rfl rfl ?_;refine al rfl rfl fun o3 h3=>?_;obtain ⟨n3T,n3M,h3'⟩:=MEnv.new h3;refine soV rfl rfl rfl rfl rfl rfl ?_;have n32:o3≠o2:=fun e=>by rw [e,St.obj_set] at h3'; cases h3'
 have h3'':st0.obj o3=none:=by rw [St.obj_set_ne n32] at h3'; exact h3'
 rw [E.under n3T n3M];obtain ⟨B,hB⟩:∃ B:AObj→St,B=fun c=>(st0.set o2 zSt).set o3 c:=⟨_,rfl⟩;have hvB:∀ c,MV E (B c) a:=fun c=>by rw [hB]; exact (hv0.set _ _).set _ _
 have hE:∀ c a,E.st (B c) a=((E.st st0 a).set o2 zSt).set o3 c:=fun c a=>by rw [hB]; exact E.two n2T n2M n3T n3M _ _
 have hS:((st0.set o2 zSt).set o3 (.cells 41 13 [AV.cells (.agg (callRow 3 [] nilV))]))=B (stC (callRow 3 [] nilV)):=by rw [hB]; rfl
 rw [hS];have hM:=E.obj_M (B (stC (callRow 3 [] nilV))) a;refine goD ?_;refine cl rfl rfl (next_j E (hvB _) (MJ.refl (hvB _)) 8 (by decide) (by decide)) fun v s' ⟨⟨k,hk,hk8⟩,j1,hj1,hs⟩=>?_;subst hk hs;refine goE ?_;refine nl ?_;have fin':∀ c d a,StLe (((E.st st0 a).set o2 c).set o3 d) (E.st st0 a):=fun c d a=>E.fin2 n2T n2M n3T n3M n32 h2' h3'' c d;refine cut (α:=Nat × AObj) (fun _=>[(4,.int .i64 (k:Int)),(3,.cptr o3 13 0 0),(2,.cptr o2 13 0 0),(0,.cptr E.oM 9 0 0)]) (fun x=>E.st (B x.2) { a with j:=x.1 }) (fun x=>x.1≤E.l.length∧∃ row,x.2=stC row∧row.length=13) ?_ ?_
 ·by_cases hk2:(k:Int) < 2
  ·refine goD ?_;refine cl rfl rfl (call_j E (st0:=st0.set o2 zSt) (hv0.set _ _) o3 n3T n3M 3 ⟨j1,hj1,by rw [hB]⟩) fun v s' ⟨b,fn,args,rows,j2,hv,hfn,hle,hone,hrl,hrg,hj2,hs⟩=>?_;subst hv hs;rw [show (st0.set o2 zSt).set o3 (stC (callRow 3 fn args))=B (stC (callRow 3 fn args)) by rw [hB]];cases b with
   | false =>
    refine goD ?_;exact ⟨(j2,stC (callRow 3 fn args)),⟨hj2,_,rfl,rfl⟩,(tl4 rfl rfl rfl rfl),.refl _⟩
   | true =>
    have hM2:=E.obj_M (B (stC (callRow 3 fn args))) { a with j:=j2 };refine goE ?_;refine nl ?_;refine AWP.cond_true rfl ?_;refine cut (α:=Nat × AV × List (List AV)) (fun _=>[(3,.cptr o3 13 0 0),(2,.cptr o2 13 0 0)]) (fun x=>E.st (B (stC (stRow 3 0 [] [] fn x.2.1 args nilV nilV))) { a with j:=x.1 }) (fun x=>x.1≤E.l.length∧Le x.2.1 (vw 6 x.2.2)∧x.2.1.one=true∧x.2.2.length≤1∧∀ r ∈ x.2.2,GE 4 r) ?_ ?_
    ·by_cases hS:(0:Int) < ((nrows a.S).length:Int)
     ·refine goD ?_;refine cl rfl rfl (next_j E (hvB _) ⟨j2,hj2,rfl⟩ 4 (by decide) (by decide)) fun v s' ⟨⟨n,hn,hn4⟩,j3,hj3,hs⟩=>?_;subst hn hs;have hM3:=E.obj_M (B (stC (callRow 3 fn args))) { a with j:=j3 };by_cases hn0:(0:Int) < (n:Int)
      ·refine goD ?_;apply AWP.drawI (hm:=rfl) (k:=14) (I:=MJ E (B (stC (callRow 3 fn args))) a) (hI:=⟨j3,hj3,rfl⟩)
       case hok=>rfl
       have hM:=fun s (h:MJ E (B (stC (callRow 3 fn args))) a s)=>h.M;repeat (first|apply diQ (hd:=rfl) (hw:=rfl) (h:=fun st1 hI=>lc rfl rfl (hM st1 hI) rfl rfl (nl ⟨_,rfl,rfl,rfl⟩))|apply diQ (hd:=rfl) (hw:=rfl) (h:=fun _ _=>ZA (z:=nz))|apply diQ (hd:=rfl) (hw:=rfl) (h:=fun _ _=>ZC (z:=nz))|apply diQ (hd:=rfl) (hw:=rfl) (h:=fun _ _=>ZJ (z:=nz)))
       apply diE (Q:=fun v=>∃ n:Nat,v=.int .i64 (n:Int)∧n < (nrows a.S).length) (hd:=rfl) (hw:=rfl) (hex:=⟨_,0,rfl,by omega⟩) (h:=fun x hx=>cl rfl rfl (next_j E (hvB _) hx ((nrows a.S).length:Int) hS (by rw [nrows_len]; have:=hv0.lS; have:=hv0.c; omega)) fun v s' ⟨⟨n,hv,hn⟩,hs⟩=>nl ⟨v,rfl,⟨n,hv,by omega⟩,hs⟩);rintro v ⟨m,rfl,hm⟩;refine diN fun s4 hs4=>?_;obtain ⟨j4,hj4,rfl⟩:=hs4;obtain ⟨w,hw,wl⟩:=MA.S_get hv0.nS hm;refine goD ?_;rw [hE];unfold stC;refine YB (row':=stRow 3 0 [] [] fn (vw 6 [exRow 1 0 w [] noE]) args nilV nilV) (hle:=by exact Nat.le_of_ble_eq_true rfl) (he:=by exact rfl) (z:=?_);refine nl ?_;exact ⟨(j4,vw 6 [exRow 1 0 w [] noE],[exRow 1 0 w [] noE]),⟨hj4,.refl _,rfl,Nat.le_refl _,fun r hr=>by rw [List.mem_singleton.1 hr]; exact GE_var 3 wl⟩,(tl2 rfl rfl),by rw [hE]; exact .refl _⟩
      ·refine goD ?_;exact ⟨(j3,nilV,[]),⟨hj3,.nilShared _ _,rfl,Nat.zero_le _,fun r hr=>(by cases hr)⟩,(tl2 rfl rfl),.refl _⟩
     ·refine goD ?_;exact ⟨(j2,nilV,[]),⟨hj2,.nilShared _ _,rfl,Nat.zero_le _,fun r hr=>(by cases hr)⟩,(tl2 rfl rfl),.refl _⟩
    ·rintro ⟨j,tg,tgr⟩ ⟨hj,t1,t2,t3,t4⟩;simp only at hj t1 t2 t3 t4;show AWP _ _ _ _ _ _ (E.st (B (stC (stRow 3 0 [] [] fn tg args nilV nilV))) { a with j:=j });rw [hE];unfold stC zSt;refine goD ?_;refine soU rfl n32 rfl rfl rfl rfl rfl ?_;refine goD ?_;exact AWP.ret (rets (resCW rfl (St.obj_under n32 _ _) rfl rfl rfl rfl) (st_le t1 hle (.nilShared _ _) (.nilShared _ _) rfl rfl rfl rfl) (fin' _ _ _) ⟨⟨_,rfl,GS_one (by decide) (by decide) (by decide) (by decide) (by decide) (by decide) hfn t3 hrl t4 hrg⟩,j,hj,rfl⟩)
  ·refine goD ?_;exact ⟨(j1,stC (callRow 3 [] nilV)),⟨hj1,_,rfl,rfl⟩,(tl4 rfl rfl rfl rfl),.refl _⟩
 ·rintro ⟨j,c⟩ ⟨hj,row,hc,hrl⟩;simp only at hj hc;subst hc;show AWP _ _ _ _ _ _ (E.st (B (stC row)) { a with j:=j });refine goC ?_;refine rg ?_;refine bds (cs:=stRow 2 0 [] [] [] nilV nilV nilV nilV) rfl rfl rfl rfl ?_;rw [hE];unfold stC;refine soV rfl rfl rfl rfl rfl (by rw [hrl]; rfl) ?_;rw [show ((E.st st0 { a with j:=j }).set o2 zSt).set o3 (.cells 41 13 [AV.cells (.agg (stRow 2 0 [] [] [] nilV nilV nilV nilV))])=E.st (B (stC (stRow 2 0 [] [] [] nilV nilV nilV nilV))) { a with j:=j } from (hE _ _).symm];refine nl ?_;have hM:=E.obj_M (B (stC (stRow 2 0 [] [] [] nilV nilV nilV nilV))) { a with j:=j };refine cut (α:=Nat × AV × List (List AV)) (fun _=>[(3,.cptr o3 13 0 0),(2,.cptr o2 13 0 0),(0,.cptr E.oM 9 0 0)]) (fun x=>E.st (B (stC (stRow 2 0 [] [] [] x.2.1 nilV nilV nilV))) { a with j:=x.1 }) (fun x=>x.1≤E.l.length∧Le x.2.1 (vw 6 x.2.2)∧x.2.1.one=true∧x.2.2.length≤1∧∀ r ∈ x.2.2,GE 4 r) ?_ ?_
  ·by_cases c1:(k:Int)=6∧(0:Int) < ((nrows a.D).length:Int)
   ·obtain ⟨c1,hD⟩:=c1;refine goD ?_;apply AWP.drawI (hm:=rfl) (k:=24) (I:=MJ E (B (stC (stRow 2 0 [] [] [] nilV nilV nilV nilV))) a) (hI:=⟨j,hj,rfl⟩)
    case hok=>rfl
    have hM:=fun s (h:MJ E (B (stC (stRow 2 0 [] [] [] nilV nilV nilV nilV))) a s)=>h.M;repeat (first|apply diQ (hd:=rfl) (hw:=rfl) (h:=fun st1 hI=>lc rfl rfl (hM st1 hI) rfl rfl (nl ⟨_,rfl,rfl,rfl⟩))|apply diQ (hd:=rfl) (hw:=rfl) (h:=fun _ _=>ZA (z:=nz))|apply diQ (hd:=rfl) (hw:=rfl) (h:=fun _ _=>ZC (z:=nz))|apply diQ (hd:=rfl) (hw:=rfl) (h:=fun _ _=>ZJ (z:=nz)))
    apply diE (Q:=fun v=>∃ n:Nat,v=.int .i64 (n:Int)∧n < (nrows a.D).length) (hd:=rfl) (hw:=rfl) (hex:=⟨_,0,rfl,by omega⟩) (h:=fun x hx=>cl rfl rfl (next_j E (hvB _) hx ((nrows a.D).length:Int) hD (by rw [nrows_len]; have:=hv0.lD; have:=hv0.c; omega)) fun v s' ⟨⟨n,hv,hn⟩,hs⟩=>nl ⟨v,rfl,⟨n,hv,by omega⟩,hs⟩);rintro v ⟨m,rfl,hm⟩;obtain ⟨q0,hq0,hq0l⟩:=MA.D_get hv0.nD hm;apply diE (Q:=fun v=>∃ m:Nat,v=.eptr 1 (nrows a.D) m 0∧m < (nrows a.D).length) (hd:=rfl) (hw:=rfl) (hex:=⟨_,m,rfl,hm⟩) (h:=fun x hx=>ix (m:=m) rfl rfl rfl rfl hm (nl ⟨_,rfl,⟨m,rfl,hm⟩,hx⟩));rintro v ⟨m1,rfl,hm1⟩;obtain ⟨q1,hq1,hq1l⟩:=MA.D_get hv0.nD hm1;apply diE (Q:=fun v=>∃ w:List UInt8,v=.str w∧LP 30 w) (hd:=rfl) (hw:=rfl) (hex:=⟨_,q1,rfl,hq1l⟩) (h:=fun x hx=>Go.AM.le rfl rfl hq1 rfl (nl ⟨_,rfl,⟨q1,rfl,hq1l⟩,hx⟩));rintro v ⟨w,rfl,wl⟩;apply diQ (hd:=rfl) (hw:=rfl) (h:=fun x hx=>bsh (cs:=[.str [120],.str [121]]) rfl rfl rfl rfl rfl (nl ⟨_,rfl,rfl,rfl⟩));repeat (first|apply diQ (hd:=rfl) (hw:=rfl) (h:=fun st1 hI=>lc rfl rfl (hM st1 hI) rfl rfl (nl ⟨_,rfl,rfl,rfl⟩))|apply diQ (hd:=rfl) (hw:=rfl) (h:=fun _ _=>ZA (z:=nz))|apply diQ (hd:=rfl) (hw:=rfl) (h:=fun _ _=>ZC (z:=nz)))
    apply diE (Q:=fun v=>∃ m:Nat,v=.int .i64 (m:Int)∧m < 2) (hd:=rfl) (hw:=rfl) (hex:=⟨_,0,rfl,by decide⟩) (h:=fun x hx=>cl rfl rfl (next_j E (hvB _) hx 2 (by decide) (by decide)) fun v s' ⟨⟨n,hv,hn⟩,hs⟩=>nl ⟨v,rfl,⟨n,hv,by omega⟩,hs⟩);rintro v ⟨m2,rfl,hm2⟩;apply diE (Q:=fun v=>∃ m:Nat,v=.eptr 1 (chunk (0 + 1) 2 [AV.str [120],AV.str [121]]) m 0∧m < 2) (hd:=rfl) (hw:=rfl) (hex:=⟨_,m2,rfl,hm2⟩) (h:=fun x hx=>ix (m:=m2) rfl rfl rfl rfl (by exact hm2) (nl ⟨_,rfl,⟨m2,rfl,hm2⟩,hx⟩));rintro v ⟨m3,rfl,hm3⟩;obtain ⟨b3,hb3,hb3l⟩:=fxy m3 hm3;apply diE (Q:=fun v=>∃ w:List UInt8,v=.str w∧LP 1 w) (hd:=rfl) (hw:=rfl) (hex:=⟨_,b3,rfl,hb3l⟩) (h:=fun x hx=>Go.AM.le rfl rfl hb3 rfl (nl ⟨_,rfl,⟨b3,rfl,hb3l⟩,hx⟩));rintro v ⟨fw,rfl,fl⟩;refine diN fun s4 hs4=>?_;obtain ⟨j4,hj4,rfl⟩:=hs4;refine bds (cs:=exRow 2 0 w fw nilV) rfl rfl rfl rfl ?_;refine goD ?_;rw [hE];unfold stC;refine YB (row':=stRow 2 0 [] [] [] (.view 6 [exRow 2 0 w fw nilV] .shared) nilV nilV nilV) (hle:=by exact Nat.le_of_ble_eq_true rfl) (he:=by exact rfl) (z:=?_);refine nl ?_;exact ⟨(j4,.view 6 [exRow 2 0 w fw nilV] .shared,[exRow 2 0 w fw noE]),⟨hj4,ex_one _ _ _ _,rfl,Nat.le_refl _,fun r hr=>by rw [List.mem_singleton.1 hr]; exact ⟨2,0,w,fw,[],rfl,by decide,by decide,by decide,by decide,wl,fl,by decide,fun r hr=>(by cases hr)⟩⟩,(tl3 rfl rfl rfl),by rw [hE]; exact .refl _⟩
   by_cases c2:(k:Int)=7∧(0:Int) < ((nrows a.A).length:Int)
   ·obtain ⟨c2,hA⟩:=c2;refine goD ?_;refine cl rfl rfl (element_j E (hvB _) ⟨j,hj,rfl⟩ (by rw [nrows_len] at hA; omega)) fun v s' ⟨⟨row2,hv,hg⟩,j3,hj3,hs⟩=>?_;subst hv hs;obtain ⟨p1,p2,p3,p4,p5,rfl⟩:=GE_row hg;refine goE ?_;rw [hE];unfold stC;refine YB (row':=stRow 2 0 [] [] [] (vw 6 [exRow p1 p2 p3 p4 (.view 6 p5 .shared)]) nilV nilV nilV) (hle:=by exact Nat.le_of_ble_eq_true rfl) (he:=by exact rfl) (z:=?_);refine nl ?_;exact ⟨(j3,vw 6 [exRow p1 p2 p3 p4 (.view 6 p5 .shared)],[exRow p1 p2 p3 p4 (.view 6 p5 .shared)]),⟨hj3,.refl _,rfl,Nat.le_refl _,fun r hr=>by rw [List.mem_singleton.1 hr]; exact hg⟩,(tl3 rfl rfl rfl),by rw [hE]; exact .refl _⟩
   refine goC ?_;refine midk [(56,.bool false),(4,.int .i64 (k:Int)),(3,.cptr o3 13 0 0),(2,.cptr o2 13 0 0),(0,.cptr E.oM 9 0 0)] (E.st (B (stC (stRow 2 0 [] [] [] nilV nilV nilV nilV))) { a with j:=j }) ?_ ?_
   ·by_cases e6:(k:Int)=6
    ·have hD:¬ (0:Int) < ((nrows a.D).length:Int):=fun h=>c1 ⟨e6,h⟩;refine goD ?_;exact ⟨TLe.consE rfl (congrArg AV.bool (decide_eq_false hD)) (tl4 rfl rfl rfl rfl),.refl _⟩
    ·refine goD ?_;exact ⟨(tl5 rfl rfl rfl rfl rfl),.refl _⟩
   refine AWP.cond_false rfl ?_;refine goC ?_;refine midk [(94,.bool false),(4,.int .i64 (k:Int)),(3,.cptr o3 13 0 0),(2,.cptr o2 13 0 0),(0,.cptr E.oM 9 0 0)] (E.st (B (stC (stRow 2 0 [] [] [] nilV nilV nilV nilV))) { a with j:=j }) ?_ ?_
   ·by_cases e7:(k:Int)=7
    ·have hA:¬ (0:Int) < ((nrows a.A).length:Int):=fun h=>c2 ⟨e7,h⟩;refine goD ?_;exact ⟨TLe.consE rfl (congrArg AV.bool (decide_eq_false hA)) (tl4 rfl rfl rfl rfl),.refl _⟩
    ·refine goD ?_;exact ⟨(tl5 rfl rfl rfl rfl rfl),.refl _⟩
   refine AWP.cond_false rfl ?_;by_cases hS:(0:Int) < ((nrows a.S).length:Int)
   ·refine goD ?_;apply AWP.drawI (hm:=rfl) (k:=14) (I:=MJ E (B (stC (stRow 2 0 [] [] [] nilV nilV nilV nilV))) a) (hI:=⟨j,hj,rfl⟩)
    case hok=>rfl
    have hM:=fun s (h:MJ E (B (stC (stRow 2 0 [] [] [] nilV nilV nilV nilV))) a s)=>h.M;repeat (first|apply diQ (hd:=rfl) (hw:=rfl) (h:=fun st1 hI=>lc rfl rfl (hM st1 hI) rfl rfl (nl ⟨_,rfl,rfl,rfl⟩))|apply diQ (hd:=rfl) (hw:=rfl) (h:=fun _ _=>ZA (z:=nz))|apply diQ (hd:=rfl) (hw:=rfl) (h:=fun _ _=>ZC (z:=nz))|apply diQ (hd:=rfl) (hw:=rfl) (h:=fun _ _=>ZJ (z:=nz)))
    apply diE (Q:=fun v=>∃ n:Nat,v=.int .i64 (n:Int)∧n < (nrows a.S).length) (hd:=rfl) (hw:=rfl) (hex:=⟨_,0,rfl,by omega⟩) (h:=fun x hx=>cl rfl rfl (next_j E (hvB _) hx ((nrows a.S).length:Int) hS (by rw [nrows_len]; have:=hv0.lS; have:=hv0.c; omega)) fun v s' ⟨⟨n,hv,hn⟩,hs⟩=>nl ⟨v,rfl,⟨n,hv,by omega⟩,hs⟩);rintro v ⟨m,rfl,hm⟩;refine diN fun s4 hs4=>?_;obtain ⟨j4,hj4,rfl⟩:=hs4;obtain ⟨w,hw,wl⟩:=MA.S_get hv0.nS hm;refine goD ?_;rw [hE];unfold stC;refine YB (row':=stRow 2 0 [] [] [] (vw 6 [exRow 1 0 w [] noE]) nilV nilV nilV) (hle:=by exact Nat.le_of_ble_eq_true rfl) (he:=by exact rfl) (z:=?_);refine nl ?_;exact ⟨(j4,vw 6 [exRow 1 0 w [] noE],[exRow 1 0 w [] noE]),⟨hj4,.refl _,rfl,Nat.le_refl _,fun r hr=>by rw [List.mem_singleton.1 hr]; exact GE_var 3 wl⟩,(tl3 rfl rfl rfl),by rw [hE]; exact .refl _⟩
   ·refine goD ?_;refine cl rfl rfl (expr_j E (hvB _) ⟨j,hj,rfl⟩ 0 (by decide) (by decide)) fun v s' ⟨⟨row2,hv,hg⟩,j3,hj3,hs⟩=>?_;subst hv hs;obtain ⟨p1,p2,p3,p4,p5,rfl⟩:=GE_row hg;refine goD ?_;refine bds (cs:=stRow 9 0 [] [] [] nilV (vw 6 [exRow p1 p2 p3 p4 (.view 6 p5 .shared)]) nilV nilV) rfl rfl rfl rfl ?_;rw [hE];unfold stC zSt;refine soU rfl n32 rfl rfl rfl rfl rfl ?_;refine goD ?_;exact AWP.ret (rets (resCW rfl (St.obj_under n32 _ _) rfl rfl rfl rfl) (st_le (.nilShared _ _) (.refl _) (.nilShared _ _) (.nilShared _ _) rfl rfl rfl rfl) (fin' _ _ _) ⟨⟨_,rfl,GS_one (by decide) (by decide) (by decide) (by decide) (by decide) (by decide) (by decide) (Nat.zero_le _) (by simp) (fun r hr=>(by cases hr)) (fun r hr=>by rw [List.mem_singleton.1 hr]; exact hg)⟩,j3,hj3,rfl⟩)
  ·rintro ⟨j,tg,tgr⟩ ⟨hj,t1,t2,t3,t4⟩;simp only at hj t1 t2 t3 t4;show AWP _ _ _ _ _ _ (E.st (B (stC (stRow 2 0 [] [] [] tg nilV nilV nilV))) { a with j:=j });refine goD ?_;refine cl rfl rfl (expr_j E (hvB _) ⟨j,hj,rfl⟩ 0 (by decide) (by decide)) fun v s' ⟨⟨row2,hv,hg⟩,j3,hj3,hs⟩=>?_;subst hv hs;obtain ⟨p1,p2,p3,p4,p5,rfl⟩:=GE_row hg;refine goD ?_;rw [hE];unfold stC zSt;refine YB (row':=stRow 2 0 [] [] [] tg (vw 6 [exRow p1 p2 p3 p4 (.view 6 p5 .shared)]) nilV nilV) (hle:=by exact Nat.le_of_ble_eq_true rfl) (he:=by exact rfl) (z:=?_);refine goD ?_;refine soU rfl n32 rfl rfl rfl rfl rfl ?_;refine goD ?_;exact AWP.ret (rets (resCW rfl (St.obj_under n32 _ _) rfl rfl rfl rfl) (st_le t1 (.refl _) (.nilShared _ _) (.nilShared _ _) rfl rfl rfl rfl) (fin' _ _ _) ⟨⟨_,rfl,GS_one (by decide) (by decide) (by decide) (by decide) (by decide) (by decide) (by decide) t3 (by simp) t4 (fun r hr=>by rw [List.mem_singleton.1 hr]; exact hg)⟩,j3,hj3,rfl⟩)
end Go.Proofs
namespace Go.Proofs
open Go.AM
attribute [local irreducible] AWP AOps ACalls AAny
set_option linter.unusedSimpArgs false
theorem addTok_toks (st:St) (tk:Nat) (L:List (Option Nat)):(st.toks L).addTok tk=(st.addTok tk).toks L:=by
 refine St.ext3 rfl (funext fun p=>?_) rfl;show (if p=tk then true else (decide (some p ∈ L) || st.tok p))=(decide (some p ∈ L) || if p=tk then true else st.tok p);by_cases h:p=tk
 ·rw [if_pos h,if_pos h,Bool.or_true]
 ·rw [if_neg h,if_neg h]
theorem MEnv.tokk (E:MEnv) (st0:St) (a:MA) (tk:Nat):(E.st st0 a).addTok tk=E.st (st0.addTok tk) a:=addTok_toks _ _ _
theorem MV.newTok {E:MEnv} {st0:St} {a:MA} (h:MV E st0 a) {tk:Nat} (hf:(E.st st0 a).tok tk=false):st0.tok tk=false∧MV E (st0.addTok tk) a:=by
 have h1:(decide (some tk ∈ a.toks) || st0.tok tk)=false:=hf;rw [Bool.or_eq_false_iff] at h1;refine ⟨h1.2,{ h with tk:=⟨h.tk.one,fun i t hi=>?_⟩ }⟩;show (if t=tk then true else st0.tok t)=false;rw [if_neg (fun e=>by subst e; have:=h1.1; rw [decide_eq_false_iff_not] at this; exact this (List.mem_of_getElem? hi))];exact h.tk.fresh i t hi
theorem MV.unTok {E:MEnv} {st0:St} {a:MA} {tk:Nat} (h:MV E (st0.addTok tk) a):MV E st0 a :=
 { h with tk:=⟨h.tk.one,fun i t hi=>by
   have h1:(if t=tk then true else st0.tok t)=false:=h.tk.fresh i t hi;by_cases e:t=tk
   ·rw [if_pos e] at h1; cases h1
   ·rwa [if_neg e] at h1⟩ }
theorem MEnv.tokLe (E:MEnv) (st0:St) (a:MA) (tk:Nat):StLe (E.st (st0.addTok tk) a) (E.st st0 a):=by
 rw [← E.tokk];exact StLe.addTok tk (.refl _)
section
variable {n:Nat} {K:Post} {X:EPost} {T:Tmps} {ops:Array Oper} {rest:List Oper}
variable {ty:TypeId} {pos:String} {es:Array Edge} {gd:Option (Nat × Bool)} {d:Tmp} {x y:Operand} {dd:Option Tmp}
theorem ap_out (E:MEnv) {st0:St} {a:MA} {rows rows2:List (List AV)} {tk:Nat} {tk2:Go.AM.Tok}
  (hg:goes ops n T ⟨dd,.call ⟨.builtin .append,#[x,y],#[34,34]⟩,ty,pos,es,gd⟩=some d) (hx:ev (E.st (st0.addTok tk) a) T x=some (.view 13 rows (.own tk 41))) (hy:ev (E.st (st0.addTok tk) a) T y=some (.view 13 rows2 tk2))
  (h0:st0.tok tk=false) (hv:MV E (st0.addTok tk) a) (hl:rows.length + rows2.length≤1000)
  (k:∀ tk',st0.tok tk'=false→MV E (st0.addTok tk') a→AOps Tryz.prog n ops rest K X ((d,.view 13 (rows++rows2) (.own tk' 41))::T) (E.st (st0.addTok tk') a)) :
  AOps Tryz.prog n ops (⟨dd,.call ⟨.builtin .append,#[x,y],#[34,34]⟩,ty,pos,es,gd⟩::rest) K X T (E.st (st0.addTok tk) a):=by
 refine ap hg hx hy (by rw [← E.tokk]; exact St.tok_addTok _ _) rfl (by omega) (by simp only [maxLen]; omega) fun tk' htk'=>?_;have h1:(E.st st0 a).tok tk'=false:=by rw [← E.tokk] at htk'; exact St.tok_of_add htk'
 have h2:(E.st st0 a).tok tk=false:=by
  have:=hv.tk.fresh
  show (decide (some tk ∈ a.toks) || st0.tok tk)=false;rw [h0,Bool.or_false,decide_eq_false_iff_not];intro hm;obtain ⟨i,hi⟩:=List.getElem?_of_mem hm;have h3:(if tk=tk then true else st0.tok tk)=false:=this i tk hi;rw [if_pos rfl] at h3;cases h3
 obtain ⟨h3,h4⟩:=hv.unTok.newTok h1;refine AOps.weaken (TLe.refl _) ?_ (k tk' h3 h4);rw [← E.tokk,← E.tokk];exact StLe.reTok h2 tk'
end
def BlockRt (E:MEnv) (st0:St) (a:MA) (d:Nat) (v:AV) (s':St):Prop :=
 ∃ (rows:List (List AV)) (tk:Nat) (b:MA),v=.view 13 rows (.own tk 41)∧(∀ r ∈ rows,GS (d + 1) r)∧rows.length≤20∧st0.tok tk=false∧MV E (st0.addTok tk) b∧MLe a b∧b.count + b.left≤a.count + a.left∧s'=E.st (st0.addTok tk) b
def StmtsC (d:Nat):Prop:=∀ (E:MEnv) (st0:St) (a:MA),MV E st0 a→∀ most:Nat,most≤10 →
 ACalls Tryz.prog 38 [.cptr E.oM 9 0 0,.int .i64 (4 - (d:Int)),.int .i64 (most:Int)] (E.st st0 a) (BlockRt E st0 a d) (fun _ _=>False)
def tslot (rows:List (List AV)):Option AV→Option Nat→Prop
 | none,none=>True
 | some u,some k=>u=.view 1 rows (.own k 9)
 | _,_=>False
def BJ (E:MEnv) (s0:St) (c:MA) (r1 r2 r3:List (List AV)) (vs:List (Option AV)) (s:St):Prop :=
 match vs with
 | [v1,v2,v3,w1,w2,w3]=>∃ k1 k2 k3:Option Nat,tslot r1 v1 k1∧tslot r2 v2 k2∧tslot r3 v3 k3∧TokL s0 [k1,k2,k3] ∧
   s=(s0.toks [k1,k2,k3]).set E.oM (mkC E.oT (E.f:Int) (E.funcs:Int) E.pv (bif w1.isSome then v1.getD nilV else gnv c.S c.kS) (bif w2.isSome then v2.getD nilV else gnv c.D c.kD) (bif w3.isSome then v3.getD nilV else gnv c.A c.kA) (c.count:Int) (c.left:Int))
 | _=>False
theorem toks_add {st:St} {L:List (Option Nat)} {i:Nat} (hi:L[i]?=some none) (k:Nat):(st.toks L).addTok k=st.toks (L.set i (some k)):=by
 refine St.ext3 rfl (funext fun p=>?_) rfl;show (if p=k then true else (decide (some p ∈ L) || st.tok p))=(decide (some p ∈ L.set i (some k)) || st.tok p)
 have hil:=(List.getElem?_eq_some_iff.1 hi).1;by_cases h:p=k
 ·subst h;rw [if_pos rfl,decide_eq_true (List.mem_of_getElem? (List.getElem?_set_self hil)),Bool.true_or]
 ·rw [if_neg h]
  congr 1
  rw [decide_eq_decide];constructor
  ·intro hm;obtain ⟨j,hj⟩:=List.getElem?_of_mem hm;have hne:i≠j:=fun e=>by rw [e,hj] at hi; cases hi
   exact List.mem_of_getElem? (by rw [List.getElem?_set_ne hne]; exact hj)
  ·intro hm;rcases List.mem_or_eq_of_mem_set hm with hm|hm
   ·exact hm
   ·cases hm; exact absurd rfl h
theorem TokL.add {st:St} {L:List (Option Nat)} (h:TokL st L) {i k:Nat} (hf:(st.toks L).tok k=false):TokL st (L.set i (some k)):=h.set hf i
theorem toks_le (st:St) (L1 L2:List (Option Nat)):StLe ((st.toks L1).toks L2) (st.toks L2):=⟨fun _ _ h=>h,fun t h=>by
 have h':(decide (some t ∈ L2) || st.tok t)=true:=h
 show (decide (some t ∈ L2) || (decide (some t ∈ L1) || st.tok t))=true;rw [Bool.or_eq_true] at h' ⊢;rcases h' with h'|h'
 ·exact .inl h'
 ·exact .inr (by rw [h',Bool.or_true]),rfl⟩
theorem isN {v:Option AV} (h:v.isSome=false):v=none:=by cases v with|none=>rfl|some u=>cases h
theorem isT {v:Option AV} (h:v.isSome=true):∃ u,v=some u:=by cases v with|none=>cases h|some u=>exact ⟨u,rfl⟩
theorem BJ.parts {E:MEnv} {s0:St} {c:MA} {r1 r2 r3:List (List AV)} {v1 v2 v3 w1 w2 w3:Option AV} {s:St} (h:BJ E s0 c r1 r2 r3 [v1,v2,v3,w1,w2,w3] s):∃ k1 k2 k3:Option Nat,tslot r1 v1 k1∧tslot r2 v2 k2∧tslot r3 v3 k3∧TokL s0 [k1,k2,k3] ∧
   s=(s0.toks [k1,k2,k3]).set E.oM (mkC E.oT (E.f:Int) (E.funcs:Int) E.pv (bif w1.isSome then v1.getD nilV else gnv c.S c.kS) (bif w2.isSome then v2.getD nilV else gnv c.D c.kD) (bif w3.isSome then v3.getD nilV else gnv c.A c.kA) (c.count:Int) (c.left:Int)):=h
theorem tslot.none' {rows:List (List AV)} {k:Option Nat} (h:tslot rows none k):k=none:=by
 cases k with
 | none=>rfl
 | some k=>exact h.elim
theorem tslot.some' {rows:List (List AV)} {u:AV} {k:Option Nat} (h:tslot rows (some u) k):∃ k',k=some k'∧u=.view 1 rows (.own k' 9):=by
 cases k with
 | none=>exact h.elim
 | some k=>exact ⟨k,rfl,h⟩
theorem vs6 {vs:List (Option AV)} {b1 b2 b3 b4 b5 b6:Bool} (h:vs.map Option.isSome=[b1,b2,b3,b4,b5,b6]):∃ v1 v2 v3 v4 v5 v6,vs=[v1,v2,v3,v4,v5,v6]∧v1.isSome=b1∧v2.isSome=b2∧v3.isSome=b3∧v4.isSome=b4∧v5.isSome=b5∧v6.isSome=b6:=by
 match vs,h with
 | [v1,v2,v3,v4,v5,v6],h =>
  simp only [List.map_cons,List.map_nil,List.cons.injEq] at h;obtain ⟨h1,h2,h3,h4,h5,h6,_⟩:=h;exact ⟨v1,v2,v3,v4,v5,v6,rfl,h1,h2,h3,h4,h5,h6⟩
set_option maxRecDepth 4000 in
set_option maxHeartbeats 4000000 in
theorem body_m (d:Nat) (hS:StmtsC d) (E:MEnv) {st0:St} {a:MA} (hv:MV E st0 a) (most:Nat) (hm:most≤10) :
  ACalls Tryz.prog 68 [.cptr E.oM 9 0 0,.int .i64 (4 - (d:Int)),.int .i64 (most:Int)] (E.st st0 a) (BlockRt E st0 a d) (fun _ _=>False):=by
 refine ACalls.ofBody Tryz.func68 rfl Tryz.ntmps68 rfl ?_;have hM:=E.obj_M st0 a;refine goD ?_;refine AWP.draw rfl 18 18 (fun _ _=>False) rfl ?_;refine goF ?_;refine dn ⟨fun _=>?_,fun h=>absurd h (by decide)⟩;refine goD ?_;refine cl rfl rfl (hS E st0 a hv most hm) fun v s' ⟨rows,tk,c,hv',hg,hl,h0,hvc,hle,hsum,hs⟩=>?_;subst hv' hs;refine goD ?_;rw [nrows_len,nrows_len,nrows_len];refine AWP.weaken (tl5 (i0:=10) (i1:=9) (i2:=8) (i3:=7) (i4:=0) rfl rfl rfl rfl rfl) (.refl _) ?_;obtain ⟨s0,hs0⟩:∃ s0,s0=E.st (st0.addTok tk) c:=⟨_,rfl⟩;rw [← hs0];have hs0e:(s0.toks [none,none,none]).set E.oM (E.c c)=s0:=by
  rw [show s0.toks [none,none,none]=s0 from St.toks_none s0 3,hs0];refine St.ext3 (funext fun p=>?_) rfl rfl;by_cases e:p=E.oM
  ·subst e; rw [St.obj_set]; exact (E.obj_M _ _).symm
  ·rw [St.obj_set_ne e]
 skip
 refine AWP.any rfl ?_;apply AAny.segX (X:=fun _ _=>False) (hX:=fun _ _ h=>h.elim) (k':=36) (Es:=[10,18,26,29,32,35]) (J:=BJ E s0 c ((nrows c.S).take a.S.length) ((nrows c.D).take a.D.length) ((nrows c.A).take a.A.length)) (base:=St.bareOf s0) (hok:=by decide +kernel) (hJ:=⟨none,none,none,trivial,trivial,trivial,TokL.none s0 3,hs0e.symm⟩) (hb:=StLe.bare rfl);repeat (first|apply dsP (hi:=rfl) (hs:=rfl)|apply dqP (hi:=rfl) (hd:=rfl) (hw:=rfl) (h:=fun _ _=>bs0 (z:=nz))|apply dqP (hi:=rfl) (hd:=rfl) (hw:=rfl) (h:=fun _ _=>ZC (z:=nz)))
 apply dwP (v:=gnv c.S c.kS) (L:=[[false,false,false,false,false,false]]) (hi:=rfl) (hL:=rfl) (hd:=rfl) (hw:=rfl) (h:=by
  refine ⟨?_,trivial⟩ <;>
  ·intro vs hvs hlk s hJ;obtain ⟨v1,v2,v3,v4,v5,v6,rfl,e1,e2,e3,e4,e5,e6⟩:=vs6 hvs;obtain ⟨k1,k2,k3,t1,t2,t3,htk,rfl⟩:=hJ.parts;rw [e4,e5,e6];exact lc rfl rfl (St.obj_set _ _ _) rfl rfl nz)
 repeat (apply dsP (hi:=rfl) (hs:=rfl))
 apply dqP (hi:=rfl) (hd:=rfl) (hw:=rfl) (h:=fun _ _=>svh (b:=a.S.length) rfl rfl rfl (by rw [nrows_len]; exact hle.S) nz);apply deP0 (Q:=fun v=>∃ k,v=.view 1 ((nrows c.S).take a.S.length) (.own k 9)) (L:=[[false,false,false,false,false,false]]) (hL:=rfl) (hd:=rfl) (hw:=rfl) (hex:=⟨_,0,rfl⟩) (h:=by
  refine ⟨?_,trivial⟩;intro vs hvs hlk s hJ hb;obtain ⟨v1,v2,v3,v4,v5,v6,rfl,e1,e2,e3,e4,e5,e6⟩:=vs6 hvs;obtain rfl:=isN e1;obtain rfl:=isN e2;obtain rfl:=isN e3;obtain rfl:=isN e4;obtain rfl:=isN e5;obtain rfl:=isN e6;obtain ⟨k1,k2,k3,t1,t2,t3,htk,rfl⟩:=hJ.parts;obtain rfl:=t1.none';refine apf rfl rfl rfl rfl (by simp only [List.length_take,nrows_len]; have:=hvc.lS; have:=hvc.lD; have:=hvc.lA; have:=hvc.c; omega) (by simp only [List.length_take,nrows_len,maxLen]; have:=hvc.lS; have:=hvc.lD; have:=hvc.lA; have:=hvc.c; omega) fun tk' htk'=>nl ⟨_,rfl,⟨tk',rfl⟩,?_,StLe.bare rfl⟩;refine ⟨some tk',k2,k3,rfl,t2,t3,TokL.add htk htk' (i:=0),?_⟩;show ((s0.toks _).addTok tk').set E.oM _=_;rw [toks_add (i:=0) rfl];rfl)
 rintro u1 ⟨q1,rfl⟩;repeat (first|apply dsP (hi:=rfl) (hs:=rfl)|apply dqP (hi:=rfl) (hd:=rfl) (hw:=rfl) (h:=fun _ _=>bs0 (z:=nz))|apply dqP (hi:=rfl) (hd:=rfl) (hw:=rfl) (h:=fun _ _=>ZC (z:=nz)))
 apply dwP (v:=gnv c.D c.kD) (L:=[[false,false,false,false,false,false],[true,false,false,false,false,false]]) (hi:=rfl) (hL:=rfl) (hd:=rfl) (hw:=rfl) (h:=by
  refine ⟨?_,?_,trivial⟩ <;>
  ·intro vs hvs hlk s hJ;obtain ⟨v1,v2,v3,v4,v5,v6,rfl,e1,e2,e3,e4,e5,e6⟩:=vs6 hvs;obtain ⟨k1,k2,k3,t1,t2,t3,htk,rfl⟩:=hJ.parts;rw [e4,e5,e6];exact lc rfl rfl (St.obj_set _ _ _) rfl rfl nz)
 repeat (apply dsP (hi:=rfl) (hs:=rfl))
 apply dqP (hi:=rfl) (hd:=rfl) (hw:=rfl) (h:=fun _ _=>svh (b:=a.D.length) rfl rfl rfl (by rw [nrows_len]; exact hle.D) nz);apply deP0 (Q:=fun v=>∃ k,v=.view 1 ((nrows c.D).take a.D.length) (.own k 9)) (L:=[[true,false,false,false,false,false]]) (hL:=rfl) (hd:=rfl) (hw:=rfl) (hex:=⟨_,0,rfl⟩) (h:=by
  refine ⟨?_,trivial⟩;intro vs hvs hlk s hJ hb;obtain ⟨v1,v2,v3,v4,v5,v6,rfl,e1,e2,e3,e4,e5,e6⟩:=vs6 hvs;obtain ⟨x1,rfl⟩:=isT e1;obtain rfl:=isN e2;obtain rfl:=isN e3;obtain rfl:=isN e4;obtain rfl:=isN e5;obtain rfl:=isN e6;obtain ⟨k1,k2,k3,t1,t2,t3,htk,rfl⟩:=hJ.parts;obtain rfl:=t2.none';refine apf rfl rfl rfl rfl (by simp only [List.length_take,nrows_len]; have:=hvc.lS; have:=hvc.lD; have:=hvc.lA; have:=hvc.c; omega) (by simp only [List.length_take,nrows_len,maxLen]; have:=hvc.lS; have:=hvc.lD; have:=hvc.lA; have:=hvc.c; omega) fun tk' htk'=>nl ⟨_,rfl,⟨tk',rfl⟩,?_,StLe.bare rfl⟩;refine ⟨k1,some tk',k3,t1,rfl,t3,TokL.add htk htk' (i:=1),?_⟩;show ((s0.toks _).addTok tk').set E.oM _=_;rw [toks_add (i:=1) rfl];rfl)
 rintro u2 ⟨q2,rfl⟩;repeat (first|apply dsP (hi:=rfl) (hs:=rfl)|apply dqP (hi:=rfl) (hd:=rfl) (hw:=rfl) (h:=fun _ _=>bs0 (z:=nz))|apply dqP (hi:=rfl) (hd:=rfl) (hw:=rfl) (h:=fun _ _=>ZC (z:=nz)))
 apply dwP (v:=gnv c.A c.kA) (L:=[[false,false,false,false,false,false],[true,false,false,false,false,false],[false,true,false,false,false,false],[true,true,false,false,false,false]]) (hi:=rfl) (hL:=rfl) (hd:=rfl) (hw:=rfl) (h:=by
  refine ⟨?_,?_,?_,?_,trivial⟩ <;>
  ·intro vs hvs hlk s hJ;obtain ⟨v1,v2,v3,v4,v5,v6,rfl,e1,e2,e3,e4,e5,e6⟩:=vs6 hvs;obtain ⟨k1,k2,k3,t1,t2,t3,htk,rfl⟩:=hJ.parts;rw [e4,e5,e6];exact lc rfl rfl (St.obj_set _ _ _) rfl rfl nz)
 repeat (apply dsP (hi:=rfl) (hs:=rfl))
 apply dqP (hi:=rfl) (hd:=rfl) (hw:=rfl) (h:=fun _ _=>svh (b:=a.A.length) rfl rfl rfl (by rw [nrows_len]; exact hle.A) nz);apply deP0 (Q:=fun v=>∃ k,v=.view 1 ((nrows c.A).take a.A.length) (.own k 9)) (L:=[[true,true,false,false,false,false]]) (hL:=rfl) (hd:=rfl) (hw:=rfl) (hex:=⟨_,0,rfl⟩) (h:=by
  refine ⟨?_,trivial⟩;intro vs hvs hlk s hJ hb;obtain ⟨v1,v2,v3,v4,v5,v6,rfl,e1,e2,e3,e4,e5,e6⟩:=vs6 hvs;obtain ⟨x1,rfl⟩:=isT e1;obtain ⟨x2,rfl⟩:=isT e2;obtain rfl:=isN e3;obtain rfl:=isN e4;obtain rfl:=isN e5;obtain rfl:=isN e6;obtain ⟨k1,k2,k3,t1,t2,t3,htk,rfl⟩:=hJ.parts;obtain rfl:=t3.none';refine apf rfl rfl rfl rfl (by simp only [List.length_take,nrows_len]; have:=hvc.lS; have:=hvc.lD; have:=hvc.lA; have:=hvc.c; omega) (by simp only [List.length_take,nrows_len,maxLen]; have:=hvc.lS; have:=hvc.lD; have:=hvc.lA; have:=hvc.c; omega) fun tk' htk'=>nl ⟨_,rfl,⟨tk',rfl⟩,?_,StLe.bare rfl⟩;refine ⟨k1,k2,some tk',t1,t2,rfl,TokL.add htk htk' (i:=2),?_⟩;show ((s0.toks _).addTok tk').set E.oM _=_;rw [toks_add (i:=2) rfl];rfl)
 rintro u3 ⟨q3,rfl⟩;repeat (first|apply dsP (hi:=rfl) (hs:=rfl)|apply dqP (hi:=rfl) (hd:=rfl) (hw:=rfl) (h:=fun _ _=>ZC (z:=nz)))
 apply dnWP (L:=[[true,true,true,false,false,false]]) (hL:=rfl) (hd:=rfl) (hw:=rfl) (h:=by
  refine ⟨?_,trivial⟩;intro vs hvs hlk s hJ hb;obtain ⟨v1,v2,v3,v4,v5,v6,rfl,e1,e2,e3,e4,e5,e6⟩:=vs6 hvs;obtain ⟨x1,rfl⟩:=isT e1;obtain ⟨x2,rfl⟩:=isT e2;obtain ⟨x3,rfl⟩:=isT e3;obtain rfl:=isN e4;obtain rfl:=isN e5;obtain rfl:=isN e6;have y1:x1=.view 1 ((nrows c.S).take a.S.length) (.own q1 9):=hlk (10,some x1) (.head _) (Nat.le_of_ble_eq_true rfl) x1 rfl;subst y1;have y2:x2=.view 1 ((nrows c.D).take a.D.length) (.own q2 9):=hlk (18,some x2) (.tail _ (.head _)) (Nat.le_of_ble_eq_true rfl) x2 rfl;subst y2;have y3:x3=.view 1 ((nrows c.A).take a.A.length) (.own q3 9):=hlk (26,some x3) (.tail _ (.tail _ (.head _))) (Nat.le_of_ble_eq_true rfl) x3 rfl;subst y3;obtain ⟨k1,k2,k3,t1,t2,t3,htk,rfl⟩:=hJ.parts;simp only [Option.isSome_none,Option.isSome_some,cond_false,cond_true,Option.getD_some];unfold mkC;refine YB (row':=mkRow E.oT E.f E.funcs E.pv (.view 1 ((nrows c.S).take a.S.length) (.own q1 9)) (gnv c.D c.kD) (gnv c.A c.kA) c.count c.left) (hle:=by exact Nat.le_of_ble_eq_true rfl) (he:=by exact rfl) (z:=?_);exact nl ⟨rfl,fun u=>⟨k1,k2,k3,t1,t2,t3,htk,rfl⟩,StLe.bare rfl⟩)
 intro z1;repeat (first|apply dsP (hi:=rfl) (hs:=rfl)|apply dqP (hi:=rfl) (hd:=rfl) (hw:=rfl) (h:=fun _ _=>ZC (z:=nz)))
 apply dnWP (L:=[[true,true,true,true,false,false]]) (hL:=rfl) (hd:=rfl) (hw:=rfl) (h:=by
  refine ⟨?_,trivial⟩;intro vs hvs hlk s hJ hb;obtain ⟨v1,v2,v3,v4,v5,v6,rfl,e1,e2,e3,e4,e5,e6⟩:=vs6 hvs;obtain ⟨x1,rfl⟩:=isT e1;obtain ⟨x2,rfl⟩:=isT e2;obtain ⟨x3,rfl⟩:=isT e3;obtain ⟨x4,rfl⟩:=isT e4;obtain rfl:=isN e5;obtain rfl:=isN e6;have y1:x1=.view 1 ((nrows c.S).take a.S.length) (.own q1 9):=hlk (10,some x1) (.head _) (Nat.le_of_ble_eq_true rfl) x1 rfl;subst y1;have y2:x2=.view 1 ((nrows c.D).take a.D.length) (.own q2 9):=hlk (18,some x2) (.tail _ (.head _)) (Nat.le_of_ble_eq_true rfl) x2 rfl;subst y2;have y3:x3=.view 1 ((nrows c.A).take a.A.length) (.own q3 9):=hlk (26,some x3) (.tail _ (.tail _ (.head _))) (Nat.le_of_ble_eq_true rfl) x3 rfl;subst y3;obtain ⟨k1,k2,k3,t1,t2,t3,htk,rfl⟩:=hJ.parts;simp only [Option.isSome_none,Option.isSome_some,cond_false,cond_true,Option.getD_some];unfold mkC;refine YB (row':=mkRow E.oT E.f E.funcs E.pv (.view 1 ((nrows c.S).take a.S.length) (.own q1 9)) (.view 1 ((nrows c.D).take a.D.length) (.own q2 9)) (gnv c.A c.kA) c.count c.left) (hle:=by exact Nat.le_of_ble_eq_true rfl) (he:=by exact rfl) (z:=?_);exact nl ⟨rfl,fun u=>⟨k1,k2,k3,t1,t2,t3,htk,rfl⟩,StLe.bare rfl⟩)
 intro z2;repeat (first|apply dsP (hi:=rfl) (hs:=rfl)|apply dqP (hi:=rfl) (hd:=rfl) (hw:=rfl) (h:=fun _ _=>ZC (z:=nz)))
 apply dnWP (L:=[[true,true,true,true,true,false]]) (hL:=rfl) (hd:=rfl) (hw:=rfl) (h:=by
  refine ⟨?_,trivial⟩;intro vs hvs hlk s hJ hb;obtain ⟨v1,v2,v3,v4,v5,v6,rfl,e1,e2,e3,e4,e5,e6⟩:=vs6 hvs;obtain ⟨x1,rfl⟩:=isT e1;obtain ⟨x2,rfl⟩:=isT e2;obtain ⟨x3,rfl⟩:=isT e3;obtain ⟨x4,rfl⟩:=isT e4;obtain ⟨x5,rfl⟩:=isT e5;obtain rfl:=isN e6;have y1:x1=.view 1 ((nrows c.S).take a.S.length) (.own q1 9):=hlk (10,some x1) (.head _) (Nat.le_of_ble_eq_true rfl) x1 rfl;subst y1;have y2:x2=.view 1 ((nrows c.D).take a.D.length) (.own q2 9):=hlk (18,some x2) (.tail _ (.head _)) (Nat.le_of_ble_eq_true rfl) x2 rfl;subst y2;have y3:x3=.view 1 ((nrows c.A).take a.A.length) (.own q3 9):=hlk (26,some x3) (.tail _ (.tail _ (.head _))) (Nat.le_of_ble_eq_true rfl) x3 rfl;subst y3;obtain ⟨k1,k2,k3,t1,t2,t3,htk,rfl⟩:=hJ.parts;simp only [Option.isSome_none,Option.isSome_some,cond_false,cond_true,Option.getD_some];unfold mkC;refine YB (row':=mkRow E.oT E.f E.funcs E.pv (.view 1 ((nrows c.S).take a.S.length) (.own q1 9)) (.view 1 ((nrows c.D).take a.D.length) (.own q2 9)) (.view 1 ((nrows c.A).take a.A.length) (.own q3 9)) c.count c.left) (hle:=by exact Nat.le_of_ble_eq_true rfl) (he:=by exact rfl) (z:=?_);exact nl ⟨rfl,fun u=>⟨k1,k2,k3,t1,t2,t3,htk,rfl⟩,StLe.bare rfl⟩)
 intro z3;refine dnP fun s hJ=>?_;have hJ':BJ E s0 c ((nrows c.S).take a.S.length) ((nrows c.D).take a.D.length) ((nrows c.A).take a.A.length) [some (.view 1 ((nrows c.S).take a.S.length) (.own q1 9)),some (.view 1 ((nrows c.D).take a.D.length) (.own q2 9)),some (.view 1 ((nrows c.A).take a.A.length) (.own q3 9)),some z1,some z2,some z3] s:=hJ;clear hJ;obtain ⟨k1,k2,k3,t1,t2,t3,htk,rfl⟩:=hJ'.parts;obtain ⟨p1,rfl,e1⟩:=t1.some';obtain ⟨p2,rfl,e2⟩:=t2.some';obtain ⟨p3,rfl,e3⟩:=t3.some';cases e1;cases e2;cases e3;refine AAny.text (by decide +kernel) ?_;refine nl ?_;refine goD ?_;have hle2:StLe ((s0.toks [some q1,some q2,some q3]).set E.oM (mkC E.oT (E.f:Int) (E.funcs:Int) E.pv (.view 1 ((nrows c.S).take a.S.length) (.own q1 9)) (.view 1 ((nrows c.D).take a.D.length) (.own q2 9)) (.view 1 ((nrows c.A).take a.A.length) (.own q3 9)) (c.count:Int) (c.left:Int)))
   (E.st (st0.addTok tk) { c with S:=c.S.take a.S.length,D:=c.D.take a.D.length,A:=c.A.take a.A.length,kS:=q1,kD:=q2,kA:=q3 }):=by
  rw [nrows_take,nrows_take,nrows_take,hs0];show StLe (((((((st0.addTok tk).set E.oT (tapeC E.l c.j)).set E.oM (E.c c)).set E.oM _).toks c.toks).toks [some q1,some q2,some q3])) _;rw [St.set_set];exact toks_le _ _ _
 refine AWP.ret (rets rfl (.refl _) hle2 ⟨rows,tk,{ c with S:=c.S.take a.S.length,D:=c.D.take a.D.length,A:=c.A.take a.A.length,kS:=q1,kD:=q2,kA:=q3 },rfl,hg,hl,h0,{ hvc with nS:=fun s hs=>hvc.nS s (List.mem_of_mem_take hs),nD:=fun s hs=>hvc.nD s (List.mem_of_mem_take hs),nA:=fun s hs=>hvc.nA s (List.mem_of_mem_take hs),lS:=?_,lD:=?_,lA:=?_,tk:=?_ },⟨?_,?_,?_,hle.left⟩,hsum,rfl⟩)
 ·simp only [List.length_take]; have:=hvc.lS; omega
 ·simp only [List.length_take]; have:=hvc.lD; omega
 ·simp only [List.length_take]; have:=hvc.lA; omega
 ·refine ⟨htk.one,fun i t hi=>?_⟩;have h1:=htk.fresh i t hi;rw [hs0] at h1;have h2:(decide (some t ∈ c.toks) || (st0.addTok tk).tok t)=false:=h1;rw [Bool.or_eq_false_iff] at h2;exact h2.2
 ·simp only [List.length_take]; have:=hle.S; omega
 ·simp only [List.length_take]; have:=hle.D; omega
 ·simp only [List.length_take]; have:=hle.A; omega
end Go.Proofs
namespace Go.Proofs
open Go.AM
attribute [local irreducible] AWP AOps ACalls AAny
set_option linter.unusedSimpArgs false
def LoopRt (E:MEnv) (st0:St) (a:MA) (d:Nat) (v:AV) (s':St):Prop :=
 ∃ (r1 r2:List AV) (b:MA),v=.view 13 [r1,r2] .shared∧GS (d + 2) r1∧GS (d + 2) r2∧MV E st0 b∧MLe a b∧b.count + b.left≤a.count + a.left + 1∧s'=E.st st0 b
def LJ (E:MEnv) (B:St) (a:MA) (vs:List (Option AV)) (s:St):Prop :=
 match vs with
 | [none]=>MJ E B a s
 | [some u]=>∃ o,u=.cptr o 13 0 0∧o≠E.oT∧o≠E.oM∧B.obj o=none∧MJ E (B.set o zSt) a s
 | _=>False
theorem LJ.le {E:MEnv} {B:St} {a:MA} {vs:List (Option AV)} {s:St} (h:LJ E B a vs s):StLe s ((E.st B a).drop E.oT):=by
 match vs,h with
 | [none],h=>exact MJ.le h
 | [some u],⟨o,_,h1,h2,h3,h4⟩ =>
  refine StLe.trans h4.le ?_;rw [← E.under h1 h2,← St.set_drop h1];refine StLe.new ?_ (.refl _);rw [St.obj_drop_ne h1,E.obj_o h1 h2];exact h3
theorem inc_le {kind len:Int} {name typ fn:List UInt8} {tg args:AV} (rows:List (List AV)) (h:tg.one=true∧args.one=true∧∀ row ∈ rows,∀ c ∈ row,c.one=true):Le (.view 13 (rows++[stRow kind len name typ fn tg args nilV nilV]) .shared) (.view 13 (rows++[stRow kind len name typ fn tg args (vw 13 []) (vw 13 [])]) .shared):=by
 obtain ⟨h1,h2,h3⟩:=h;refine .view _ _ _ _ (by simp) (fun row hr c hc=>?_) (fun i a b h1 h2=>?_) fun i j a b c d h1 h2 h3 h4=>?_
 ·rcases List.mem_append.1 hr with hr|hr
  ·exact h3 row hr c hc
  ·rw [List.mem_singleton.1 hr] at hc;simp only [stRow,List.mem_cons,List.not_mem_nil,or_false] at hc;rcases hc with rfl|rfl|rfl|rfl|rfl|rfl|rfl|rfl|rfl|rfl|rfl|rfl|rfl <;> first|rfl|assumption
 ·by_cases hi:i < rows.length
  ·rw [List.getElem?_append_left hi] at h1 h2;rw [h1] at h2;cases h2;rfl
  ·rw [List.getElem?_append_right (by omega)] at h1 h2;have h5:=List.mem_of_getElem? h1
   have h6:=List.mem_of_getElem? h2;rw [List.mem_singleton.1 h5,List.mem_singleton.1 h6];rfl
 ·by_cases hi:i < rows.length
  ·rw [List.getElem?_append_left hi] at h1 h2;rw [h1] at h2;cases h2;rw [h3] at h4;cases h4;exact .refl _
  ·rw [List.getElem?_append_right (by omega)] at h1 h2;have h5:=List.mem_singleton.1 (List.mem_of_getElem? h1)
   have h6:=List.mem_singleton.1 (List.mem_of_getElem? h2);subst h5 h6
   match j,h3,h4 with
   | 0,h1,h2=>cases h1; cases h2; exact .refl _
   | 1,h1,h2=>cases h1; cases h2; exact .refl _
   | 2,h1,h2=>cases h1; cases h2; exact .refl _
   | 3,h1,h2=>cases h1; cases h2; exact .refl _
   | 4,h1,h2=>cases h1; cases h2; exact .refl _
   | 5,h1,h2=>cases h1; cases h2; exact .refl _
   | 6,h1,h2=>cases h1; cases h2; exact .refl _
   | 7,h1,h2=>cases h1; cases h2; exact .refl _
   | 8,h1,h2=>cases h1; cases h2; exact .refl _
   | 9,h1,h2=>cases h1; cases h2; exact .refl _
   | 10,h1,h2=>cases h1; cases h2; exact .refl _
   | 11,h1,h2=>cases h1; cases h2; exact .nilShared _ _
   | 12,h1,h2=>cases h1; cases h2; exact .nilShared _ _
   | j + 13,h1,h2=>cases h1
theorem GS_cells {d:Nat} {row:List AV} (h:GS d row):∀ c ∈ row,c.one=true:=by
 obtain ⟨kind,len,name,typ,fn,tg,args,body,els,rfl⟩:=GS_row h;intro c hc;simp only [stRow,List.mem_cons,List.not_mem_nil,or_false] at hc;rcases hc with rfl|rfl|rfl|rfl|rfl|rfl|rfl|rfl|rfl|rfl|rfl|rfl|rfl <;> rfl
theorem next_l (E:MEnv) {B:St} {a:MA} (hv:MV E B a) {vs:List (Option AV)} {s:St} (h:LJ E B a vs s) (k:Int) (hk:0 < k) (hk2:k≤4611686018427387904) :
  ACalls Tryz.prog 37 [.cptr E.oT 2 0 0,.int .i64 k] s (fun v s'=>(∃ n:Nat,v=.int .i64 (n:Int)∧(n:Int) < k)∧LJ E B a vs s') (fun _ _=>False):=by
 match vs,h with
 | [none],h=>exact next_j E hv h k hk hk2
 | [some u],⟨o,h1,h2,h3,h4,h5⟩=>exact (next_j E (hv.set _ _) h5 k hk hk2).mono (fun v s' ⟨q1,q2⟩=>⟨q1,o,h1,h2,h3,h4,q2⟩) (fun _ _ h=>h)
set_option maxHeartbeats 4000000 in
theorem loop_m (d:Nat) (hd:d≤3) (hS:StmtsC d) (E:MEnv) {st0:St} {a:MA} (hv:MV E st0 a) (hc:a.count + a.left≤21) :
  ACalls Tryz.prog 69 [.cptr E.oM 9 0 0,.int .i64 (3 - (d:Int))] (E.st st0 a) (LoopRt E st0 a d) (fun _ _=>False):=by
 refine ACalls.ofBody Tryz.func69 rfl Tryz.ntmps69 rfl ?_;refine goD ?_;refine cl rfl rfl (fresh_m E (st0:=st0) (a:=a) (by omega)) fun v s' ⟨⟨w,hw,wl⟩,hs⟩=>?_;subst hw hs;obtain ⟨a1,ha1⟩:∃ a1:MA,a1={ a with count:=a.count + 1 }:=⟨_,rfl⟩;rw [← ha1];have hv1:MV E st0 a1:=by
  subst ha1;exact { hv with lS:=by have:=hv.lS; simp only; omega,lD:=by have:=hv.lD; simp only; omega,lA:=by have:=hv.lA; simp only; omega,c:=by simp only; omega }
 have c1:a1.count=a.count + 1∧a1.left=a.left∧a1.S=a.S∧a1.D=a.D∧a1.A=a.A:=by subst ha1; exact ⟨rfl,rfl,rfl,rfl,rfl⟩
 clear ha1;have hM:=E.obj_M st0 a1;refine goD ?_;rw [E.st_K st0 a1];refine apx (o:=some a1.kS) 0 rfl rfl rfl (TokL.of_tok hv1.tk rfl) rfl (fun h=>by cases h) rfl ?_ ?_ fun k' htk=>?_
 ·rw [nrows_len]; simp only [List.length_cons,List.length_nil]; have:=hv1.lS; have:=hv1.c; omega
 ·rw [nrows_len]; simp only [List.length_cons,List.length_nil,maxLen]; have:=hv1.lS; have:=hv1.c; omega
 rw [nrows_append,toks_set];refine goE ?_;unfold MEnv.c mkC;refine YB (row':=mkRow E.oT E.f E.funcs E.pv (gnv (a1.S++[w]) k') (gnv a1.D a1.kD) (gnv a1.A a1.kA) a1.count a1.left) (hle:=by exact Nat.le_of_ble_eq_true rfl) (he:=by exact rfl) (z:=?_);obtain ⟨a2,ha2⟩:∃ a2:MA,a2={ a1 with S:=a1.S++[w],kS:=k' }:=⟨_,rfl⟩;have hst:((st0.set E.oT (tapeC E.l a1.j)).toks (a1.toks.set 0 (some k'))).set E.oM (.cells 92 9 [mkRow E.oT E.f E.funcs E.pv (gnv (a1.S++[w]) k') (gnv a1.D a1.kD) (gnv a1.A a1.kA) a1.count a1.left])=E.st st0 a2:=by rw [ha2]; rfl
 rw [hst];have hv2:MV E st0 a2:=by
  subst ha2;refine { hv1 with nS:=fun s hs=>?_,lS:=?_,tk:=TokL.of_tok htk rfl }
  ·rcases List.mem_append.1 hs with hs|hs
   ·exact hv1.nS s hs
   ·rw [List.mem_singleton.1 hs]; exact wl
  ·simp only [List.length_append,List.length_cons,List.length_nil]; have:=hv.lS; rw [c1.2.2.1]; omega
 have c2s:a2.count + a2.left=a.count + a.left + 1:=by subst ha2; simp only [c1.1,c1.2.1]; omega
 have c2:MLe a a2:=by
  subst ha2;exact ⟨by simp only [List.length_append,c1.2.2.1]; omega,by rw [c1.2.2.2.1]; exact Nat.le_refl _,by rw [c1.2.2.2.2]; exact Nat.le_refl _,Nat.le_of_eq c1.2.1⟩
 have hM2:=E.obj_M st0 a2;refine goD ?_;refine bds (cs:=stRow 1 0 w [] [] nilV nilV nilV nilV) rfl rfl rfl rfl ?_;refine goD ?_;refine AWP.weaken (tl4 (i0:=6) (i1:=5) (i2:=1) (i3:=0) rfl rfl rfl rfl) (.refl _) ?_;have hMb:((E.st st0 a2).drop E.oT).obj E.oM=some (E.c a2):=by rw [St.obj_drop_ne E.hne]; exact hM2
 refine AWP.any rfl ?_;apply AAny.segX (X:=fun _ _=>False) (hX:=fun _ _ h=>h.elim) (k':=14) (Es:=[13]) (J:=LJ E st0 a2) (base:=(E.st st0 a2).drop E.oT) (hok:=rfl) (hJ:=MJ.refl hv2) (hb:=(MJ.refl hv2).le);repeat (first|apply dsP (hi:=rfl) (hs:=rfl)|apply dqP (hi:=rfl) (hd:=rfl) (hw:=rfl) (h:=fun _ _=>ZC (z:=nz))|apply dqP (hi:=rfl) (hd:=rfl) (hw:=rfl) (h:=fun _ _=>ZH (z:=nz))|apply dqP (hi:=rfl) (hd:=rfl) (hw:=rfl) (h:=fun _ _=>YC (z:=nz)))
 apply dfP (J:=LJ E st0 a2) (Q:=fun v=>∃ n:Nat,v=.int .i64 (n:Int)∧(n:Int) < 4) (hi:=rfl) (hd:=rfl) (hw:=rfl) (hex:=⟨_,0,rfl,by decide⟩) (h:=fun vs s hJ hle=>cl rfl rfl (next_l E hv2 hJ 4 (by decide) (by decide)) fun v s' hv=>nl ⟨v,rfl,hv.1,hv.2,hv.2.le⟩);rintro v ⟨n,rfl,hn⟩;apply dfP (J:=LJ E st0 a2) (Q:=fun v=>∃ m:Nat,v=.int .i64 (m:Int)∧m≤4) (hi:=rfl) (hd:=rfl) (hw:=rfl) (hex:=⟨_,0,rfl,by decide⟩) (h:=fun vs s hJ hle=>adn (a:=1) rfl rfl rfl (by omega) (nl ⟨_,rfl,⟨1 + n,rfl,by omega⟩,hJ,hle⟩));rintro v ⟨m,rfl,hm⟩;apply dfP (J:=LJ E st0 a2) (Q:=fun v=>∃ row,v=.agg row∧GE 1 row) (hi:=rfl) (hd:=rfl) (hw:=rfl) (hex:=⟨_,_,rfl,GE_lit 0 (n:=0) (by decide) (by decide)⟩) (h:=fun vs s hJ hle=>clp rfl rfl inferInstance (nl ⟨_,rfl,⟨_,rfl,GE_lit 0 (by omega) (by omega)⟩,hJ,hle⟩));rintro v ⟨row,rfl,hrow⟩;obtain ⟨p1,p2,p3,p4,p5,rfl⟩:=GE_row hrow;apply dfP (J:=LJ E st0 a2) (Q:=fun v=>∃ row,v=.view 6 [exRow 1 0 w [] noE,row] .shared∧GE 1 row) (hi:=rfl) (hd:=rfl) (hw:=rfl) (hex:=⟨_,_,rfl,hrow⟩) (h:=fun vs s hJ hle=>bsh (cs:=exRow 1 0 w [] noE++exRow p1 p2 p3 p4 (.view 6 p5 .shared)) rfl rfl rfl rfl rfl (nl ⟨_,rfl,⟨exRow p1 p2 p3 p4 (.view 6 p5 .shared),rfl,hrow⟩,hJ,hle⟩));rintro v ⟨row2,rfl,hrow2⟩;have hg2:GE 2 (exRow 14 0 [] [] (.view 6 [exRow 1 0 w [] noE,row2] .shared)):=⟨14,0,[],[],_,rfl,by decide,by decide,by decide,by decide,by decide,by decide,by simp,fun r hr=>by
  rw [List.mem_cons,List.mem_singleton] at hr;rcases hr with rfl|rfl
  ·exact GE_var 0 wl
  ·exact hrow2⟩
 apply dfP (J:=LJ E st0 a2) (Q:=fun v=>∃ row,v=.agg row∧GE 2 row) (hi:=rfl) (hd:=rfl) (hw:=rfl) (hex:=⟨_,_,rfl,hg2⟩) (h:=fun vs s hJ hle=>bds (cs:=exRow 14 0 [] [] (.view 6 [exRow 1 0 w [] noE,row2] .shared)) rfl rfl rfl rfl (nl ⟨_,rfl,⟨_,rfl,hg2⟩,hJ,hle⟩));rintro v ⟨row3,rfl,hrow3⟩;obtain ⟨p1,p2,p3,p4,p5,rfl⟩:=GE_row hrow3;apply dfP (J:=LJ E st0 a2) (Q:=fun v=>∃ row,v=.view 6 [row] .shared∧GE 2 row) (hi:=rfl) (hd:=rfl) (hw:=rfl) (hex:=⟨_,_,rfl,hrow3⟩) (h:=fun vs s hJ hle=>bs1 rfl rfl rfl rfl rfl rfl (nl ⟨_,rfl,⟨exRow p1 p2 p3 p4 (.view 6 p5 .shared),rfl,hrow3⟩,hJ,hle⟩));rintro v ⟨row4,rfl,hrow4⟩;apply dfP (J:=LJ E st0 a2) (Q:=fun v=>∃ row,v=.agg (stRow 5 0 [] [] [] nilV (vw 6 [row]) nilV nilV)∧GE 2 row) (hi:=rfl) (hd:=rfl) (hw:=rfl) (hex:=⟨_,_,rfl,hrow4⟩) (h:=fun vs s hJ hle=>bds (cs:=stRow 5 0 [] [] [] nilV (vw 6 [row4]) nilV nilV) rfl rfl rfl rfl (nl ⟨_,rfl,⟨row4,rfl,hrow4⟩,hJ,hle⟩));rintro v ⟨row5,rfl,hrow5⟩;apply deP0 (J:=LJ E st0 a2) (Q:=fun v=>∃ o,v=.cptr o 13 0 0) (L:=[[false]]) (hL:=rfl) (hd:=rfl) (hw:=rfl) (hex:=⟨_,0,rfl⟩) (h:=by
  refine ⟨?_,trivial⟩;intro vs hvs hlk s hJ hb
  match vs,hvs,hJ with
  | [none],_,hJ =>
   have hJ':MJ E st0 a2 s:=hJ;obtain ⟨j,hj,rfl⟩:=hJ';refine al rfl rfl fun o ho=>?_;obtain ⟨n1,n2,n3⟩:=MEnv.new ho;have hLJ:LJ E st0 a2 [some (.cptr o 13 0 0)] (E.st (st0.set o zSt) { a2 with j:=j }):=⟨o,rfl,n1,n2,n3,j,hj,rfl⟩;refine nl ⟨_,rfl,⟨o,rfl⟩,?_,?_⟩
   ·rw [E.under n1 n2]; exact hLJ
   ·rw [E.under n1 n2]; exact hLJ.le)
 rintro v ⟨o7,rfl⟩;refine dnP fun s hJ=>?_;have hJ':LJ E st0 a2 [some (.cptr o7 13 0 0)] s:=hJ;obtain ⟨o,e,n1,n2,n3,j,hj,rfl⟩:=hJ';cases e;refine AAny.text rfl ?_;rw [← E.under n1 n2];unfold zSt;refine soV rfl rfl rfl rfl rfl rfl ?_;rw [E.under n1 n2];obtain ⟨a3,ha3⟩:∃ a3:MA,a3={ a2 with j:=j }:=⟨_,rfl⟩;rw [← ha3];have hv3:MV E st0 a3:=by rw [ha3]; exact hv2.tape hj
 have c3s:a3.count + a3.left=a.count + a.left + 1:=by subst ha3; exact c2s
 have c3:MLe a a3:=by subst ha3; exact ⟨c2.S,c2.D,c2.A,c2.left⟩
 clear ha3;refine nl ?_;refine AWP.weaken (tl5 (i0:=7) (i1:=6) (i2:=5) (i3:=1) (i4:=0) rfl rfl rfl rfl rfl) (.refl _) ?_;refine goD ?_;refine Go.AM.ad rfl rfl rfl (by omega) ?_;rw [show 3 - (d:Int) + 1=4 - (d:Int) by omega];refine cl rfl rfl (body_m d hS E (st0:=st0.set o7 (.cells 41 13 [stRow 5 0 [] [] [] nilV (vw 6 [row5]) nilV nilV])) (hv3.set _ _) 4 (by decide)) fun v s' ⟨rows,tk,b,hv',hg,hl,h0,hvb,hle,hsum,hs⟩=>?_;subst hv' hs;refine goE ?_;refine bsh (cs:=exRow 1 0 w [] noE++exRow 0 1 [] [] noE) rfl rfl rfl rfl rfl ?_;refine bds (cs:=exRow 6 0 [] [] (vw 6 [exRow 1 0 w [] noE,exRow 0 1 [] [] noE])) rfl rfl rfl rfl ?_;refine goE ?_;refine bds (cs:=stRow 2 0 [] [] [] (vw 6 [exRow 1 0 w [] noE]) (vw 6 [exRow 6 0 [] [] (vw 6 [exRow 1 0 w [] noE,exRow 0 1 [] [] noE])]) nilV nilV) rfl rfl rfl rfl ?_;refine goE ?_;refine ap_out E (rows2:=[stRow 2 0 [] [] [] (vw 6 [exRow 1 0 w [] noE]) (vw 6 [exRow 6 0 [] [] (vw 6 [exRow 1 0 w [] noE,exRow 0 1 [] [] noE])]) nilV nilV]) rfl rfl rfl h0 hvb (by simp only [List.length_cons,List.length_nil]; omega) fun tk' htk' hvb'=>?_;rw [show (st0.set o7 (.cells 41 13 [stRow 5 0 [] [] [] nilV (vw 6 [row5]) nilV nilV])).addTok tk'=(st0.addTok tk').set o7 (.cells 41 13 [stRow 5 0 [] [] [] nilV (vw 6 [row5]) nilV nilV]) from rfl,← E.under n1 n2];refine goE ?_;refine YB (row':=stRow 5 0 [] [] [] nilV (vw 6 [row5]) (.view 13 (rows++[stRow 2 0 [] [] [] (vw 6 [exRow 1 0 w [] noE]) (vw 6 [exRow 6 0 [] [] (vw 6 [exRow 1 0 w [] noE,exRow 0 1 [] [] noE])]) nilV nilV]) (.own tk' 41)) nilV) (hle:=by exact Nat.le_of_ble_eq_true rfl) (he:=by exact rfl) (z:=?_);refine nl ?_;refine goC ?_;refine rg ?_;refine goE ?_;refine AOps.weaken (T':=[(53,.agg (stRow 5 0 [] [] [] (vw 6 []) (vw 6 [row5]) (vw 13 (rows++[stRow 2 0 [] [] [] (vw 6 [exRow 1 0 w [] noE]) (vw 6 [exRow 6 0 [] [] (vw 6 [exRow 1 0 w [] noE,exRow 0 1 [] [] noE])]) (vw 13 []) (vw 13 [])])) (vw 13 []))),(52,.agg (stRow 1 0 w [] [] (vw 6 []) (vw 6 []) (vw 13 []) (vw 13 [])))]) (TLe.cons rfl (st_le (.nilShared _ _) (.refl _) (.trans _ _ _ (.shared _ _ _) (inc_le _ ⟨rfl,rfl,fun row hr=>GS_cells (hg row hr)⟩)) (.nilShared _ _) rfl rfl rfl rfl) (TLe.cons rfl (st_le (.nilShared _ _) (.nilShared _ _) (.nilShared _ _) (.nilShared _ _) rfl rfl rfl rfl) (TLe.nil _))) (.refl _) ?_;refine bsh (cs:=stRow 1 0 w [] [] (vw 6 []) (vw 6 []) (vw 13 []) (vw 13 [])++stRow 5 0 [] [] [] (vw 6 []) (vw 6 [row5]) (vw 13 (rows++[stRow 2 0 [] [] [] (vw 6 [exRow 1 0 w [] noE]) (vw 6 [exRow 6 0 [] [] (vw 6 [exRow 1 0 w [] noE,exRow 0 1 [] [] noE])]) (vw 13 []) (vw 13 [])])) (vw 13 [])) rfl rfl rfl rfl rfl ?_;refine goD ?_;have hx:GE 2 (exRow 6 0 [] [] (vw 6 [exRow 1 0 w [] noE,exRow 0 1 [] [] noE])):=⟨6,0,[],[],_,rfl,by decide,by decide,by decide,by decide,by decide,by decide,by simp,fun r hr=>by
  rw [List.mem_cons,List.mem_singleton] at hr;rcases hr with rfl|rfl
  ·exact GE_var 0 wl
  ·exact GE_lit 0 (by decide) (by decide)⟩
 have hinc:GS 1 (stRow 2 0 [] [] [] (vw 6 [exRow 1 0 w [] noE]) (vw 6 [exRow 6 0 [] [] (vw 6 [exRow 1 0 w [] noE,exRow 0 1 [] [] noE])]) (vw 13 []) (vw 13 [])):=GS_one (by decide) (by decide) (by decide) (by decide) (by decide) (by decide) (by decide) (Nat.le_refl _) (by simp) (fun r hr=>by rw [List.mem_singleton.1 hr]; exact GE_var 3 wl) (fun r hr=>by rw [List.mem_singleton.1 hr]; exact GE_le (by omega) hx);refine AWP.ret (rets rfl (.refl _) (StLe.new ?_ (E.tokLe st0 b tk')) ⟨stRow 1 0 w [] [] (vw 6 []) (vw 6 []) (vw 13 []) (vw 13 []),stRow 5 0 [] [] [] (vw 6 []) (vw 6 [row5]) (vw 13 (rows++[stRow 2 0 [] [] [] (vw 6 [exRow 1 0 w [] noE]) (vw 6 [exRow 6 0 [] [] (vw 6 [exRow 1 0 w [] noE,exRow 0 1 [] [] noE])]) (vw 13 []) (vw 13 [])])) (vw 13 []),b,rfl,GS_le (by omega) (GS_one (len:=0) (by decide) (by decide) (by decide) (by decide) wl (by decide) (by decide) (Nat.zero_le _) (Nat.zero_le _) (fun r hr=>(by cases hr)) (fun r hr=>(by cases hr))),?_,hvb'.unTok.unset,c3.trans hle,by omega,rfl⟩)
 ·rw [E.obj_o n1 n2]; exact n3
 ·refine ⟨5,0,[],[],[],[],[row5],rows++[stRow 2 0 [] [] [] (vw 6 [exRow 1 0 w [] noE]) (vw 6 [exRow 6 0 [] [] (vw 6 [exRow 1 0 w [] noE,exRow 0 1 [] [] noE])]) (vw 13 []) (vw 13 [])],[],rfl,by decide,by decide,by decide,by decide,by decide,by decide,by decide,by decide,by simp,by simp only [List.length_append,List.length_cons,List.length_nil]; omega,by decide,fun r hr=>(by cases hr),fun r hr=>by rw [List.mem_singleton.1 hr]; exact GE_le (by omega) hrow5,fun r hr=>?_,fun r hr=>(by cases hr)⟩;rcases List.mem_append.1 hr with hr|hr
  ·exact hg r hr
  ·rw [List.mem_singleton.1 hr]; exact GS_le (by omega) hinc
theorem more_m (E:MEnv) {st0:St} {a:MA}:ACalls Tryz.prog 65 [.cptr E.oT 2 0 0] (E.st st0 a) (fun v s'=>(∃ b:Bool,v=.bool b)∧s'=E.st st0 a) (fun _ _=>False):=by
 refine ACalls.ofBody Tryz.func65 rfl Tryz.ntmps65 rfl ?_;have hT:=E.obj_T st0 a;refine goD ?_;refine AWP.draw rfl 9 9 (fun _ _=>False) rfl ?_;refine goF ?_;refine dn ⟨fun _=>?_,fun h=>absurd h (by decide)⟩;refine goD ?_;exact AWP.ret (rets rfl (.refl _) (.refl _) ⟨⟨_,rfl⟩,rfl⟩)
theorem MLe.tape (c:MA) (j:Nat):MLe c { c with j:=j }:=⟨Nat.le_refl _,Nat.le_refl _,Nat.le_refl _,Nat.le_refl _⟩
theorem GS_blk {d:Nat} {kind:Int} {name:List UInt8} {args body els:List (List AV)} (h1:0≤kind) (h2:kind≤30) (h3:LP 30 name) (h4:args.length≤4) (h5:∀ r ∈ args,GE 4 r) (h6:body.length≤60) (h7:els.length≤60) (h8:∀ r ∈ body,GS d r) (h9:∀ r ∈ els,GS d r) :
  GS (d + 1) (stRow kind 0 name [] [] (vw 6 []) (vw 6 args) (vw 13 body) (vw 13 els)) :=
 ⟨kind,0,name,[],[],[],args,body,els,rfl,h1,h2,by decide,by decide,h3,by decide,by decide,by decide,h4,h6,h7,fun r hr=>(by cases hr),h5,h8,h9⟩
theorem MEnv.dropo (E:MEnv) {st0:St} {b:MA} {tk' o:Nat} (n1:o≠E.oT) (n2:o≠E.oM) (n3:st0.obj o=none) (R:AObj):StLe (E.st ((st0.set o R).addTok tk') b) (E.st (st0.addTok tk') b):=by
 show StLe (E.st ((st0.addTok tk').set o R) b) _;rw [← E.under n1 n2];exact StLe.new (by rw [E.obj_o n1 n2]; exact n3) (.refl _)
set_option maxRecDepth 4000 in
set_option maxHeartbeats 40000000 in
theorem stmts_step (d:Nat) (hd:d≤3) (hrec:∀ d',d=d' + 1→StmtsC d'):StmtsC d:=by
 intro E st0 a hv most hm;refine ACalls.ofBody Tryz.func38 rfl Tryz.ntmps38 rfl ?_;refine goC ?_;refine rg ?_;refine goE ?_;refine goC ?_;refine rg ?_;refine goE ?_;refine goC ?_;refine rg ?_;refine goE ?_;refine nl ?_;refine goC ?_;refine AWP.nilTok 7 41 13 rfl fun tk htk=>?_;obtain ⟨h0,hv1⟩:=hv.newTok htk;rw [E.tokk];refine AWP.loop (α:=Nat × List (List AV) × Nat × MA) (fun x=>[(8,.int .i64 (x.1:Int)),(7,.view 13 x.2.1 (.own x.2.2.1 41)),(2,.int .i64 (most:Int)),(1,.int .i64 (4 - (d:Int))),(0,.cptr E.oM 9 0 0)])
  (fun x=>E.st (st0.addTok x.2.2.1) x.2.2.2) (fun x=>x.1≤most∧x.2.1.length≤2 * x.1∧(∀ r ∈ x.2.1,GS (d + 1) r)∧st0.tok x.2.2.1=false∧MV E (st0.addTok x.2.2.1) x.2.2.2∧MLe a x.2.2.2∧x.2.2.2.count + x.2.2.2.left≤a.count + a.left) (fun x=>most - x.1)
  (0,[],tk,a) ⟨Nat.zero_le _,Nat.zero_le _,fun r hr=>(by cases hr),h0,hv1,MLe.refl a,Nat.le_refl _⟩ (tl5 rfl rfl rfl rfl rfl) (.refl _) ?_
 clear htk h0 hv1 tk;rintro ⟨n,rows,tk,c⟩ ⟨hn,hl,hg,h0,hvc,hle,hsum⟩;simp only at hn hl hg h0 hvc hle hsum;show AWP _ _ _ _ _ _ (E.st (st0.addTok tk) c);refine AWP.weaken (T':=[(8,.int .i64 (n:Int)),(7,.view 13 rows (.own tk 41)),(2,.int .i64 (most:Int)),(1,.int .i64 (4 - (d:Int))),(0,.cptr E.oM 9 0 0)]) (tl5 rfl rfl rfl rfl rfl) (.refl _) ?_;have hM:=E.obj_M (st0.addTok tk) c;by_cases c1:(n:Int) < (most:Int)
 ·by_cases c2:(0:Int) < (c.left:Int)
  ·refine goD ?_;refine cl rfl rfl (more_m E (st0:=st0.addTok tk) (a:=c)) fun v s' ⟨⟨b,hb⟩,hs⟩=>?_;subst hb hs;refine goE ?_;refine nl ?_;refine AWP.cond_bool rfl (fun hb=>AWP.skip ?_) (fun hb=>AWP.exit (blk_hit ?_))
   ·clear hb;have hleft:0 < c.left:=by omega
    refine goD ?_;refine sbn (b:=1) rfl rfl rfl (by have:=hvc.c; omega) ?_;refine goE ?_;rw [E.st_M (st0.addTok tk) c];unfold MEnv.c mkC;refine YB (row':=mkRow E.oT E.f E.funcs E.pv (gnv c.S c.kS) (gnv c.D c.kD) (gnv c.A c.kA) c.count ((c.left - 1:Nat):Int)) (hle:=by exact Nat.le_of_ble_eq_true rfl) (he:=by exact rfl) (z:=?_);obtain ⟨c',hc'⟩:∃ c':MA,c'={ c with left:=c.left - 1 }:=⟨_,rfl⟩;rw [show ((((st0.addTok tk).set E.oT (tapeC E.l c.j)).toks c.toks).set E.oM (.cells 92 9 [mkRow E.oT E.f E.funcs E.pv (gnv c.S c.kS) (gnv c.D c.kD) (gnv c.A c.kA) c.count ((c.left - 1:Nat):Int)]))=E.st (st0.addTok tk) c' by rw [hc']; rfl];have hv1:MV E (st0.addTok tk) c':=by rw [hc']; exact { hvc with c:=by have:=hvc.c; simp only; omega }
    have hle1:MLe a c':=by rw [hc']; exact ⟨hle.S,hle.D,hle.A,by have:=hle.left; simp only; omega⟩
    have hcl:c'.count + c'.left≤21:=by rw [hc']; have:=hvc.c; simp only; omega
    have hsum1:c'.count + c'.left + 1≤a.count + a.left:=by rw [hc']; simp only; omega
    clear hvc hle hM hc' c2 hleft hsum;have hM1:=E.obj_M (st0.addTok tk) c';refine goD ?_;refine cl rfl rfl (next_m E hv1 16 (by decide) (by decide)) fun v s' ⟨⟨k,hk,hk16⟩,j,hj,hs⟩=>?_;subst hk hs;obtain ⟨c2,hc2⟩:∃ c2:MA,c2={ c' with j:=j }:=⟨_,rfl⟩;rw [← hc2];have hv2:MV E (st0.addTok tk) c2:=by rw [hc2]; exact hv1.tape hj
    have hle2:MLe a c2:=by rw [hc2]; exact ⟨hle1.S,hle1.D,hle1.A,hle1.left⟩
    have hcl2:c2.count + c2.left≤21:=by rw [hc2]; exact hcl
    have hsum2:c2.count + c2.left + 1≤a.count + a.left:=by rw [hc2]; exact hsum1
    clear hv1 hle1 hcl hc2 hM1 hsum1;have hM2:=E.obj_M (st0.addTok tk) c2;refine goE ?_;refine nl ?_;refine AWP.weaken (T':=[(9,.int .i64 (k:Int)),(8,.int .i64 (n:Int)),(7,.view 13 rows (.own tk 41)),(2,.int .i64 (most:Int)),(1,.int .i64 (4 - (d:Int))),(0,.cptr E.oM 9 0 0)]) (tl6 rfl rfl rfl rfl rfl rfl) (.refl _) ?_;have fin:∀ (more:List (List AV)) (tk':Nat) (b:MA),(∀ r ∈ more,GS (d + 1) r)→more.length≤2→st0.tok tk'=false→MV E (st0.addTok tk') b→MLe c2 b→b.count + b.left≤c2.count + c2.left + 1 →
     (n + 1≤most∧(rows++more).length≤2 * (n + 1)∧(∀ r ∈ rows++more,GS (d + 1) r)∧st0.tok tk'=false∧MV E (st0.addTok tk') b∧MLe a b∧b.count + b.left≤a.count + a.left)∧most - (n + 1) < most - n:=fun more tk' b h1 h2 h3 h4 h5 h6 =>
     ⟨⟨by omega,by rw [List.length_append]; omega,fun r hr=>by
      rcases List.mem_append.1 hr with hr|hr
      ·exact hg r hr
      ·exact h1 r hr,h3,h4,hle2.trans h5,by omega⟩,by omega⟩
    have hrl:∀ m:Nat,m≤2→rows.length + m≤1000:=fun m hm=>by omega
    by_cases k3:(k:Int) < 3
    ·by_cases cc:(c2.count:Int) < 14
     ·refine goD ?_;refine cl rfl rfl (declare_m E hv2 hcl2) fun v s' ⟨⟨row,hv,hgr⟩,b,hvb,hleb,hbc,hbl,hs⟩=>?_;subst hv hs;obtain ⟨g1,g2,g3,g4,g5,g6,g7,g8,g9,rfl⟩:=GS_row hgr;refine goE ?_;refine ap_out E (rows2:=[stRow g1 g2 g3 g4 g5 (vw 6 g6) (vw 6 g7) (vw 13 g8) (vw 13 g9)]) rfl rfl rfl h0 hvb (hrl 1 (by omega)) fun tk' h0' hvb'=>?_;refine goD ?_;obtain ⟨f1,f2⟩:=fin [stRow g1 g2 g3 g4 g5 (vw 6 g6) (vw 6 g7) (vw 13 g8) (vw 13 g9)] tk' b (fun r hr=>by rw [List.mem_singleton.1 hr]; exact GS_le (by omega) hgr) (Nat.le_succ 1) h0' hvb' hleb (by omega);exact ⟨(n + 1,_,tk',b),f1,f2,(tl5 rfl rfl rfl rfl rfl),.refl _⟩
     ·refine goD ?_;refine cl rfl rfl (assign_m E hv2) fun v s' ⟨⟨row,hv,hgr⟩,j9,hj9,hs⟩=>?_;subst hv hs;obtain ⟨g1,g2,g3,g4,g5,g6,g7,g8,g9,rfl⟩:=GS_row hgr;refine goE ?_;refine ap_out E (rows2:=[stRow g1 g2 g3 g4 g5 (vw 6 g6) (vw 6 g7) (vw 13 g8) (vw 13 g9)]) rfl rfl rfl h0 (MV.tape hv2 hj9) (hrl 1 (by omega)) fun tk' h0' hvb'=>?_;refine goD ?_;obtain ⟨f1,f2⟩:=fin [stRow g1 g2 g3 g4 g5 (vw 6 g6) (vw 6 g7) (vw 13 g8) (vw 13 g9)] tk' { c2 with j:=j9 } (fun r hr=>by rw [List.mem_singleton.1 hr]; exact GS_le (by omega) hgr) (Nat.le_succ 1) h0' hvb' (MLe.tape _ _) (by first|omega|(simp only; omega));exact ⟨(n + 1,_,tk',{ c2 with j:=j9 }),f1,f2,(tl5 rfl rfl rfl rfl rfl),.refl _⟩
    by_cases k6:(k:Int)=6
    ·refine goD ?_;refine cl rfl rfl (expr_m E hv2 0 (by decide) (by decide)) fun v s' ⟨⟨row2,hv,hg2⟩,j3,hj3,hs⟩=>?_;subst hv hs;obtain ⟨p1,p2,p3,p4,p5,rfl⟩:=GE_row hg2;refine goE ?_;refine bds (cs:=stRow 9 0 [] [] [] nilV (vw 6 [exRow p1 p2 p3 p4 (.view 6 p5 .shared)]) nilV nilV) rfl rfl rfl rfl ?_;refine AOps.weaken (T':=[(180,.agg (stRow 9 0 [] [] [] (vw 6 []) (vw 6 [exRow p1 p2 p3 p4 (.view 6 p5 .shared)]) (vw 13 []) (vw 13 []))),(176,.view 13 rows (.own tk 41)),(8,.int .i64 (n:Int)),(2,.int .i64 (most:Int)),(1,.int .i64 (4 - (d:Int))),(0,.cptr E.oM 9 0 0)]) (TLe.cons rfl (st_le (.nilShared _ _) (.refl _) (.nilShared _ _) (.nilShared _ _) rfl rfl rfl rfl) (tl5 rfl rfl rfl rfl rfl)) (.refl _) ?_;refine goE ?_;refine ap_out E (rows2:=[stRow 9 0 [] [] [] (vw 6 []) (vw 6 [exRow p1 p2 p3 p4 (.view 6 p5 .shared)]) (vw 13 []) (vw 13 [])]) rfl rfl rfl h0 (MV.tape hv2 hj3) (hrl 1 (by omega)) fun tk' h0' hvb'=>?_;refine goD ?_;obtain ⟨f1,f2⟩:=fin [stRow 9 0 [] [] [] (vw 6 []) (vw 6 [exRow p1 p2 p3 p4 (.view 6 p5 .shared)]) (vw 13 []) (vw 13 [])] tk' { c2 with j:=j3 } (fun r hr=>by rw [List.mem_singleton.1 hr]; exact GS_le (by omega) (GS_one (len:=0) (by decide) (by decide) (by decide) (by decide) (by decide) (by decide) (by decide) (Nat.zero_le _) (by simp) (fun r hr=>(by cases hr)) (fun r hr=>by rw [List.mem_singleton.1 hr]; exact hg2))) (Nat.le_succ 1) h0' hvb' (MLe.tape _ _) (by first|omega|(simp only; omega));exact ⟨(n + 1,_,tk',{ c2 with j:=j3 }),f1,f2,(tl5 rfl rfl rfl rfl rfl),.refl _⟩
    by_cases k10:10≤(k:Int)
    ·refine goD ?_;refine cl rfl rfl (assign_m E hv2) fun v s' ⟨⟨row,hv,hgr⟩,j9,hj9,hs⟩=>?_;subst hv hs;obtain ⟨g1,g2,g3,g4,g5,g6,g7,g8,g9,rfl⟩:=GS_row hgr;refine goE ?_;refine ap_out E (rows2:=[stRow g1 g2 g3 g4 g5 (vw 6 g6) (vw 6 g7) (vw 13 g8) (vw 13 g9)]) rfl rfl rfl h0 (MV.tape hv2 hj9) (hrl 1 (by omega)) fun tk' h0' hvb'=>?_;refine goD ?_;obtain ⟨f1,f2⟩:=fin [stRow g1 g2 g3 g4 g5 (vw 6 g6) (vw 6 g7) (vw 13 g8) (vw 13 g9)] tk' { c2 with j:=j9 } (fun r hr=>by rw [List.mem_singleton.1 hr]; exact GS_le (by omega) hgr) (Nat.le_succ 1) h0' hvb' (MLe.tape _ _) (by first|omega|(simp only; omega));exact ⟨(n + 1,_,tk',{ c2 with j:=j9 }),f1,f2,(tl5 rfl rfl rfl rfl rfl),.refl _⟩
    by_cases k8:(k:Int)=8
    ·refine goD ?_;refine cl rfl rfl (next_m E hv2 3 (by decide) (by decide)) fun v s' ⟨⟨m,hm',hm3⟩,j2,hj2,hs⟩=>?_;subst hm' hs;have hM3:=E.obj_M (st0.addTok tk) { c2 with j:=j2 }
     have hv3:MV E (st0.addTok tk) { c2 with j:=j2 }:=hv2.tape hj2;by_cases m0:(m:Int)=0
     ·refine goD ?_;refine cl rfl rfl (expr_m E hv3 1 (by decide) (by decide)) fun v s' ⟨⟨row2,hv,hg2⟩,j3,hj3,hs⟩=>?_;subst hv hs;obtain ⟨p1,p2,p3,p4,p5,rfl⟩:=GE_row hg2;refine goE ?_;refine bds (cs:=stRow 7 0 [] [] [] nilV (vw 6 [exRow p1 p2 p3 p4 (.view 6 p5 .shared)]) nilV nilV) rfl rfl rfl rfl ?_;refine AOps.weaken (T':=[(229,.agg (stRow 7 0 [] [] [] (vw 6 []) (vw 6 [exRow p1 p2 p3 p4 (.view 6 p5 .shared)]) (vw 13 []) (vw 13 []))),(225,.view 13 rows (.own tk 41)),(8,.int .i64 (n:Int)),(2,.int .i64 (most:Int)),(1,.int .i64 (4 - (d:Int))),(0,.cptr E.oM 9 0 0)]) (TLe.cons rfl (st_le (.nilShared _ _) (.refl _) (.nilShared _ _) (.nilShared _ _) rfl rfl rfl rfl) (tl5 rfl rfl rfl rfl rfl)) (.refl _) ?_;refine goE ?_;refine ap_out E (rows2:=[stRow 7 0 [] [] [] (vw 6 []) (vw 6 [exRow p1 p2 p3 p4 (.view 6 p5 .shared)]) (vw 13 []) (vw 13 [])]) rfl rfl rfl h0 (MV.tape hv3 hj3) (hrl 1 (by omega)) fun tk' h0' hvb'=>?_;refine goD ?_;obtain ⟨f1,f2⟩:=fin [stRow 7 0 [] [] [] (vw 6 []) (vw 6 [exRow p1 p2 p3 p4 (.view 6 p5 .shared)]) (vw 13 []) (vw 13 [])] tk' { c2 with j:=j3 } (fun r hr=>by rw [List.mem_singleton.1 hr]; exact GS_le (by omega) (GS_one (len:=0) (by decide) (by decide) (by decide) (by decide) (by decide) (by decide) (by decide) (Nat.zero_le _) (by simp) (fun r hr=>(by cases hr)) (fun r hr=>by rw [List.mem_singleton.1 hr]; exact hg2))) (Nat.le_succ 1) h0' hvb' (MLe.tape _ _) (by first|omega|(simp only; omega));exact ⟨(n + 1,_,tk',{ c2 with j:=j3 }),f1,f2,(tl5 rfl rfl rfl rfl rfl),.refl _⟩
     ·refine goD ?_;refine cl rfl rfl (assign_m E hv3) fun v s' ⟨⟨row,hv,hgr⟩,j9,hj9,hs⟩=>?_;subst hv hs;obtain ⟨g1,g2,g3,g4,g5,g6,g7,g8,g9,rfl⟩:=GS_row hgr;refine goE ?_;refine ap_out E (rows2:=[stRow g1 g2 g3 g4 g5 (vw 6 g6) (vw 6 g7) (vw 13 g8) (vw 13 g9)]) rfl rfl rfl h0 (MV.tape hv3 hj9) (hrl 1 (by omega)) fun tk' h0' hvb'=>?_;refine goD ?_;obtain ⟨f1,f2⟩:=fin [stRow g1 g2 g3 g4 g5 (vw 6 g6) (vw 6 g7) (vw 13 g8) (vw 13 g9)] tk' { c2 with j:=j9 } (fun r hr=>by rw [List.mem_singleton.1 hr]; exact GS_le (by omega) hgr) (Nat.le_succ 1) h0' hvb' (MLe.tape _ _) (by first|omega|(simp only; omega));exact ⟨(n + 1,_,tk',{ c2 with j:=j9 }),f1,f2,(tl5 rfl rfl rfl rfl rfl),.refl _⟩
    by_cases k9:(k:Int)=9
    ·refine goD ?_;refine cl rfl rfl (next_m E hv2 8 (by decide) (by decide)) fun v s' ⟨⟨m,hm',hm3⟩,j2,hj2,hs⟩=>?_;subst hm' hs;have hM3:=E.obj_M (st0.addTok tk) { c2 with j:=j2 }
     have hv3:MV E (st0.addTok tk) { c2 with j:=j2 }:=hv2.tape hj2;by_cases m0:(m:Int)=0
     ·by_cases hd0:0 < d
      ·obtain ⟨d',hdd,e1,e2⟩:∃ d':Nat,d=d' + 1∧4 - (d:Int) + 1=4 - (d':Int)∧4 - (d:Int)=3 - (d':Int):=⟨d - 1,by omega,by omega,by omega⟩;have hS:=hrec d' hdd;refine goD ?_;refine cl rfl rfl (expr_m E hv3 1 (by decide) (by decide)) fun v s' ⟨⟨row2,hv,hg2⟩,j3,hj3,hs⟩=>?_;subst hv hs;obtain ⟨p1,p2,p3,p4,p5,rfl⟩:=GE_row hg2;refine goE ?_;refine Go.AM.ad rfl rfl rfl (by omega) ?_;rw [e1];refine cl rfl rfl (body_m d' hS E (MV.tape hv3 hj3) 3 (by decide)) fun v s' ⟨rb,tkb,b,hv',hgb,hlb,h0b,hvb,hleb,hsb,hs⟩=>?_;subst hv' hs
       replace hsb:b.count + b.left≤c2.count + c2.left:=hsb
       refine AOps.weaken (T':=[(254,vw 13 rb),(250,vw 6 [exRow p1 p2 p3 p4 (.view 6 p5 .shared)]),(247,.view 13 rows (.own tk 41)),(8,.int .i64 (n:Int)),(2,.int .i64 (most:Int)),(1,.int .i64 (4 - (d:Int))),(0,.cptr E.oM 9 0 0)]) (TLe.cons rfl (.shared _ _ _) (tl6 rfl rfl rfl rfl rfl rfl)) (E.tokLe (st0.addTok tk) b tkb) ?_;refine bds (cs:=stRow 5 0 [] [] [] nilV (vw 6 [exRow p1 p2 p3 p4 (.view 6 p5 .shared)]) (vw 13 rb) nilV) rfl rfl rfl rfl ?_;refine AOps.weaken (T':=[(255,.agg (stRow 5 0 [] [] [] (vw 6 []) (vw 6 [exRow p1 p2 p3 p4 (.view 6 p5 .shared)]) (vw 13 rb) (vw 13 []))),(247,.view 13 rows (.own tk 41)),(8,.int .i64 (n:Int)),(2,.int .i64 (most:Int)),(1,.int .i64 (4 - (d:Int))),(0,.cptr E.oM 9 0 0)]) (TLe.cons rfl (st_le (.nilShared _ _) (.refl _) (.refl _) (.nilShared _ _) rfl rfl rfl rfl) (tl5 rfl rfl rfl rfl rfl)) (.refl _) ?_;refine goE ?_;refine ap_out E (rows2:=[stRow 5 0 [] [] [] (vw 6 []) (vw 6 [exRow p1 p2 p3 p4 (.view 6 p5 .shared)]) (vw 13 rb) (vw 13 [])]) rfl rfl rfl h0 hvb.unTok (hrl 1 (by omega)) fun tk' h0' hvb'=>?_;refine goD ?_;obtain ⟨f1,f2⟩:=fin [stRow 5 0 [] [] [] (vw 6 []) (vw 6 [exRow p1 p2 p3 p4 (.view 6 p5 .shared)]) (vw 13 rb) (vw 13 [])] tk' b (fun r hr=>by rw [List.mem_singleton.1 hr,hdd]; exact GS_blk (by decide) (by decide) (by decide) (by simp) (fun r hr=>by rw [List.mem_singleton.1 hr]; exact hg2) (by omega) (by decide) hgb (fun r hr=>(by cases hr))) (Nat.le_succ 1) h0' hvb' ((MLe.tape c2 _).trans hleb) (by first|omega|(simp only; omega));exact ⟨(n + 1,_,tk',b),f1,f2,(tl5 rfl rfl rfl rfl rfl),.refl _⟩
      ·refine goD ?_;refine cl rfl rfl (assign_m E hv3) fun v s' ⟨⟨row,hv,hgr⟩,j9,hj9,hs⟩=>?_;subst hv hs;obtain ⟨g1,g2,g3,g4,g5,g6,g7,g8,g9,rfl⟩:=GS_row hgr;refine goE ?_;refine ap_out E (rows2:=[stRow g1 g2 g3 g4 g5 (vw 6 g6) (vw 6 g7) (vw 13 g8) (vw 13 g9)]) rfl rfl rfl h0 (MV.tape hv3 hj9) (hrl 1 (by omega)) fun tk' h0' hvb'=>?_;refine goD ?_;obtain ⟨f1,f2⟩:=fin [stRow g1 g2 g3 g4 g5 (vw 6 g6) (vw 6 g7) (vw 13 g8) (vw 13 g9)] tk' { c2 with j:=j9 } (fun r hr=>by rw [List.mem_singleton.1 hr]; exact GS_le (by omega) hgr) (Nat.le_succ 1) h0' hvb' (MLe.tape _ _) (by first|omega|(simp only; omega));exact ⟨(n + 1,_,tk',{ c2 with j:=j9 }),f1,f2,(tl5 rfl rfl rfl rfl rfl),.refl _⟩
     ·refine goD ?_;refine cl rfl rfl (assign_m E hv3) fun v s' ⟨⟨row,hv,hgr⟩,j9,hj9,hs⟩=>?_;subst hv hs;obtain ⟨g1,g2,g3,g4,g5,g6,g7,g8,g9,rfl⟩:=GS_row hgr;refine goE ?_;refine ap_out E (rows2:=[stRow g1 g2 g3 g4 g5 (vw 6 g6) (vw 6 g7) (vw 13 g8) (vw 13 g9)]) rfl rfl rfl h0 (MV.tape hv3 hj9) (hrl 1 (by omega)) fun tk' h0' hvb'=>?_;refine goD ?_;obtain ⟨f1,f2⟩:=fin [stRow g1 g2 g3 g4 g5 (vw 6 g6) (vw 6 g7) (vw 13 g8) (vw 13 g9)] tk' { c2 with j:=j9 } (fun r hr=>by rw [List.mem_singleton.1 hr]; exact GS_le (by omega) hgr) (Nat.le_succ 1) h0' hvb' (MLe.tape _ _) (by first|omega|(simp only; omega));exact ⟨(n + 1,_,tk',{ c2 with j:=j9 }),f1,f2,(tl5 rfl rfl rfl rfl rfl),.refl _⟩
    by_cases k4:(k:Int)=4
    ·by_cases cc:(c2.count:Int) < 14
     ·by_cases hd0:0 < d
      ·obtain ⟨d',hdd,e1,e2⟩:∃ d':Nat,d=d' + 1∧4 - (d:Int) + 1=4 - (d':Int)∧4 - (d:Int)=3 - (d':Int):=⟨d - 1,by omega,by omega,by omega⟩;have hS:=hrec d' hdd;refine goD ?_;have hlp:=loop_m d' (by omega) hS E hv2 hcl2;rw [← e2] at hlp;refine cl rfl rfl hlp fun v s' ⟨r1,r2,b,hv',hr1,hr2,hvb,hleb,hsb,hs⟩=>?_;subst hv' hs;refine ap_out E (rows2:=[r1,r2]) rfl rfl rfl h0 hvb (hrl 2 (by omega)) fun tk' h0' hvb'=>?_;refine goD ?_;obtain ⟨f1,f2⟩:=fin [r1,r2] tk' b (fun r hr=>by
         rw [List.mem_cons,List.mem_singleton] at hr;rw [hdd];rcases hr with rfl|rfl
         ·exact hr1
         ·exact hr2) (Nat.le_refl 2) h0' hvb' (hleb) (by first|omega|(simp only; omega))
       exact ⟨(n + 1,_,tk',b),f1,f2,(tl5 rfl rfl rfl rfl rfl),.refl _⟩
      ·refine goD ?_;refine cl rfl rfl (assign_m E hv2) fun v s' ⟨⟨row,hv,hgr⟩,j9,hj9,hs⟩=>?_;subst hv hs;obtain ⟨g1,g2,g3,g4,g5,g6,g7,g8,g9,rfl⟩:=GS_row hgr;refine goE ?_;refine ap_out E (rows2:=[stRow g1 g2 g3 g4 g5 (vw 6 g6) (vw 6 g7) (vw 13 g8) (vw 13 g9)]) rfl rfl rfl h0 (MV.tape hv2 hj9) (hrl 1 (by omega)) fun tk' h0' hvb'=>?_;refine goD ?_;obtain ⟨f1,f2⟩:=fin [stRow g1 g2 g3 g4 g5 (vw 6 g6) (vw 6 g7) (vw 13 g8) (vw 13 g9)] tk' { c2 with j:=j9 } (fun r hr=>by rw [List.mem_singleton.1 hr]; exact GS_le (by omega) hgr) (Nat.le_succ 1) h0' hvb' (MLe.tape _ _) (by first|omega|(simp only; omega));exact ⟨(n + 1,_,tk',{ c2 with j:=j9 }),f1,f2,(tl5 rfl rfl rfl rfl rfl),.refl _⟩
     ·by_cases hd0:0 < d
      ·obtain ⟨d',hdd,e1,e2⟩:∃ d':Nat,d=d' + 1∧4 - (d:Int) + 1=4 - (d':Int)∧4 - (d:Int)=3 - (d':Int):=⟨d - 1,by omega,by omega,by omega⟩;have hS:=hrec d' hdd;refine goD ?_;refine cl rfl rfl (assign_m E hv2) fun v s' ⟨⟨row,hv,hgr⟩,j9,hj9,hs⟩=>?_;subst hv hs;obtain ⟨g1,g2,g3,g4,g5,g6,g7,g8,g9,rfl⟩:=GS_row hgr;refine goE ?_;refine ap_out E (rows2:=[stRow g1 g2 g3 g4 g5 (vw 6 g6) (vw 6 g7) (vw 13 g8) (vw 13 g9)]) rfl rfl rfl h0 (MV.tape hv2 hj9) (hrl 1 (by omega)) fun tk' h0' hvb'=>?_;refine goD ?_;obtain ⟨f1,f2⟩:=fin [stRow g1 g2 g3 g4 g5 (vw 6 g6) (vw 6 g7) (vw 13 g8) (vw 13 g9)] tk' { c2 with j:=j9 } (fun r hr=>by rw [List.mem_singleton.1 hr]; exact GS_le (by omega) hgr) (Nat.le_succ 1) h0' hvb' (MLe.tape _ _) (by first|omega|(simp only; omega));exact ⟨(n + 1,_,tk',{ c2 with j:=j9 }),f1,f2,(tl5 rfl rfl rfl rfl rfl),.refl _⟩
      ·refine goD ?_;refine cl rfl rfl (assign_m E hv2) fun v s' ⟨⟨row,hv,hgr⟩,j9,hj9,hs⟩=>?_;subst hv hs;obtain ⟨g1,g2,g3,g4,g5,g6,g7,g8,g9,rfl⟩:=GS_row hgr;refine goE ?_;refine ap_out E (rows2:=[stRow g1 g2 g3 g4 g5 (vw 6 g6) (vw 6 g7) (vw 13 g8) (vw 13 g9)]) rfl rfl rfl h0 (MV.tape hv2 hj9) (hrl 1 (by omega)) fun tk' h0' hvb'=>?_;refine goD ?_;obtain ⟨f1,f2⟩:=fin [stRow g1 g2 g3 g4 g5 (vw 6 g6) (vw 6 g7) (vw 13 g8) (vw 13 g9)] tk' { c2 with j:=j9 } (fun r hr=>by rw [List.mem_singleton.1 hr]; exact GS_le (by omega) hgr) (Nat.le_succ 1) h0' hvb' (MLe.tape _ _) (by first|omega|(simp only; omega));exact ⟨(n + 1,_,tk',{ c2 with j:=j9 }),f1,f2,(tl5 rfl rfl rfl rfl rfl),.refl _⟩
    by_cases k3':(k:Int)=3
    ·by_cases hd0:0 < d
     ·obtain ⟨d',hdd,e1,e2⟩:∃ d':Nat,d=d' + 1∧4 - (d:Int) + 1=4 - (d':Int)∧4 - (d:Int)=3 - (d':Int):=⟨d - 1,by omega,by omega,by omega⟩;have hS:=hrec d' hdd;refine goD ?_;refine cl rfl rfl (expr_m E hv2 0 (by decide) (by decide)) fun v s' ⟨⟨row2,hv,hg2⟩,j3,hj3,hs⟩=>?_;subst hv hs;obtain ⟨p1,p2,p3,p4,p5,rfl⟩:=GE_row hg2;refine goE ?_;refine bds (cs:=stRow 4 0 [] [] [] nilV (vw 6 [exRow p1 p2 p3 p4 (.view 6 p5 .shared)]) nilV nilV) rfl rfl rfl rfl ?_;refine al rfl rfl fun o ho=>?_;obtain ⟨n1,n2,n3⟩:=MEnv.new ho;refine soV rfl rfl rfl rfl rfl rfl ?_;rw [E.under n1 n2];refine nl ?_;refine goC ?_;refine rg ?_;refine goE ?_;refine Go.AM.ad rfl rfl rfl (by omega) ?_;rw [e1];refine cl rfl rfl (body_m d' hS E (MV.set (hv2.tape hj3) o _) 4 (by decide)) fun v s' ⟨rb,tkb,b,hv',hgb,hlb,h0b,hvb,hleb,hsbb,hs⟩=>?_;subst hv' hs;refine AOps.weaken (T':=[(78,vw 13 rb),(10,.cptr o 13 0 0),(7,.view 13 rows (.own tk 41)),(8,.int .i64 (n:Int)),(2,.int .i64 (most:Int)),(1,.int .i64 (4 - (d:Int))),(0,.cptr E.oM 9 0 0)]) (TLe.cons rfl (.shared _ _ _) (tl6 rfl rfl rfl rfl rfl rfl)) (E.tokLe _ b tkb) ?_
      replace hvb:MV E (st0.addTok tk) b:=hvb.unTok.unset
      replace hsbb:b.count + b.left≤c2.count + c2.left:=hsbb
      refine goE ?_;rw [← E.under n1 n2];refine YB (row':=stRow 4 0 [] [] [] nilV (vw 6 [exRow p1 p2 p3 p4 (.view 6 p5 .shared)]) (vw 13 rb) nilV) (hle:=by exact Nat.le_of_ble_eq_true rfl) (he:=by exact rfl) (z:=?_);refine nl ?_;rw [E.under n1 n2];have hM4:=E.obj_M ((st0.addTok tk).set o (.cells 41 13 [stRow 4 0 [] [] [] nilV (vw 6 [exRow p1 p2 p3 p4 (.view 6 p5 .shared)]) (vw 13 rb) nilV])) b;refine goD ?_;refine cl rfl rfl (next_m E (hvb.set o _) 2 (by decide) (by decide)) fun v s' ⟨⟨m,hm',hm2⟩,j4,hj4,hs⟩=>?_;subst hm' hs;by_cases m1:(m:Int)=1
      ·refine goD ?_;refine Go.AM.ad rfl rfl rfl (by omega) ?_;rw [e1];refine cl rfl rfl (body_m d' hS E (MV.set (hvb.tape hj4) o _) 3 (by decide)) fun v s' ⟨rc,tkc,b2,hv',hgc,hlc,h0b,hvc2,hlec,hsbb2,hs⟩=>?_;subst hv' hs;refine AOps.weaken (T':=[(89,vw 13 rc),(10,.cptr o 13 0 0),(7,.view 13 rows (.own tk 41)),(8,.int .i64 (n:Int)),(2,.int .i64 (most:Int)),(1,.int .i64 (4 - (d:Int))),(0,.cptr E.oM 9 0 0)]) (TLe.cons rfl (.shared _ _ _) (tl6 rfl rfl rfl rfl rfl rfl)) (E.tokLe _ b2 tkc) ?_
       replace hvc2:MV E (st0.addTok tk) b2:=hvc2.unTok.unset
       replace hsbb2:b2.count + b2.left≤b.count + b.left:=hsbb2
       refine goE ?_;rw [← E.under n1 n2];refine YB (row':=stRow 4 0 [] [] [] nilV (vw 6 [exRow p1 p2 p3 p4 (.view 6 p5 .shared)]) (vw 13 rb) (vw 13 rc)) (hle:=by exact Nat.le_of_ble_eq_true rfl) (he:=by exact rfl) (z:=?_);refine nl ?_
       skip
       refine rg ?_;refine sm rfl ?_;refine lcW rfl rfl rfl (St.obj_set _ _ _) rfl rfl ?_;refine AOps.weaken (T':=[(92,.agg (stRow 4 0 [] [] [] (vw 6 []) (vw 6 [exRow p1 p2 p3 p4 (.view 6 p5 .shared)]) (vw 13 rb) (vw 13 rc))),(91,.view 13 rows (.own tk 41)),(8,.int .i64 (n:Int)),(2,.int .i64 (most:Int)),(1,.int .i64 (4 - (d:Int))),(0,.cptr E.oM 9 0 0)]) (TLe.cons rfl (st_le (.nilShared _ _) (.refl _) (.refl _) (.refl _) rfl rfl rfl rfl) (tl5 rfl rfl rfl rfl rfl)) (.refl _) ?_;rw [E.under n1 n2];refine goE ?_;refine ap_out E (st0:=st0.set o (.cells 41 13 [stRow 4 0 [] [] [] nilV (vw 6 [exRow p1 p2 p3 p4 (.view 6 p5 .shared)]) (vw 13 rb) (vw 13 rc)])) (rows2:=[stRow 4 0 [] [] [] (vw 6 []) (vw 6 [exRow p1 p2 p3 p4 (.view 6 p5 .shared)]) (vw 13 rb) (vw 13 rc)]) rfl rfl rfl h0 (MV.set hvc2 _ _) (hrl 1 (by omega)) fun tk' h0' hvb'=>?_;refine goD ?_;obtain ⟨f1,f2⟩:=fin [stRow 4 0 [] [] [] (vw 6 []) (vw 6 [exRow p1 p2 p3 p4 (.view 6 p5 .shared)]) (vw 13 rb) (vw 13 rc)] tk' b2 (fun r hr=>by rw [List.mem_singleton.1 hr,hdd]; exact GS_blk (by decide) (by decide) (by decide) (by simp) (fun r hr=>by rw [List.mem_singleton.1 hr]; exact hg2) (by omega) (by omega) hgb hgc) (Nat.le_succ 1) h0' (show MV E ((st0.addTok tk').set o _) _ from hvb').unset (((MLe.tape c2 _).trans hleb).trans ((MLe.tape b _).trans hlec)) (by first|omega|(simp only; omega));exact ⟨(n + 1,_,tk',b2),f1,f2,(tl5 rfl rfl rfl rfl rfl),E.dropo (st0:=st0) n1 n2 n3 _⟩
      ·refine goE ?_;refine nl ?_
       skip
       refine AWP.cond_dec rfl (fun h=>absurd h m1) (fun _=>AWP.skip ?_);rw [← E.under n1 n2]
       skip
       refine rg ?_;refine sm rfl ?_;refine lcW rfl rfl rfl (St.obj_set _ _ _) rfl rfl ?_;refine AOps.weaken (T':=[(92,.agg (stRow 4 0 [] [] [] (vw 6 []) (vw 6 [exRow p1 p2 p3 p4 (.view 6 p5 .shared)]) (vw 13 rb) (vw 13 []))),(91,.view 13 rows (.own tk 41)),(8,.int .i64 (n:Int)),(2,.int .i64 (most:Int)),(1,.int .i64 (4 - (d:Int))),(0,.cptr E.oM 9 0 0)]) (TLe.cons rfl (st_le (.nilShared _ _) (.refl _) (.refl _) (.nilShared _ _) rfl rfl rfl rfl) (tl5 rfl rfl rfl rfl rfl)) (.refl _) ?_;rw [E.under n1 n2];refine goE ?_;refine ap_out E (st0:=st0.set o (.cells 41 13 [stRow 4 0 [] [] [] nilV (vw 6 [exRow p1 p2 p3 p4 (.view 6 p5 .shared)]) (vw 13 rb) nilV])) (rows2:=[stRow 4 0 [] [] [] (vw 6 []) (vw 6 [exRow p1 p2 p3 p4 (.view 6 p5 .shared)]) (vw 13 rb) (vw 13 [])]) rfl rfl rfl h0 (MV.set (MV.tape hvb hj4) _ _) (hrl 1 (by omega)) fun tk' h0' hvb'=>?_;refine goD ?_;obtain ⟨f1,f2⟩:=fin [stRow 4 0 [] [] [] (vw 6 []) (vw 6 [exRow p1 p2 p3 p4 (.view 6 p5 .shared)]) (vw 13 rb) (vw 13 [])] tk' { b with j:=j4 } (fun r hr=>by rw [List.mem_singleton.1 hr,hdd]; exact GS_blk (by decide) (by decide) (by decide) (by simp) (fun r hr=>by rw [List.mem_singleton.1 hr]; exact hg2) (by omega) (by decide) hgb (fun r hr=>(by cases hr))) (Nat.le_succ 1) h0' (show MV E ((st0.addTok tk').set o _) _ from hvb').unset (((MLe.tape c2 _).trans hleb).trans (MLe.tape b _)) (by first|omega|(simp only; omega));exact ⟨(n + 1,_,tk',{ b with j:=j4 }),f1,f2,(tl5 rfl rfl rfl rfl rfl),E.dropo (st0:=st0) n1 n2 n3 _⟩
     ·refine goD ?_;refine cl rfl rfl (assign_m E hv2) fun v s' ⟨⟨row,hv,hgr⟩,j9,hj9,hs⟩=>?_;subst hv hs;obtain ⟨g1,g2,g3,g4,g5,g6,g7,g8,g9,rfl⟩:=GS_row hgr;refine goE ?_;refine ap_out E (rows2:=[stRow g1 g2 g3 g4 g5 (vw 6 g6) (vw 6 g7) (vw 13 g8) (vw 13 g9)]) rfl rfl rfl h0 (MV.tape hv2 hj9) (hrl 1 (by omega)) fun tk' h0' hvb'=>?_;refine goD ?_;obtain ⟨f1,f2⟩:=fin [stRow g1 g2 g3 g4 g5 (vw 6 g6) (vw 6 g7) (vw 13 g8) (vw 13 g9)] tk' { c2 with j:=j9 } (fun r hr=>by rw [List.mem_singleton.1 hr]; exact GS_le (by omega) hgr) (Nat.le_succ 1) h0' hvb' (MLe.tape _ _) (by first|omega|(simp only; omega));exact ⟨(n + 1,_,tk',{ c2 with j:=j9 }),f1,f2,(tl5 rfl rfl rfl rfl rfl),.refl _⟩
    by_cases k7:(k:Int)=7
    ·refine goD ?_;refine cl rfl rfl (next_m E hv2 3 (by decide) (by decide)) fun v s' ⟨⟨m,hm',hm3⟩,j2,hj2,hs⟩=>?_;subst hm' hs;have hM3:=E.obj_M (st0.addTok tk) { c2 with j:=j2 }
     have hv3:MV E (st0.addTok tk) { c2 with j:=j2 }:=hv2.tape hj2;by_cases m0:(m:Int)=0
     ·refine goD ?_;refine bds (cs:=callRow 6 [] nilV) rfl rfl rfl rfl ?_;refine al rfl rfl fun o ho=>?_;obtain ⟨n1,n2,n3⟩:=MEnv.new ho;refine soV rfl rfl rfl rfl rfl rfl ?_;rw [E.under n1 n2];refine nl ?_;rw [show (st0.addTok tk).set o (.cells 41 13 [AV.cells (.agg (callRow 6 [] nilV))])=(st0.addTok tk).set o (stC (callRow 6 [] nilV)) from rfl];have hM4:=E.obj_M ((st0.addTok tk).set o (stC (callRow 6 [] nilV))) { c2 with j:=j2 };refine goD ?_;refine cl rfl rfl (next_m E (MV.set hv3 o _) 2 (by decide) (by decide)) fun v s' ⟨⟨m2,hm2',hm22⟩,j4,hj4,hs⟩=>?_;subst hm2' hs;have hv5:MV E (st0.addTok tk) { c2 with j:=j4 }:=hv2.tape hj4;by_cases m20:(m2:Int)=0
      ·refine goD ?_;refine cl rfl rfl (expr_m E (MV.set hv5 o _) 0 (by decide) (by decide)) fun v s' ⟨⟨row2,hv,hg2⟩,j3,hj3,hs⟩=>?_;subst hv hs;obtain ⟨p1,p2,p3,p4,p5,rfl⟩:=GE_row hg2;refine goE ?_;refine bds (cs:=stRow 6 0 [] [] [] nilV (vw 6 [exRow p1 p2 p3 p4 (.view 6 p5 .shared)]) nilV nilV) rfl rfl rfl rfl ?_;rw [← E.under n1 n2];unfold stC;refine soV rfl rfl rfl rfl rfl rfl ?_;refine nl ?_
       skip
       refine rg ?_;refine sm rfl ?_;refine lcW rfl rfl rfl (St.obj_set _ _ _) rfl rfl ?_;refine AOps.weaken (T':=[(211,.agg (stRow 6 0 [] [] [] (vw 6 []) (vw 6 [exRow p1 p2 p3 p4 (.view 6 p5 .shared)]) (vw 13 []) (vw 13 []))),(210,.view 13 rows (.own tk 41)),(8,.int .i64 (n:Int)),(2,.int .i64 (most:Int)),(1,.int .i64 (4 - (d:Int))),(0,.cptr E.oM 9 0 0)]) (TLe.cons rfl (st_le (.nilShared _ _) (.refl _) (.nilShared _ _) (.nilShared _ _) rfl rfl rfl rfl) (tl5 rfl rfl rfl rfl rfl)) (.refl _) ?_;rw [E.under n1 n2];refine goE ?_;refine ap_out E (st0:=st0.set o (.cells 41 13 [stRow 6 0 [] [] [] nilV (vw 6 [exRow p1 p2 p3 p4 (.view 6 p5 .shared)]) nilV nilV])) (rows2:=[stRow 6 0 [] [] [] (vw 6 []) (vw 6 [exRow p1 p2 p3 p4 (.view 6 p5 .shared)]) (vw 13 []) (vw 13 [])]) rfl rfl rfl h0 (MV.set (MV.tape hv2 hj3) _ _) (hrl 1 (by omega)) fun tk' h0' hvb'=>?_;refine goD ?_;obtain ⟨f1,f2⟩:=fin [stRow 6 0 [] [] [] (vw 6 []) (vw 6 [exRow p1 p2 p3 p4 (.view 6 p5 .shared)]) (vw 13 []) (vw 13 [])] tk' { c2 with j:=j3 } (fun r hr=>by rw [List.mem_singleton.1 hr]; exact GS_le (by omega) (GS_one (len:=0) (by decide) (by decide) (by decide) (by decide) (by decide) (by decide) (by decide) (Nat.zero_le _) (by simp) (fun r hr=>(by cases hr)) (fun r hr=>by rw [List.mem_singleton.1 hr]; exact hg2))) (Nat.le_succ 1) h0' (show MV E ((st0.addTok tk').set o _) _ from hvb').unset (MLe.tape _ _) (by first|omega|(simp only; omega));exact ⟨(n + 1,_,tk',{ c2 with j:=j3 }),f1,f2,(tl5 rfl rfl rfl rfl rfl),E.dropo (st0:=st0) n1 n2 n3 _⟩
      ·refine goD ?_;refine cl rfl rfl (call_j E (st0:=st0.addTok tk) hv2 o n1 n2 6 ⟨j4,hj4,rfl⟩) fun v s' ⟨b,fn,args,crows,j5,hv,hfn,hle5,hone,hrl5,hrg,hj5,hs⟩=>?_;subst hv hs
       replace hv5:MV E (st0.addTok tk) { c2 with j:=j5 }:=hv2.tape hj5
       cases b with
       | false =>
        refine goD ?_;refine cl rfl rfl (expr_m E (MV.set hv5 o _) 0 (by decide) (by decide)) fun v s' ⟨⟨row2,hv,hg2⟩,j3,hj3,hs⟩=>?_;subst hv hs;obtain ⟨p1,p2,p3,p4,p5,rfl⟩:=GE_row hg2;refine goE ?_;refine bds (cs:=stRow 6 0 [] [] [] nilV (vw 6 [exRow p1 p2 p3 p4 (.view 6 p5 .shared)]) nilV nilV) rfl rfl rfl rfl ?_;rw [← E.under n1 n2];unfold stC;refine soV rfl rfl rfl rfl rfl rfl ?_;refine nl ?_
        skip
        refine rg ?_;refine sm rfl ?_;refine lcW rfl rfl rfl (St.obj_set _ _ _) rfl rfl ?_;refine AOps.weaken (T':=[(211,.agg (stRow 6 0 [] [] [] (vw 6 []) (vw 6 [exRow p1 p2 p3 p4 (.view 6 p5 .shared)]) (vw 13 []) (vw 13 []))),(210,.view 13 rows (.own tk 41)),(8,.int .i64 (n:Int)),(2,.int .i64 (most:Int)),(1,.int .i64 (4 - (d:Int))),(0,.cptr E.oM 9 0 0)]) (TLe.cons rfl (st_le (.nilShared _ _) (.refl _) (.nilShared _ _) (.nilShared _ _) rfl rfl rfl rfl) (tl5 rfl rfl rfl rfl rfl)) (.refl _) ?_;rw [E.under n1 n2];refine goE ?_;refine ap_out E (st0:=st0.set o (.cells 41 13 [stRow 6 0 [] [] [] nilV (vw 6 [exRow p1 p2 p3 p4 (.view 6 p5 .shared)]) nilV nilV])) (rows2:=[stRow 6 0 [] [] [] (vw 6 []) (vw 6 [exRow p1 p2 p3 p4 (.view 6 p5 .shared)]) (vw 13 []) (vw 13 [])]) rfl rfl rfl h0 (MV.set (MV.tape hv2 hj3) _ _) (hrl 1 (by omega)) fun tk' h0' hvb'=>?_;refine goD ?_;obtain ⟨f1,f2⟩:=fin [stRow 6 0 [] [] [] (vw 6 []) (vw 6 [exRow p1 p2 p3 p4 (.view 6 p5 .shared)]) (vw 13 []) (vw 13 [])] tk' { c2 with j:=j3 } (fun r hr=>by rw [List.mem_singleton.1 hr]; exact GS_le (by omega) (GS_one (len:=0) (by decide) (by decide) (by decide) (by decide) (by decide) (by decide) (by decide) (Nat.zero_le _) (by simp) (fun r hr=>(by cases hr)) (fun r hr=>by rw [List.mem_singleton.1 hr]; exact hg2))) (Nat.le_succ 1) h0' (show MV E ((st0.addTok tk').set o _) _ from hvb').unset (MLe.tape _ _) (by first|omega|(simp only; omega));exact ⟨(n + 1,_,tk',{ c2 with j:=j3 }),f1,f2,(tl5 rfl rfl rfl rfl rfl),E.dropo (st0:=st0) n1 n2 n3 _⟩
       | true =>
        refine goE ?_;refine nl ?_
        skip
        refine AWP.cond_false rfl (AWP.skip ?_);rw [← E.under n1 n2];unfold stC callRow
        skip
        refine rg ?_;refine sm rfl ?_;refine lcW rfl rfl rfl (St.obj_set _ _ _) rfl rfl ?_;refine AOps.weaken (T':=[(211,.agg (stRow 6 0 [] [] fn (vw 6 []) (vw 6 crows) (vw 13 []) (vw 13 []))),(210,.view 13 rows (.own tk 41)),(8,.int .i64 (n:Int)),(2,.int .i64 (most:Int)),(1,.int .i64 (4 - (d:Int))),(0,.cptr E.oM 9 0 0)]) (TLe.cons rfl (st_le (.nilShared _ _) hle5 (.nilShared _ _) (.nilShared _ _) rfl rfl rfl rfl) (tl5 rfl rfl rfl rfl rfl)) (.refl _) ?_;rw [E.under n1 n2];refine goE ?_;refine ap_out E (st0:=st0.set o (.cells 41 13 [stRow 6 0 [] [] fn nilV args nilV nilV])) (rows2:=[stRow 6 0 [] [] fn (vw 6 []) (vw 6 crows) (vw 13 []) (vw 13 [])]) rfl rfl rfl h0 (MV.set hv5 _ _) (hrl 1 (by omega)) fun tk' h0' hvb'=>?_;refine goD ?_;obtain ⟨f1,f2⟩:=fin [stRow 6 0 [] [] fn (vw 6 []) (vw 6 crows) (vw 13 []) (vw 13 [])] tk' { c2 with j:=j5 } (fun r hr=>by rw [List.mem_singleton.1 hr]; exact GS_le (by omega) (GS_one (len:=0) (by decide) (by decide) (by decide) (by decide) (by decide) (by decide) hfn (Nat.zero_le _) hrl5 (fun r hr=>(by cases hr)) hrg)) (Nat.le_succ 1) h0' (show MV E ((st0.addTok tk').set o _) _ from hvb').unset (MLe.tape _ _) (by first|omega|(simp only; omega));exact ⟨(n + 1,_,tk',{ c2 with j:=j5 }),f1,f2,(tl5 rfl rfl rfl rfl rfl),E.dropo (st0:=st0) n1 n2 n3 _⟩
     ·refine goD ?_;refine cl rfl rfl (assign_m E hv3) fun v s' ⟨⟨row,hv,hgr⟩,j9,hj9,hs⟩=>?_;subst hv hs;obtain ⟨g1,g2,g3,g4,g5,g6,g7,g8,g9,rfl⟩:=GS_row hgr;refine goE ?_;refine ap_out E (rows2:=[stRow g1 g2 g3 g4 g5 (vw 6 g6) (vw 6 g7) (vw 13 g8) (vw 13 g9)]) rfl rfl rfl h0 (MV.tape hv3 hj9) (hrl 1 (by omega)) fun tk' h0' hvb'=>?_;refine goD ?_;obtain ⟨f1,f2⟩:=fin [stRow g1 g2 g3 g4 g5 (vw 6 g6) (vw 6 g7) (vw 13 g8) (vw 13 g9)] tk' { c2 with j:=j9 } (fun r hr=>by rw [List.mem_singleton.1 hr]; exact GS_le (by omega) hgr) (Nat.le_succ 1) h0' hvb' (MLe.tape _ _) (by first|omega|(simp only; omega));exact ⟨(n + 1,_,tk',{ c2 with j:=j9 }),f1,f2,(tl5 rfl rfl rfl rfl rfl),.refl _⟩
    have k5:(k:Int)=5:=by omega
    by_cases cc:(c2.count:Int) < 14
    ·by_cases hd0:0 < d
     ·obtain ⟨d',hdd,e1,e2⟩:∃ d':Nat,d=d' + 1∧4 - (d:Int) + 1=4 - (d':Int)∧4 - (d:Int)=3 - (d':Int):=⟨d - 1,by omega,by omega,by omega⟩;have hS:=hrec d' hdd;refine goD ?_;refine bds (cs:=stRow 8 0 [] [] [] nilV nilV nilV nilV) rfl rfl rfl rfl ?_;refine al rfl rfl fun o ho=>?_;obtain ⟨n1,n2,n3⟩:=MEnv.new ho;refine soV rfl rfl rfl rfl rfl rfl ?_;rw [E.under n1 n2];refine nl ?_;refine goC ?_;refine rg ?_;refine goE ?_;refine Go.AM.ad rfl rfl rfl (by omega) ?_;rw [e1];refine cl rfl rfl (body_m d' hS E (MV.set hv2 o _) 4 (by decide)) fun v s' ⟨rb,tkb,b,hv',hgb,hlb,h0b,hvb,hleb,hsbb,hs⟩=>?_;subst hv' hs;refine AOps.weaken (T':=[(132,vw 13 rb),(11,.cptr o 13 0 0),(7,.view 13 rows (.own tk 41)),(8,.int .i64 (n:Int)),(2,.int .i64 (most:Int)),(1,.int .i64 (4 - (d:Int))),(0,.cptr E.oM 9 0 0)]) (TLe.cons rfl (.shared _ _ _) (tl6 rfl rfl rfl rfl rfl rfl)) (E.tokLe _ b tkb) ?_
      replace hvb:MV E (st0.addTok tk) b:=hvb.unTok.unset
      replace hsbb:b.count + b.left≤c2.count + c2.left:=hsbb
      refine goE ?_;rw [← E.under n1 n2];refine YB (row':=stRow 8 0 [] [] [] nilV nilV (vw 13 rb) nilV) (hle:=by exact Nat.le_of_ble_eq_true rfl) (he:=by exact rfl) (z:=?_);refine nl ?_;rw [E.under n1 n2];refine goD ?_;refine cl rfl rfl (fresh_m E (st0:=(st0.addTok tk).set o (.cells 41 13 [stRow 8 0 [] [] [] nilV nilV (vw 13 rb) nilV])) (a:=b) (by omega)) fun v s' ⟨⟨w,hw,wl⟩,hs⟩=>?_;subst hw hs;obtain ⟨b1,hb1⟩:∃ b1:MA,b1={ b with count:=b.count + 1 }:=⟨_,rfl⟩;rw [← hb1];have hvb1:MV E (st0.addTok tk) b1:=by
       subst hb1;exact { hvb with lS:=by have:=hvb.lS; simp only; omega,lD:=by have:=hvb.lD; simp only; omega,lA:=by have:=hvb.lA; simp only; omega,c:=by simp only; omega }
      have d1:b1.count=b.count + 1∧b1.left=b.left∧b1.S=b.S∧b1.D=b.D∧b1.A=b.A:=by subst hb1; exact ⟨rfl,rfl,rfl,rfl,rfl⟩
      have lS1:b1.S.length + 1≤4 + b1.count:=by rw [d1.1,d1.2.2.1]; have:=hvb.lS; omega
      clear hb1;refine goE ?_;rw [← E.under n1 n2];refine YB (row':=stRow 8 0 w [] [] nilV nilV (vw 13 rb) nilV) (hle:=by exact Nat.le_of_ble_eq_true rfl) (he:=by exact rfl) (z:=?_);refine nl ?_;rw [E.under n1 n2];obtain ⟨B,hB⟩:∃ B,B=(st0.addTok tk).set o (.cells 41 13 [stRow 8 0 w [] [] nilV nilV (vw 13 rb) nilV]):=⟨_,rfl⟩;rw [← hB];have hM5:=E.obj_M B b1
      have ho5:(E.st B b1).obj o=some (.cells 41 13 [stRow 8 0 w [] [] nilV nilV (vw 13 rb) nilV]):=by rw [E.obj_o n1 n2,hB]; exact St.obj_set _ _ _
      have hvB1:MV E B b1:=by rw [hB]; exact hvb1.set _ _
      refine AWP.weaken (T':=[(11,.cptr o 13 0 0),(7,.view 13 rows (.own tk 41)),(8,.int .i64 (n:Int)),(2,.int .i64 (most:Int)),(1,.int .i64 (4 - (d:Int))),(0,.cptr E.oM 9 0 0)]) (tl6 rfl rfl rfl rfl rfl rfl) (.refl _) ?_;refine goC ?_;refine AWP.draw rfl 9 8 (fun v s=>∃ k',TokL ((B.set E.oT (tapeC E.l b1.j)).set E.oM (E.c b1)) (b1.toks.set 0 (some k'))∧v=.view 1 (nrows (b1.S++[w])) (.own k' 9)∧s=((B.set E.oT (tapeC E.l b1.j)).set E.oM (E.c b1)).toks (b1.toks.set 0 (some k'))) rfl ?_;refine goF ?_;refine de rfl rfl rfl ?_ ?_
      ·rw [E.st_K B b1];refine apx (o:=some b1.kS) 0 rfl rfl rfl (TokL.of_tok hvB1.tk rfl) rfl (fun h=>by cases h) rfl ?_ ?_ fun k' htk=>nl ⟨_,rfl,⟨k',htk,by rw [nrows_append],rfl⟩,⟨fun _ _ h=>h,fun _ h=>(by cases h),rfl⟩⟩
       ·rw [nrows_len]; simp only [List.length_cons,List.length_nil]; have:=hvb1.lS; have:=hvb1.c; omega
       ·rw [nrows_len]; simp only [List.length_cons,List.length_nil,maxLen]; have:=hvb1.lS; have:=hvb1.c; omega
      refine dn ⟨fun h=>absurd h (by decide),fun _=>?_⟩;rintro v s1 d9 hd9 ⟨k',htk,rfl,rfl⟩;cases hd9;refine goE ?_;rw [toks_set];unfold MEnv.c mkC;refine YB (row':=mkRow E.oT E.f E.funcs E.pv (gnv (b1.S++[w]) k') (gnv b1.D b1.kD) (gnv b1.A b1.kA) b1.count b1.left) (hle:=by exact Nat.le_of_ble_eq_true rfl) (he:=by exact rfl) (z:=?_);obtain ⟨b2,hb2⟩:∃ b2:MA,b2={ b1 with S:=b1.S++[w],kS:=k' }:=⟨_,rfl⟩;have hst:((B.set E.oT (tapeC E.l b1.j)).toks (b1.toks.set 0 (some k'))).set E.oM (.cells 92 9 [mkRow E.oT E.f E.funcs E.pv (gnv (b1.S++[w]) k') (gnv b1.D b1.kD) (gnv b1.A b1.kA) b1.count b1.left])=E.st B b2:=by rw [hb2]; rfl
      rw [hst];have hvb2:MV E (st0.addTok tk) b2:=by
       subst hb2;refine { hvb1 with nS:=fun s hs=>?_,lS:=?_,tk:=TokL.of_tok htk (by rw [hB]; rfl) }
       ·rcases List.mem_append.1 hs with hs|hs
        ·exact hvb1.nS s hs
        ·rw [List.mem_singleton.1 hs]; exact wl
       ·simp only [List.length_append,List.length_cons,List.length_nil]; omega
      have d2:b2.S.length=b.S.length + 1∧b2.D=b.D∧b2.A=b.A∧b2.left=b.left∧b2.count + b2.left=b.count + b.left + 1:=by
       subst hb2;exact ⟨by simp only [List.length_append,List.length_cons,List.length_nil,d1.2.2.1],d1.2.2.2.1,d1.2.2.2.2,d1.2.1,by simp only; omega⟩
      clear hst hb2 hM5 ho5 hvB1;refine nl ?_;rw [hB];clear hB;refine goC ?_;refine rg ?_;refine goE ?_;refine Go.AM.ad rfl rfl rfl (by omega) ?_;rw [e1];refine cl rfl rfl (body_m d' hS E (MV.set hvb2 o _) 3 (by decide)) fun v s' ⟨rc,tkc,b3,hv',hgc,hlc,h0b,hvb3,hlec,hsbb3,hs⟩=>?_;subst hv' hs;refine AOps.weaken (T':=[(151,vw 13 rc),(11,.cptr o 13 0 0),(7,.view 13 rows (.own tk 41)),(8,.int .i64 (n:Int)),(2,.int .i64 (most:Int)),(1,.int .i64 (4 - (d:Int))),(0,.cptr E.oM 9 0 0)]) (TLe.cons rfl (.shared _ _ _) (tl6 rfl rfl rfl rfl rfl rfl)) (E.tokLe _ b3 tkc) ?_
      replace hvb3:MV E (st0.addTok tk) b3:=hvb3.unTok.unset
      replace hsbb3:b3.count + b3.left≤b2.count + b2.left:=hsbb3
      refine goE ?_;rw [← E.under n1 n2];refine YB (row':=stRow 8 0 w [] [] nilV nilV (vw 13 rb) (vw 13 rc)) (hle:=by exact Nat.le_of_ble_eq_true rfl) (he:=by exact rfl) (z:=?_);refine nl ?_;rw [E.under n1 n2];obtain ⟨B,hB⟩:∃ B,B=(st0.addTok tk).set o (.cells 41 13 [stRow 8 0 w [] [] nilV nilV (vw 13 rb) (vw 13 rc)]):=⟨_,rfl⟩;rw [← hB];have hM6:=E.obj_M B b3
      have hvB3:MV E B b3:=by rw [hB]; exact hvb3.set _ _
      have hS3:1≤b3.S.length:=by have:=hlec.S; omega
      have hn3:(nrows b3.S).length≤100:=by rw [nrows_len]; have:=hvb3.lS; have:=hvb3.c; omega
      refine goC ?_;refine AWP.draw rfl 14 13 (fun v s=>∃ k',(E.st B b3).tok k'=false∧v=.view 1 ((nrows b3.S).take (b3.S.length - 1)) (.own k' 9)∧s=(E.st B b3).addTok k') rfl ?_;refine goF ?_;refine dp (h:=fun _ _=>bs0 (z:=nz)) (z:=?_);refine goF ?_;rw [nrows_len,show ((b3.S.length:Int) - 1)=((b3.S.length - 1:Nat):Int) by omega];refine dq rfl rfl rfl (fun st1 hle=>svh (b:=b3.S.length - 1) rfl rfl rfl (by rw [nrows_len]; omega) (nl ⟨_,rfl,rfl,rfl⟩)) ?_
      skip
      refine de rfl rfl rfl ?_ ?_
      ·refine apf rfl rfl rfl rfl (by simp only [List.length_take,nrows_len]; have:=hvb3.lS; have:=hvb3.c; omega) (by simp only [List.length_take,nrows_len,maxLen]; have:=hvb3.lS; have:=hvb3.c; omega) fun k' hk'=>nl ⟨_,rfl,⟨k',hk',rfl,rfl⟩,⟨fun _ _ h=>h,fun _ h=>(by cases h),rfl⟩⟩
      refine dn ⟨fun h=>absurd h (by decide),fun _=>?_⟩;rintro v s1 d9 hd9 ⟨k9,hk9,rfl,rfl⟩;cases hd9;rw [nrows_take];refine goE ?_;rw [show (E.st B b3).addTok k9=(((B.set E.oT (tapeC E.l b3.j)).toks b3.toks).addTok k9).set E.oM (E.c b3) from rfl];unfold MEnv.c mkC;refine YB (row':=mkRow E.oT E.f E.funcs E.pv (gnv (b3.S.take (b3.S.length - 1)) k9) (gnv b3.D b3.kD) (gnv b3.A b3.kA) b3.count b3.left) (hle:=by exact Nat.le_of_ble_eq_true rfl) (he:=by exact rfl) (z:=?_);refine nl ?_;obtain ⟨b4,hb4⟩:∃ b4:MA,b4={ b3 with S:=b3.S.take (b3.S.length - 1),kS:=k9 }:=⟨_,rfl⟩;have htk4:TokL ((B.set E.oT (tapeC E.l b3.j)).set E.oM (E.c b4)) (b3.toks.set 0 (some k9)):=TokL.of_tok (TokL.set (st:=(B.set E.oT (tapeC E.l b3.j)).set E.oM (E.c b3)) (TokL.of_tok hvB3.tk rfl) hk9 0) rfl
      have hvb4:MV E (st0.addTok tk) b4:=by
       subst hb4;refine { hvb3 with nS:=fun s hs=>hvb3.nS s (List.mem_of_mem_take hs),lS:=?_,tk:=TokL.of_tok htk4 (by rw [hB]; rfl) };simp only [List.length_take]; have:=hvb3.lS; omega
      have d4:b4.S.length=b3.S.length - 1∧b4.D=b3.D∧b4.A=b3.A∧b4.left=b3.left∧b4.count=b3.count:=by
       subst hb4;exact ⟨by simp only [List.length_take]; omega,rfl,rfl,rfl,rfl⟩
      have hle4:StLe ((((B.set E.oT (tapeC E.l b3.j)).toks b3.toks).addTok k9).set E.oM (.cells 92 9 [mkRow E.oT E.f E.funcs E.pv (gnv (b3.S.take (b3.S.length - 1)) k9) (gnv b3.D b3.kD) (gnv b3.A b3.kA) b3.count b3.left])) (E.st B b4):=by
       subst hb4;refine ⟨fun _ _ h=>h,fun t h=>?_,rfl⟩;have h':(decide (some t ∈ [some k9,some b3.kD,some b3.kA]) || B.tok t)=true:=h
       show (if t=k9 then true else (decide (some t ∈ [some b3.kS,some b3.kD,some b3.kA]) || B.tok t))=true;by_cases e:t=k9
       ·rw [if_pos e]
       ·rw [if_neg e];rw [Bool.or_eq_true] at h' ⊢;rcases h' with h'|h'
        ·refine .inl ?_;simp only [decide_eq_true_eq,List.mem_cons,Option.some.injEq,List.not_mem_nil,or_false] at h' ⊢;rcases h' with h'|h'|h'
         ·exact absurd h' e
         ·exact .inr (.inl h')
         ·exact .inr (.inr h')
        ·exact .inr h'
      refine AWP.weaken (TLe.refl _) hle4 ?_;rw [hB,← E.under n1 n2]
      skip
      refine rg ?_;refine sm rfl ?_;refine lcW rfl rfl rfl (St.obj_set _ _ _) rfl rfl ?_;refine AOps.weaken (T':=[(170,.agg (stRow 8 0 w [] [] (vw 6 []) (vw 6 []) (vw 13 rb) (vw 13 rc))),(169,.view 13 rows (.own tk 41)),(8,.int .i64 (n:Int)),(2,.int .i64 (most:Int)),(1,.int .i64 (4 - (d:Int))),(0,.cptr E.oM 9 0 0)]) (TLe.cons rfl (st_le (.nilShared _ _) (.nilShared _ _) (.refl _) (.refl _) rfl rfl rfl rfl) (tl5 rfl rfl rfl rfl rfl)) (.refl _) ?_;rw [E.under n1 n2];refine goE ?_;refine ap_out E (st0:=st0.set o (.cells 41 13 [stRow 8 0 w [] [] nilV nilV (vw 13 rb) (vw 13 rc)])) (rows2:=[stRow 8 0 w [] [] (vw 6 []) (vw 6 []) (vw 13 rb) (vw 13 rc)]) rfl rfl rfl h0 (MV.set hvb4 _ _) (hrl 1 (by omega)) fun tk' h0' hvb'=>?_;refine goD ?_;obtain ⟨f1,f2⟩:=fin [stRow 8 0 w [] [] (vw 6 []) (vw 6 []) (vw 13 rb) (vw 13 rc)] tk' b4 (fun r hr=>by rw [List.mem_singleton.1 hr,hdd]; exact GS_blk (by decide) (by decide) wl (by decide) (fun r hr=>(by cases hr)) (by omega) (by omega) hgb hgc) (Nat.le_succ 1) h0' (show MV E ((st0.addTok tk').set o _) _ from hvb').unset (⟨by have:=hleb.S; have:=hlec.S; omega,by rw [d4.2.1]; exact Nat.le_trans (hleb.D) (by have:=hlec.D; rw [d2.2.1] at this; exact this),by rw [d4.2.2.1]; exact Nat.le_trans (hleb.A) (by have:=hlec.A; rw [d2.2.2.1] at this; exact this),by have:=hleb.left; have:=hlec.left; omega⟩) (by first|omega|(simp only; omega));exact ⟨(n + 1,_,tk',b4),f1,f2,(tl5 rfl rfl rfl rfl rfl),E.dropo (st0:=st0) n1 n2 n3 _⟩
     ·refine goD ?_;refine cl rfl rfl (assign_m E hv2) fun v s' ⟨⟨row,hv,hgr⟩,j9,hj9,hs⟩=>?_;subst hv hs;obtain ⟨g1,g2,g3,g4,g5,g6,g7,g8,g9,rfl⟩:=GS_row hgr;refine goE ?_;refine ap_out E (rows2:=[stRow g1 g2 g3 g4 g5 (vw 6 g6) (vw 6 g7) (vw 13 g8) (vw 13 g9)]) rfl rfl rfl h0 (MV.tape hv2 hj9) (hrl 1 (by omega)) fun tk' h0' hvb'=>?_;refine goD ?_;obtain ⟨f1,f2⟩:=fin [stRow g1 g2 g3 g4 g5 (vw 6 g6) (vw 6 g7) (vw 13 g8) (vw 13 g9)] tk' { c2 with j:=j9 } (fun r hr=>by rw [List.mem_singleton.1 hr]; exact GS_le (by omega) hgr) (Nat.le_succ 1) h0' hvb' (MLe.tape _ _) (by first|omega|(simp only; omega));exact ⟨(n + 1,_,tk',{ c2 with j:=j9 }),f1,f2,(tl5 rfl rfl rfl rfl rfl),.refl _⟩
    ·by_cases hd0:0 < d
     ·obtain ⟨d',hdd,e1,e2⟩:∃ d':Nat,d=d' + 1∧4 - (d:Int) + 1=4 - (d':Int)∧4 - (d:Int)=3 - (d':Int):=⟨d - 1,by omega,by omega,by omega⟩;have hS:=hrec d' hdd;refine goD ?_;refine cl rfl rfl (assign_m E hv2) fun v s' ⟨⟨row,hv,hgr⟩,j9,hj9,hs⟩=>?_;subst hv hs;obtain ⟨g1,g2,g3,g4,g5,g6,g7,g8,g9,rfl⟩:=GS_row hgr;refine goE ?_;refine ap_out E (rows2:=[stRow g1 g2 g3 g4 g5 (vw 6 g6) (vw 6 g7) (vw 13 g8) (vw 13 g9)]) rfl rfl rfl h0 (MV.tape hv2 hj9) (hrl 1 (by omega)) fun tk' h0' hvb'=>?_;refine goD ?_;obtain ⟨f1,f2⟩:=fin [stRow g1 g2 g3 g4 g5 (vw 6 g6) (vw 6 g7) (vw 13 g8) (vw 13 g9)] tk' { c2 with j:=j9 } (fun r hr=>by rw [List.mem_singleton.1 hr]; exact GS_le (by omega) hgr) (Nat.le_succ 1) h0' hvb' (MLe.tape _ _) (by first|omega|(simp only; omega));exact ⟨(n + 1,_,tk',{ c2 with j:=j9 }),f1,f2,(tl5 rfl rfl rfl rfl rfl),.refl _⟩
     ·refine goD ?_;refine cl rfl rfl (assign_m E hv2) fun v s' ⟨⟨row,hv,hgr⟩,j9,hj9,hs⟩=>?_;subst hv hs;obtain ⟨g1,g2,g3,g4,g5,g6,g7,g8,g9,rfl⟩:=GS_row hgr;refine goE ?_;refine ap_out E (rows2:=[stRow g1 g2 g3 g4 g5 (vw 6 g6) (vw 6 g7) (vw 13 g8) (vw 13 g9)]) rfl rfl rfl h0 (MV.tape hv2 hj9) (hrl 1 (by omega)) fun tk' h0' hvb'=>?_;refine goD ?_;obtain ⟨f1,f2⟩:=fin [stRow g1 g2 g3 g4 g5 (vw 6 g6) (vw 6 g7) (vw 13 g8) (vw 13 g9)] tk' { c2 with j:=j9 } (fun r hr=>by rw [List.mem_singleton.1 hr]; exact GS_le (by omega) hgr) (Nat.le_succ 1) h0' hvb' (MLe.tape _ _) (by first|omega|(simp only; omega));exact ⟨(n + 1,_,tk',{ c2 with j:=j9 }),f1,f2,(tl5 rfl rfl rfl rfl rfl),.refl _⟩

   ·refine goD ?_;exact AWP.ret (rets rfl (.refl _) (.refl _) ⟨rows,tk,c,rfl,hg,by omega,h0,hvc,hle,hsum,rfl⟩)
  ·refine goD ?_;refine AWP.exit (blk_hit ?_);refine goD ?_;exact AWP.ret (rets rfl (.refl _) (.refl _) ⟨rows,tk,c,rfl,hg,by omega,h0,hvc,hle,hsum,rfl⟩)
 ·refine goD ?_;refine AWP.exit (blk_hit ?_);refine goD ?_;exact AWP.ret (rets rfl (.refl _) (.refl _) ⟨rows,tk,c,rfl,hg,by omega,h0,hvc,hle,hsum,rfl⟩)
end Go.Proofs
