/- The walks of the reference lexer's small functions. No conditions: lemmas only. -/
import Derived.Test.YthjcphjabiajbaaGreatDoorB4
namespace Go.Proofs
open Go.AM
theorem rdigit_ok (r:Nat) (st:St):ACalls Tryz.prog 82 [.int .u8 (r:Int)] st (fun v st'=>v=.bool (digA r)∧st'=st) (fun _ _=>False):=by
 refine ACalls.ofBody Tryz.func82 rfl Tryz.ntmps82 rfl ?_;refine goA ?_;refine AOps.split 5 rfl (fun h=>?_) (fun h=>?_)
 ·have h':48≤r:=by have:(48:Int)≤(r:Int):=h; omega
  refine goA ?_;refine AWP.ret (rets rfl (.refl _) (.refl _) ⟨?_,rfl⟩);simp only [packA,digA,h',decide_true,Bool.true_and]
  congr 1
  exact decide_eq_decide.2 (by omega)
 ·have h':¬ 48≤r:=by have:¬ (48:Int)≤(r:Int):=h; omega
  refine goA ?_;refine AWP.ret (rets rfl (.refl _) (.refl _) ⟨?_,rfl⟩);simp [packA,digA,h',absV,abs1]

theorem rletter_ok (r:Nat) (st:St):ACalls Tryz.prog 81 [.int .u8 (r:Int)] st (fun v st'=>v=.bool (letA r)∧st'=st) (fun _ _=>False):=by
 refine ACalls.ofBody Tryz.func81 rfl Tryz.ntmps81 rfl ?_;have fin:∀ {b:Bool},b=letA r→AV.bool b=.bool (letA r):=fun h=>by rw [h]
 have e95:(decide ((r:Int)=95))=decide (r=95):=decide_eq_decide.2 (by omega);refine goA ?_;refine AOps.split 5 rfl (fun h=>?_) (fun h=>?_)
 ·have h':97≤r:=by have:(97:Int)≤(r:Int):=h; omega
  refine goA ?_;refine AOps.split 9 rfl (fun h2=>?_) (fun h2=>?_)
  ·have h2':r≤122:=by have:(r:Int)≤122:=h2; omega
   refine goA ?_;exact AWP.ret (rets rfl (.refl _) (.refl _) ⟨fin (by simp [letA,h',h2']),rfl⟩)
  ·have h2':¬ r≤122:=by have:¬ (r:Int)≤122:=h2; omega
   refine goA ?_;refine AOps.split 12 rfl (fun h3=>?_) (fun h3=>absurd (show (65:Int)≤(r:Int) by omega) h3);refine goA ?_;refine AOps.split 17 rfl (fun h4=>absurd (show (r:Int)≤90 from h4) (by omega)) (fun h4=>?_);refine goA ?_;refine AWP.ret (rets rfl (.refl _) (.refl _) ⟨fin ?_,rfl⟩);rw [e95];simp [letA,h2',show ¬ r≤90 by omega]
 ·have h':¬ 97≤r:=by have:¬ (97:Int)≤(r:Int):=h; omega
  refine goA ?_;refine AOps.split 12 rfl (fun h3=>?_) (fun h3=>?_)
  ·have h3':65≤r:=by have:(65:Int)≤(r:Int):=h3; omega
   refine goA ?_;refine AOps.split 17 rfl (fun h4=>?_) (fun h4=>?_)
   ·have h4':r≤90:=by have:(r:Int)≤90:=h4; omega
    refine goA ?_;exact AWP.ret (rets rfl (.refl _) (.refl _) ⟨fin (by simp [letA,h3',h4']),rfl⟩)
   ·have h4':¬ r≤90:=by have:¬ (r:Int)≤90:=h4; omega
    refine goA ?_;refine AWP.ret (rets rfl (.refl _) (.refl _) ⟨fin ?_,rfl⟩);rw [e95];simp [letA,h',h4']
  ·have h3':¬ 65≤r:=by have:¬ (65:Int)≤(r:Int):=h3; omega
   refine goA ?_;refine AWP.ret (rets rfl (.refl _) (.refl _) ⟨fin ?_,rfl⟩);rw [e95];simp [letA,h',h3']

theorem words_chunk:chunk 1 12 (words.map AV.str)=words.map fun w=>[.str w]:=rfl

theorem rres_ok (s:List UInt8) (st:St):ACalls Tryz.prog 83 [.str s] st (fun v st'=>v=.bool (decide (s ∈ words))∧st'=st) (fun _ _=>False):=by
 refine ACalls.ofBody Tryz.func83 rfl Tryz.ntmps83 rfl ?_;refine goA ?_;refine bs (cs:=words.map .str) rfl rfl rfl rfl rfl fun tk _=>?_;refine AOps.weaken (.refl _) (StLe.addTok _ (.refl _)) ?_;rw [words_chunk];obtain ⟨X,hX⟩:∃ X,X=words.map fun w=>[AV.str w]:=⟨_,rfl⟩;have hl:X.length=12:=by rw [hX]; rfl
 have hx:∀ i (h:i < 12),∃ w,words[i]?=some w∧X[i]?=some [.str w]:=fun i h=>⟨words[i]'h,List.getElem?_eq_getElem h,by rw [hX,List.getElem?_map,List.getElem?_eq_getElem h]; rfl⟩;rw [← hX];refine goA ?_;refine AWP.loop (α:=Nat) (fun i=>[(7,.int .i64 (i:Int)),(6,.int .i64 (X.length:Int)),(5,.view 1 X (.own tk 9)),(0,.str s)]) (fun _=>st) (fun i=>i≤12∧∀ j w,j < i→words[j]?=some w→w≠s) (fun i=>12 - i) 0 ⟨Nat.zero_le _,fun j w h=>by omega⟩ (tl4 rfl rfl rfl rfl) (.refl _) ?_;rintro i ⟨hi,hall⟩;refine goA ?_;refine AWP.cond_dec rfl (fun h=>AWP.skip ?_) (fun h=>AWP.exit (blk_hit ?_))
 ·have hi':i < X.length:=by have:(i:Int) < (X.length:Int):=h; omega
  obtain ⟨w,hw,hr⟩:=hx i (by omega);refine goA ?_;refine AWP.cond_dec rfl (fun h=>?_) (fun hws=>AWP.skip ?_)
  ·have h':w=s:=h;subst h';refine goA ?_;refine AWP.ret (rets rfl (.refl _) (.refl _) ⟨?_,rfl⟩);have:w ∈ words:=List.mem_of_getElem? hw;simp [packA,absV,abs1,this]
  ·refine goA ?_;refine ⟨i + 1,⟨by omega,fun j w' hj hw'=>?_⟩,by omega,(tl4 rfl rfl rfl rfl),.refl _⟩;rcases Nat.lt_or_ge j i with h1|h1
   ·exact hall j w' h1 hw'
   ·have:j=i:=by omega
    subst this;rw [hw] at hw';cases hw';exact hws
 ·have hi':i=12:=by have:¬ (i:Int) < (X.length:Int):=h; omega
  subst hi';refine goA ?_;refine AWP.ret (rets rfl (.refl _) (.refl _) ⟨?_,rfl⟩);have:¬ s ∈ words:=fun h=>by
   obtain ⟨j,hj,he⟩:=List.getElem_of_mem h;exact hall j s hj (by rw [List.getElem?_eq_getElem hj,he]) rfl
  simp [packA,absV,abs1,this]

theorem signs2_chunk:chunk 1 3 (signs2.map AV.str)=signs2.map fun w=>[.str w]:=rfl
theorem signs1_chunk:chunk 1 21 (signs1.map fun c=>AV.int .u8 (c.toNat:Int))=signs1.map fun c=>[.int .u8 (c.toNat:Int)]:=rfl

theorem rsign_ok (s:List UInt8) (hs:s.length≤1000000) (at_:Nat) (ha:at_ < s.length) (st:St):ACalls Tryz.prog 84 [.str s,.int .i64 (at_:Int)] st (fun v st'=>v=.str (sign (s.drop at_))∧st'=st) (fun _ _=>False):=by
 refine ACalls.ofBody Tryz.func84 rfl Tryz.ntmps84 rfl ?_;have hd:s.drop at_=s[at_]::s.drop (at_ + 1):=List.drop_eq_getElem_cons ha
 have hc:s[at_]?=some s[at_]:=List.getElem?_eq_getElem ha;refine goA ?_;refine midp (¬ (s.drop at_).take 2 ∈ signs2) [(0,.str s),(1,.int .i64 (at_:Int))] st ?_ fun hnm=>?_
 ·refine AWP.cond_dec rfl (fun h=>?_) (fun h=>AWP.skip ?_)
  ·have h':at_ + 1 < s.length:=by have:((at_ + 1:Nat):Int) < (s.length:Int):=h; omega
   refine goA ?_;refine bs (cs:=signs2.map .str) rfl rfl rfl rfl rfl fun tk _=>?_;refine AOps.weaken (.refl _) (StLe.addTok _ (.refl _)) ?_;rw [signs2_chunk];obtain ⟨X,hX⟩:∃ X,X=signs2.map fun w=>[AV.str w]:=⟨_,rfl⟩;have hl:X.length=3:=by rw [hX]; rfl
   have hx:∀ i (h:i < 3),∃ w,signs2[i]?=some w∧X[i]?=some [.str w]:=fun i h=>⟨signs2[i]'h,List.getElem?_eq_getElem h,by rw [hX,List.getElem?_map,List.getElem?_eq_getElem h]; rfl⟩;rw [← hX];refine goA ?_;refine AWP.loop (α:=Nat) (fun i=>[(16,.int .i64 (i:Int)),(15,.int .i64 (X.length:Int)),(14,.view 1 X (.own tk 9)),(1,.int .i64 (at_:Int)),(0,.str s)]) (fun _=>st) (fun i=>i≤3∧∀ j w,j < i→signs2[j]?=some w→w≠(s.drop at_).take 2) (fun i=>3 - i) 0 ⟨Nat.zero_le _,fun j w h=>by omega⟩ (tl5 rfl rfl rfl rfl rfl) (.refl _) ?_;rintro i ⟨hi,hall⟩;refine goA ?_;refine AWP.cond_dec rfl (fun h=>AWP.skip ?_) (fun h=>AWP.exit (blk_hit ?_))
   ·have hi':i < X.length:=by have:(i:Int) < (X.length:Int):=h; omega
    obtain ⟨w,hw,hr⟩:=hx i (by omega);refine goA ?_;refine adn (b:=2) rfl rfl rfl (by omega) ?_;refine ss2 rfl rfl rfl rfl (by omega) (by omega) ?_;rw [show at_ + 2 - at_=2 by omega];refine goA ?_;refine AWP.cond_dec rfl (fun hws=>?_) (fun hws=>AWP.skip ?_)
    ·have hm:(s.drop at_).take 2 ∈ signs2:=by
      have h2:(s.drop at_).take 2=w:=hws;rw [h2];exact List.mem_of_getElem? hw
     refine goA ?_;refine AWP.ret (rets rfl (.refl _) (.refl _) ⟨?_,rfl⟩);have h2:(s.drop at_).take 2=w:=hws;unfold sign;rw [if_pos hm,h2];rfl
    ·refine goA ?_;refine ⟨i + 1,⟨by omega,fun j w' hj hw'=>?_⟩,by omega,(tl5 rfl rfl rfl rfl rfl),.refl _⟩;rcases Nat.lt_or_ge j i with h1|h1
     ·exact hall j w' h1 hw'
     ·have:j=i:=by omega
      subst this;rw [hw] at hw';cases hw';exact fun e=>hws e.symm
   ·have hi':i=3:=by have:¬ (i:Int) < (X.length:Int):=h; omega
    subst hi';refine ⟨tl2 rfl rfl,.refl _,fun hm=>?_⟩;obtain ⟨j,hj,he⟩:=List.getElem_of_mem hm;exact hall j _ hj (by rw [List.getElem?_eq_getElem hj,he]) rfl
  ·have h':¬ at_ + 1 < s.length:=by have:¬ ((at_ + 1:Nat):Int) < (s.length:Int):=h; omega
   refine ⟨tl2 rfl rfl,.refl _,fun hm=>?_⟩;have hl:((s.drop at_).take 2).length=1:=by rw [List.length_take,List.length_drop]; omega
   have h2:∀ w ∈ signs2,w.length=2:=by decide
   have:=h2 _ hm;omega
 ·refine goA ?_;refine bs (cs:=signs1.map fun c=>AV.int .u8 (c.toNat:Int)) rfl rfl rfl rfl rfl fun tk htk=>?_;rw [signs1_chunk]
  skip
  refine cvm rfl rfl (St.tok_addTok _ _) (by decide) ?_;refine AOps.weaken (.refl _) (StLe.untok_add htk) ?_;obtain ⟨X,hX⟩:∃ X,X=signs1.map fun c=>[AV.int .u8 (c.toNat:Int)]:=⟨_,rfl⟩;have hl:X.length=21:=by rw [hX]; rfl
  have hx:∀ i (h:i < 21),∃ c,signs1[i]?=some c∧X[i]?=some [.int .u8 (c.toNat:Int)]:=fun i h=>⟨signs1[i]'h,List.getElem?_eq_getElem h,by rw [hX,List.getElem?_map,List.getElem?_eq_getElem h]; rfl⟩;rw [← hX];generalize s[at_]=c at hd hc;refine goA ?_;refine AWP.loop (α:=Nat) (fun i=>[(32,.int .i64 (i:Int)),(31,.int .i64 (X.length:Int)),(30,.view 1 X .shared),(1,.int .i64 (at_:Int)),(0,.str s)]) (fun _=>st) (fun i=>i≤21∧∀ j w,j < i→signs1[j]?=some w→w≠c) (fun i=>21 - i) 0 ⟨Nat.zero_le _,fun j w h=>by omega⟩ (tl5 rfl rfl rfl rfl rfl) (.refl _) ?_;rintro i ⟨hi,hall⟩;refine goA ?_;refine AWP.cond_dec rfl (fun h=>AWP.skip ?_) (fun h=>AWP.exit (blk_hit ?_))
  ·have hi':i < X.length:=by have:(i:Int) < (X.length:Int):=h; omega
   obtain ⟨w,hw,hr⟩:=hx i (by omega);refine goA ?_;refine AWP.cond_dec rfl (fun hws=>?_) (fun hws=>AWP.skip ?_)
   ·have hcw:c=w:=by
     have:(c.toNat:Int)=(w.toNat:Int):=hws;exact UInt8.toNat_inj.1 (by omega)
    have hm:c ∈ signs1:=by
     rw [hcw];exact List.mem_of_getElem? hw
    refine goA ?_;refine ss2 rfl rfl rfl rfl (by omega) (by omega) ?_;rw [show at_ + 1 - at_=1 by omega];refine goA ?_;refine AWP.ret (rets rfl (.refl _) (.refl _) ⟨?_,rfl⟩);unfold sign;rw [if_neg hnm,hd];simp only [hm,if_true];rfl
   ·refine goA ?_;refine ⟨i + 1,⟨by omega,fun j w' hj hw'=>?_⟩,by omega,(tl5 rfl rfl rfl rfl rfl),.refl _⟩;rcases Nat.lt_or_ge j i with h1|h1
    ·exact hall j w' h1 hw'
    ·have:j=i:=by omega
     subst this;rw [hw] at hw';cases hw';rintro rfl;exact hws rfl
  ·have hi':i=21:=by have:¬ (i:Int) < (X.length:Int):=h; omega
   subst hi';refine goA ?_;refine AWP.ret (rets rfl (.refl _) (.refl _) ⟨?_,rfl⟩);have hm:¬ c ∈ signs1:=fun hm=>by
    obtain ⟨j,hj,he⟩:=List.getElem_of_mem hm;exact hall j _ hj (by rw [List.getElem?_eq_getElem hj,he]) rfl
   unfold sign;rw [if_neg hnm,hd];simp only [hm,if_false];rfl
def skipAt (s:List UInt8) (p line:Nat):Nat:=s.length - (skip false (s.drop p) line).1.length

set_option maxHeartbeats 2000000 in
theorem rskip_ok (s:List UInt8) (hs:s.length≤1000000) (p0 line0:Nat) (hp0:p0≤s.length) (hl0:line0≤1000000 + p0) (st:St) :
  ACalls Tryz.prog 47 [.str s,.int .i64 (p0:Int),.int .i64 (line0:Int)] st (fun v st'=>v=.tuple [.int .i64 (skipAt s p0 line0:Int),.int .i64 ((skip false (s.drop p0) line0).2:Int)]∧st'=st) (fun _ _=>False):=by
 refine ACalls.ofBody Tryz.func47 rfl Tryz.ntmps47 rfl ?_;refine goA ?_;refine AWP.loop (α:=Nat × Nat) (fun x=>[(2,.int .i64 (x.2:Int)),(1,.int .i64 (x.1:Int)),(0,.str s)]) (fun _=>st) (fun x=>x.1≤s.length∧x.2≤1000000 + x.1∧skip false (s.drop x.1) x.2=skip false (s.drop p0) line0) (fun x=>s.length - x.1) (p0,line0) ⟨hp0,hl0,rfl⟩ (tl3 rfl rfl rfl) (.refl _) ?_;rintro ⟨p,ln⟩ ⟨h1,h2,h3⟩;simp only at h1 h2 h3;refine AWP.weaken (T':=[(2,.int .i64 (ln:Int)),(1,.int .i64 (p:Int)),(0,.str s)]) (st':=st) (tl3 rfl rfl rfl) (.refl _) ?_;refine goA ?_;refine AWP.cond_dec rfl (fun h=>AWP.skip ?_) (fun h=>AWP.exit (blk_hit ?_))
 ·have hp:p < s.length:=by have:(p:Int) < (s.length:Int):=h; omega
  have hd:s.drop p=s[p]::s.drop (p + 1):=List.drop_eq_getElem_cons hp
  have hc:s[p]?=some s[p]:=List.getElem?_eq_getElem hp;generalize s[p]=c at hd hc;have out:skip false (s.drop p) ln=(s.drop p,ln)→AV.tuple [.int .i64 (p:Int),.int .i64 (ln:Int)]=.tuple [.int .i64 (skipAt s p0 line0:Int),.int .i64 ((skip false (s.drop p0) line0).2:Int)]:=by
   intro e;unfold skipAt;rw [← h3,e];simp only [List.length_drop];rw [show s.length - (s.length - p)=p by omega]
  by_cases h47:c=47
  ·subst h47;refine goA ?_;refine AOps.split 25 rfl (fun h5=>?_) (fun h5=>?_)
   ·have hp1:p + 1 < s.length:=by have:((p + 1:Nat):Int) < (s.length:Int):=h5; omega
    have hd2:s.drop (p + 1)=s[p + 1]::s.drop (p + 1 + 1):=List.drop_eq_getElem_cons hp1
    have hc2:s[p + 1]?=some s[p + 1]:=List.getElem?_eq_getElem hp1;generalize s[p + 1]=d at hd2 hc2;refine goA ?_;refine AWP.cond_dec rfl (fun h6=>?_) (fun h6=>AWP.skip ?_)
    ·have hd47:d=47:=by
      have:(d.toNat:Int)=47:=h6;exact UInt8.toNat_inj.1 (by show d.toNat=47; omega)
     subst hd47;have ht:skip true (s.drop p) ln=skip false (s.drop p0) line0:=by
      rw [← h3,hd,hd2];rfl
     refine goA ?_;refine AWP.loop (α:=Nat) (fun q=>[(2,.int .i64 (ln:Int)),(1,.int .i64 (q:Int)),(0,.str s)]) (fun _=>st) (fun q=>q≤s.length∧ln≤1000000 + q∧skip true (s.drop q) ln=skip false (s.drop p0) line0∧(q=p∨p < q)) (fun q=>s.length - q) p ⟨h1,h2,ht,.inl rfl⟩ (tl3 rfl rfl rfl) (.refl _) ?_;rintro q ⟨q1,q2,q3,q4⟩;refine goA ?_;refine AOps.split 36 rfl (fun h7=>?_) (fun h7=>?_)
     ·have hq:q < s.length:=by have:(q:Int) < (s.length:Int):=h7; omega
      have hdq:s.drop q=s[q]::s.drop (q + 1):=List.drop_eq_getElem_cons hq
      have hcq:s[q]?=some s[q]:=List.getElem?_eq_getElem hq;generalize s[q]=b at hdq hcq;have hqp:b=10→p < q:=by
       rintro rfl;rcases q4 with rfl|h
       ·rw [hd] at hdq;cases hdq
       ·exact h
      refine goA ?_;refine AWP.cond_dec rfl (fun h8=>AWP.skip ?_) (fun h8=>AWP.exit (blk_hit ?_))
      ·have hb:¬ b=10:=by
        rintro rfl;exact h8 rfl
       refine goA ?_;refine ⟨q + 1,⟨by omega,by omega,?_,.inr (by omega)⟩,by omega,(tl3 rfl rfl rfl),.refl _⟩;rw [← q3,hdq,skip_cons true b,if_neg hb];rfl
      ·have hb:b=10:=by
        have h9:¬ (b.toNat:Int)≠10:=h8;exact UInt8.toNat_inj.1 (by show b.toNat=10; omega)
       have hlt:=hqp hb;subst hb
       skip
       refine AWP.exit ?_;refine ⟨(q,ln),⟨q1,q2,?_⟩,by simp only; omega,(tl3 rfl rfl rfl),.refl _⟩;simp only;rw [← q3,hdq];rfl
     ·have hq:q=s.length:=by have:¬ (q:Int) < (s.length:Int):=h7; omega
      subst hq;refine goA ?_;refine AWP.cond_false rfl (AWP.exit (blk_hit ?_));refine AWP.exit ?_;refine ⟨(s.length,ln),⟨Nat.le_refl _,q2,?_⟩,by simp only; omega,(tl3 rfl rfl rfl),.refl _⟩;simp only;rw [← q3,List.drop_length];rfl
    ·have hd47:¬ d=47:=by
      rintro rfl;exact h6 rfl
     refine goA ?_;refine AWP.cond_true rfl ?_;refine goA ?_;refine AWP.ret (rets rfl (.refl _) (.refl _) ⟨out ?_,rfl⟩);rw [hd,hd2,skip_cons,if_neg (by decide),if_neg (by decide),if_neg (by rintro ⟨_,h9⟩; exact hd47 (by simpa using h9))];rfl
   ·have hp1:s.drop (p + 1)=[]:=List.drop_eq_nil_of_le (by have:¬ ((p + 1:Nat):Int) < (s.length:Int):=h5; omega);refine goA ?_;refine AWP.cond_false rfl (AWP.skip ?_);refine goA ?_;refine AWP.cond_true rfl ?_;refine goA ?_;refine AWP.ret (rets rfl (.refl _) (.refl _) ⟨out ?_,rfl⟩);rw [hd,hp1];rfl
  ·refine goA ?_;refine AOps.split 18 rfl (fun h5=>absurd (UInt8.toNat_inj.1 (show c.toNat=47 by have:(c.toNat:Int)=47:=h5; omega)) h47) (fun _=>?_);refine goA ?_;refine AWP.cond_false rfl (AWP.skip ?_);by_cases hbl:c=32∨c=9∨c=13
   ·have hsk:skip false (s.drop (p + 1)) ln=skip false (s.drop p0) line0:=by
     rw [← h3,hd,skip_cons,if_neg (by rcases hbl with rfl|rfl|rfl <;> decide),cond_false,if_pos hbl]
    rcases hbl with rfl|rfl|rfl
    ·refine goA ?_;refine AWP.cond_false rfl (AWP.skip ?_);refine goA ?_;refine AWP.cond_false rfl (AWP.skip ?_);refine goA ?_;exact ⟨(p + 1,ln),⟨hp,by simp only; omega,hsk⟩,by simp only; omega,(tl3 rfl rfl rfl),.refl _⟩
    ·refine goA ?_;refine AWP.cond_false rfl (AWP.skip ?_);refine goA ?_;refine AWP.cond_false rfl (AWP.skip ?_);refine goA ?_;exact ⟨(p + 1,ln),⟨hp,by simp only; omega,hsk⟩,by simp only; omega,(tl3 rfl rfl rfl),.refl _⟩
    ·refine goA ?_;refine AWP.cond_false rfl (AWP.skip ?_);refine goA ?_;refine AWP.cond_false rfl (AWP.skip ?_);refine goA ?_;exact ⟨(p + 1,ln),⟨hp,by simp only; omega,hsk⟩,by simp only; omega,(tl3 rfl rfl rfl),.refl _⟩
   ·by_cases h10:c=10
    ·have hsk:skip false (s.drop (p + 1)) (ln + 1)=skip false (s.drop p0) line0:=by
      rw [← h3,hd,skip_cons,if_pos h10]
     subst h10;refine goA ?_;refine AWP.cond_false rfl (AWP.skip ?_);refine goA ?_;refine AWP.cond_true rfl ?_;refine goA ?_;exact ⟨(p + 1,ln + 1),⟨hp,by simp only; omega,hsk⟩,by simp only; omega,(tl3 rfl rfl rfl),.refl _⟩
    ·have n32:¬ (c.toNat:Int)=32:=fun h=>hbl (.inl (UInt8.toNat_inj.1 (show c.toNat=32 by omega)))
     have n9:¬ (c.toNat:Int)=9:=fun h=>hbl (.inr (.inl (UInt8.toNat_inj.1 (show c.toNat=9 by omega))))
     have n13:¬ (c.toNat:Int)=13:=fun h=>hbl (.inr (.inr (UInt8.toNat_inj.1 (show c.toNat=13 by omega))))
     have n10:¬ (c.toNat:Int)=10:=fun h=>h10 (UInt8.toNat_inj.1 (show c.toNat=10 by omega));refine goA ?_;refine AOps.split 46 rfl (fun _=>?_) (fun h=>absurd n32 h);refine goA ?_;refine AOps.split 50 rfl (fun _=>?_) (fun h=>absurd n9 h);refine goA ?_;refine AOps.split 54 rfl (fun _=>?_) (fun h=>absurd n13 h);refine goA ?_;refine AWP.cond_dec rfl (fun _=>?_) (fun h=>absurd n10 h);refine goA ?_;refine AWP.ret (rets rfl (.refl _) (.refl _) ⟨out ?_,rfl⟩);rw [hd,skip_cons,if_neg h10,cond_false,if_neg hbl,if_neg (fun h=>h47 h.1)]
 ·have hp:p=s.length:=by have:¬ (p:Int) < (s.length:Int):=h; omega
  subst hp;rw [List.drop_length] at h3;refine goA ?_;refine AWP.ret (rets rfl (.refl _) (.refl _) ⟨?_,rfl⟩);unfold skipAt;rw [← h3];rfl
theorem wrap8 {a:Int} (h:0≤a∧a < 256):IntKind.u8.wrap a=a:=by
 simp only [IntKind.wrap,IntKind.bits,IntKind.signed];simp;omega

def roneV (at_:Nat):Except Nat (Tk × Nat)→AV
 | .error e=>.tuple [.agg (tokRow zTk),.int .i64 0,.int .i64 (e:Int)]
 | .ok (t,m)=>.tuple [.agg (tokRow t),.int .i64 ((at_ + m:Nat):Int),.int .i64 0]

set_option maxHeartbeats 8000000 in
theorem rone_ok (s:List UInt8) (hs:s.length≤1000000) (at_ line:Nat) (hat:at_ < s.length) (st:St) :
  ACalls Tryz.prog 48 [.str s,.int .i64 (at_:Int),.int .i64 (line:Int)] st (fun v st'=>v=roneV at_ (one (s.drop at_) line)∧st'=st) (fun _ _=>False):=by
 refine ACalls.ofBody Tryz.func48 rfl Tryz.ntmps48 rfl ?_;have hd:s.drop at_=s[at_]::s.drop (at_ + 1):=List.drop_eq_getElem_cons hat
 have hc:s[at_]?=some s[at_]:=List.getElem?_eq_getElem hat
 have hone:one (s.drop at_) line=bif isLet s[at_] then (let nm:=(s.drop at_).takeWhile isNP; if 12 < nm.length then .error 5 else .ok (⟨if nm ∈ words then 3 else 1,line,nm,0⟩,nm.length))
  else bif isDig s[at_] then (let ds:=(s.drop at_).takeWhile isDig; if 18 < ds.length then .error 5 else if (((s.drop at_).drop ds.length).head?.map isNP).getD false=true then .error 6 else .ok (⟨2,line,[],digits ds⟩,ds.length))
  else if sign (s.drop at_)=[] then .error 6 else .ok (⟨4,line,sign (s.drop at_),0⟩,(sign (s.drop at_)).length):=by
  rw [hd];rfl
 have hll:∀ c:UInt8,letA c.toNat=isLet c:=fun _=>rfl
 have hdd:∀ c:UInt8,digA c.toNat=isDig c:=fun _=>rfl;generalize s[at_]=c at hd hc hone;refine goC ?_;refine rg ?_;refine al rfl rfl fun o6 ho6=>?_;refine goA ?_;refine cle rfl rfl (rletter_ok c.toNat _) ?_;refine goA ?_;refine AWP.cond_bool rfl (fun hb=>?_) (fun hb=>AWP.skip ?_)
 ·have hcl:isLet c=true:=hb;rw [hcl,cond_true] at hone;have hnle:=(List.takeWhile_prefix isNP (l:=s.drop at_)).length_le;rw [List.length_drop] at hnle;have hnt:=fun p=>tw_len (q:=isNP) (l:=s.drop at_) (p:=p)
  have htk:(s.drop at_).take ((s.drop at_).takeWhile isNP).length=(s.drop at_).takeWhile isNP:=(List.prefix_iff_eq_take.1 (List.takeWhile_prefix isNP)).symm;generalize (s.drop at_).takeWhile isNP=nm at hone hnle hnt htk;refine AWP.seq ?_;refine midk [(9,.int .i64 (at_:Int)),(6,.cptr o6 4 0 0),(2,.int .i64 (line:Int)),(1,.int .i64 ((at_ + nm.length:Nat):Int)),(0,.str s)] (st.set o6 (.cells 64 4 [tokRow zTk])) ?_ ?_
  ·refine goA ?_;refine AWP.loop (α:=Nat) (fun q=>[(9,.int .i64 (at_:Int)),(6,.cptr o6 4 0 0),(2,.int .i64 (line:Int)),(1,.int .i64 (q:Int)),(0,.str s)]) (fun _=>st.set o6 (.cells 64 4 [tokRow zTk]))
    (fun q=>at_≤q∧q≤s.length∧∀ j,j < q - at_→∃ b,(s.drop at_)[j]?=some b∧isNP b=true) (fun q=>s.length - q) at_ ⟨Nat.le_refl _,by omega,fun j h=>by omega⟩ (tl5 rfl rfl rfl rfl rfl) (.refl _) ?_
   rintro q ⟨q1,q2,q3⟩;refine goA ?_;refine AOps.split 22 rfl (fun h7=>?_) (fun h7=>?_)
   ·have hq:q < s.length:=by have:(q:Int) < (s.length:Int):=h7; omega
    have hcq:s[q]?=some s[q]:=List.getElem?_eq_getElem hq
    have hcd:(s.drop at_)[q - at_]?=some s[q]:=by rw [List.getElem?_drop,show at_ + (q - at_)=q by omega]; exact hcq
    generalize s[q]=b at hcq hcd;have next:isNP b=true→∀ j,j < q + 1 - at_→∃ b,(s.drop at_)[j]?=some b∧isNP b=true:=by
     intro hb j hj;rcases Nat.lt_or_ge j (q - at_) with h1|h1
     ·exact q3 j h1
     ·have:j=q - at_:=by omega
      subst this;exact ⟨b,hcd,hb⟩
    refine goA ?_;refine cle rfl rfl (rletter_ok b.toNat _) ?_;refine goA ?_;refine AOps.splitB 27 rfl (fun hl=>?_) (fun hl=>?_)
    ·have hl':isLet b=true:=hl;refine goA ?_;refine AWP.cond_true rfl (AWP.skip ?_);refine goA ?_;exact ⟨q + 1,⟨by omega,by omega,next (by simp [isNP,hl'])⟩,by omega,(tl5 rfl rfl rfl rfl rfl),.refl _⟩
    ·have hl':isLet b=false:=hl;refine goA ?_;refine cle rfl rfl (rdigit_ok b.toNat _) ?_;refine goA ?_;refine AWP.cond_bool rfl (fun hg=>AWP.skip ?_) (fun hg=>AWP.exit (blk_hit ?_))
     ·have hg':isDig b=true:=hg;refine goA ?_;exact ⟨q + 1,⟨by omega,by omega,next (by simp [isNP,hg'])⟩,by omega,(tl5 rfl rfl rfl rfl rfl),.refl _⟩
     ·have hg':isDig b=false:=(by simpa using hg:digA b.toNat=false)
      have:=hnt (q - at_) q3 (.inl ⟨b,hcd,by simp [isNP,hl',hg']⟩) (by rw [List.length_drop]; omega)
      have hqe:q=at_ + nm.length:=by omega
      subst hqe;exact ⟨(tl5 rfl rfl rfl rfl rfl),.refl _⟩
   ·have hq:q=s.length:=by have:¬ (q:Int) < (s.length:Int):=h7; omega
    have:=hnt (q - at_) q3 (.inr (by rw [List.length_drop]; omega)) (by rw [List.length_drop]; omega)
    have hqe:q=at_ + nm.length:=by omega
    subst hqe;refine goA ?_;refine AWP.cond_false rfl (AWP.exit (blk_hit ?_));exact ⟨(tl5 rfl rfl rfl rfl rfl),.refl _⟩
  ·refine goA ?_;refine Go.AM.sb rfl rfl rfl (by omega) ?_;rw [show ((at_ + nm.length:Nat):Int) - (at_:Int)=(nm.length:Int) by omega];refine goA ?_;refine AWP.cond_dec rfl (fun h2=>?_) (fun h2=>AWP.skip ?_)
   ·have h2':12 < nm.length:=by have:(12:Int) < (nm.length:Int):=h2; omega
    simp only [if_pos h2'] at hone;rw [hone];refine goC ?_;refine rg ?_;refine bds (cs:=tokRow zTk) rfl rfl rfl rfl ?_;refine soV rfl rfl rfl rfl rfl rfl ?_;refine goA ?_;exact AWP.ret (rets (resCW rfl (St.obj_set _ _ _) rfl rfl rfl rfl) (.refl _) (StLe.new ho6 (.refl _)) ⟨rfl,rfl⟩)
   ·have h2':¬ 12 < nm.length:=by have:¬ (12:Int) < (nm.length:Int):=h2; omega
    simp only [if_neg h2'] at hone;rw [hone];refine goA ?_;refine ss2 rfl rfl rfl rfl (by omega) (by omega) ?_;rw [Nat.add_sub_cancel_left,htk];refine goA ?_;refine cle rfl rfl (rres_ok nm _) ?_;refine goA ?_;refine AWP.cond_dec rfl (fun h3=>?_) (fun h3=>AWP.skip ?_)
    ·rw [if_pos h3];refine goA ?_;refine bds (cs:=tokRow ⟨3,line,nm,0⟩) rfl rfl rfl rfl ?_;refine goA ?_;refine soV rfl rfl rfl rfl rfl rfl ?_;refine goA ?_;exact AWP.ret (rets (resCW rfl (St.obj_set _ _ _) rfl rfl rfl rfl) (.refl _) (StLe.new ho6 (.refl _)) ⟨rfl,rfl⟩)
    ·rw [if_neg h3];refine goA ?_;refine bds (cs:=tokRow ⟨1,line,nm,0⟩) rfl rfl rfl rfl ?_;refine goA ?_;refine soV rfl rfl rfl rfl rfl rfl ?_;refine goA ?_;exact AWP.ret (rets (resCW rfl (St.obj_set _ _ _) rfl rfl rfl rfl) (.refl _) (StLe.new ho6 (.refl _)) ⟨rfl,rfl⟩)
 ·have hcl:isLet c=false:=(by simpa using hb:letA c.toNat=false);rw [hcl,cond_false] at hone;refine goA ?_;refine cle rfl rfl (rdigit_ok c.toNat _) ?_;refine goA ?_;refine AWP.cond_bool rfl (fun hb2=>?_) (fun hb2=>AWP.skip ?_)
  ·have hcd:isDig c=true:=hb2;rw [hcd,cond_true] at hone;have hnle:=(List.takeWhile_prefix isDig (l:=s.drop at_)).length_le;rw [List.length_drop] at hnle;have htk:(s.drop at_).take ((s.drop at_).takeWhile isDig).length=(s.drop at_).takeWhile isDig:=(List.prefix_iff_eq_take.1 (List.takeWhile_prefix isDig)).symm
   have hall:∀ x ∈ (s.drop at_).takeWhile isDig,isDig x=true:=fun x hx=>mem_tw hx
   have hstop:∀ b,s[at_ + ((s.drop at_).takeWhile isDig).length]?=some b→isDig b=false:=by
    intro b hb;have h1:((s.drop at_).drop ((s.drop at_).takeWhile isDig).length).head?=some b:=by rw [List.drop_drop,List.head?_drop]; exact hb
    have h2:(s.drop at_).dropWhile isDig=(s.drop at_).drop ((s.drop at_).takeWhile isDig).length:=by
     have h3:=List.takeWhile_append_dropWhile (p:=isDig) (l:=s.drop at_)
     conv=>rhs; arg 2; rw [← h3]
     rw [List.drop_left]
    rw [← h2] at h1;have h4:=List.head?_dropWhile_not isDig (s.drop at_);rw [h1] at h4
    simpa using h4
   have hhd:(((s.drop at_).drop ((s.drop at_).takeWhile isDig).length).head?.map isNP).getD false=((s[at_ + ((s.drop at_).takeWhile isDig).length]?).map isLet).getD false:=by
    rw [List.drop_drop,List.head?_drop];cases hb:s[at_ + ((s.drop at_).takeWhile isDig).length]? with
    | none=>rfl
    | some b=>simp [isNP,hstop b hb]
   simp only [hhd] at hone;clear hhd;generalize (s.drop at_).takeWhile isDig=ds at hone hnle htk hall hstop;refine AWP.seq ?_;refine rg ?_;refine goB ?_;refine nl ?_;refine AWP.seq ?_;refine midk [(11,.int .i64 ((digits (ds.take (min ds.length 18)):Nat):Int)),(9,.int .i64 (at_:Int)),(6,.cptr o6 4 0 0),(2,.int .i64 (line:Int)),(1,.int .i64 ((at_ + ds.length:Nat):Int)),(0,.str s)] (st.set o6 (.cells 64 4 [tokRow zTk])) ?_ ?_
   ·refine goA ?_;refine AWP.loop (α:=Nat) (fun q=>[(11,.int .i64 ((digits (ds.take (min (q - at_) 18)):Nat):Int)),(9,.int .i64 (at_:Int)),(6,.cptr o6 4 0 0),(2,.int .i64 (line:Int)),(1,.int .i64 (q:Int)),(0,.str s)]) (fun _=>st.set o6 (.cells 64 4 [tokRow zTk]))
     (fun q=>at_≤q∧q≤at_ + ds.length) (fun q=>s.length - q) at_ ⟨Nat.le_refl _,by omega⟩ ?_ (.refl _) ?_
    ·rw [Nat.sub_self];exact (tl6 rfl rfl rfl rfl rfl rfl)
    rintro q ⟨q1,q2⟩;refine goA ?_;refine AOps.split 63 rfl (fun h7=>?_) (fun h7=>?_)
    ·have hq:q < s.length:=by have:(q:Int) < (s.length:Int):=h7; omega
     have hcq:s[q]?=some s[q]:=List.getElem?_eq_getElem hq;rcases Nat.lt_or_ge (q - at_) ds.length with hk|hk
     ·have hdq:ds[q - at_]?=some s[q]:=by
       conv=>lhs; rw [← htk]
       rw [List.getElem?_take_of_lt hk,List.getElem?_drop,show at_ + (q - at_)=q by omega];exact hcq
      generalize s[q]=b at hcq hdq;have hb:=hall b (List.mem_of_getElem? hdq)
      have hb':=hb;simp only [isDig,Bool.and_eq_true,decide_eq_true_eq] at hb';refine goA ?_;refine cle rfl rfl (rdigit_ok b.toNat _) ?_;refine goA ?_;refine AWP.cond_bool rfl (fun _=>AWP.skip ?_) (fun hg=>absurd (hb:digA b.toNat=true) (by rw [show isDig b=false from (by simpa using hg:digA b.toNat=false)]; decide));refine goA ?_;refine Go.AM.sb rfl rfl rfl (by omega) ?_;rw [show (q:Int) - (at_:Int)=((q - at_:Nat):Int) by omega];refine goA ?_;refine AWP.cond_dec rfl (fun h18=>?_) (fun h18=>AWP.skip ?_)
      ·have h18':q - at_ < 18:=by have:((q - at_:Nat):Int) < 18:=h18; omega
       have hm:min (q - at_) 18=q - at_:=by omega
       have hm1:min (q + 1 - at_) 18=q - at_ + 1:=by omega
       have hsn:digits (ds.take (q - at_ + 1))=digits (ds.take (q - at_)) * 10 + (b.toNat - 48):=by
        rw [List.take_add_one,hdq,Option.toList_some,digits_snoc]
       have hlt:digits (ds.take (q - at_)) < 10 ^ (q - at_):=digits_lt _ _ (by rw [List.length_take]; omega) fun c hc=>hall c (List.mem_of_mem_take hc)
       have hb2:10 ^ (q - at_)≤10 ^ 17:=Nat.pow_le_pow_right (by omega) (by omega);rw [hm];generalize digits (ds.take (q - at_))=v at hsn hlt;refine goA ?_;refine mlk (c:=((10 * v:Nat):Int)) rfl rfl rfl (by rw [wrap64 (by omega)]; omega) ?_;refine goA ?_;refine sbk (c:=((b.toNat - 48:Nat):Int)) rfl rfl rfl (by rw [wrap8 (by omega)]; omega) ?_;refine cv (c:=((b.toNat - 48:Nat):Int)) rfl rfl (wrap64 (by omega)) ?_;refine goA ?_;refine ⟨q + 1,⟨by omega,by omega⟩,by omega,?_,.refl _⟩;rw [hm1,hsn,Nat.mul_comm v 10];exact (tl6 rfl rfl rfl rfl rfl rfl)
      ·have h18':¬ q - at_ < 18:=by have:¬ ((q - at_:Nat):Int) < 18:=h18; omega
       have hm:min (q + 1 - at_) 18=min (q - at_) 18:=by omega
       refine goA ?_;refine ⟨q + 1,⟨by omega,by omega⟩,by omega,?_,.refl _⟩;rw [hm];exact (tl6 rfl rfl rfl rfl rfl rfl)
     ·have hqe:q=at_ + ds.length:=by omega
      have hnd:=hstop s[q] (by rw [← hqe]; exact hcq);generalize s[q]=b at hcq hnd;refine goA ?_;refine cle rfl rfl (rdigit_ok b.toNat _) ?_;refine goA ?_;refine AWP.cond_bool rfl (fun hg=>absurd (show isDig b=true from hg) (by rw [hnd]; decide)) (fun _=>AWP.exit (blk_hit ?_));subst hqe;rw [Nat.add_sub_cancel_left];exact ⟨(tl6 rfl rfl rfl rfl rfl rfl),.refl _⟩
    ·have hq:q=s.length:=by have:¬ (q:Int) < (s.length:Int):=h7; omega
     have hqe:q=at_ + ds.length:=by omega
     subst hqe;rw [Nat.add_sub_cancel_left];refine goA ?_;refine AWP.cond_false rfl (AWP.exit (blk_hit ?_));exact ⟨(tl6 rfl rfl rfl rfl rfl rfl),.refl _⟩
   ·refine goA ?_;refine Go.AM.sb rfl rfl rfl (by omega) ?_;rw [show ((at_ + ds.length:Nat):Int) - (at_:Int)=(ds.length:Int) by omega];refine goA ?_;refine AWP.cond_dec rfl (fun h2=>?_) (fun h2=>AWP.skip ?_)
    ·have h2':18 < ds.length:=by have:(18:Int) < (ds.length:Int):=h2; omega
     simp only [if_pos h2'] at hone;rw [hone];refine goC ?_;refine rg ?_;refine bds (cs:=tokRow zTk) rfl rfl rfl rfl ?_;refine soV rfl rfl rfl rfl rfl rfl ?_;refine goA ?_;exact AWP.ret (rets (resCW rfl (St.obj_set _ _ _) rfl rfl rfl rfl) (.refl _) (StLe.new ho6 (.refl _)) ⟨rfl,rfl⟩)
    ·have h2':¬ 18 < ds.length:=by have:¬ (18:Int) < (ds.length:Int):=h2; omega
     simp only [if_neg h2'] at hone;have hm:ds.take (min ds.length 18)=ds:=by rw [show min ds.length 18=ds.length by omega,List.take_length]
     rw [hm];refine goA ?_;refine AOps.split 92 rfl (fun h7=>?_) (fun h7=>?_)
     ·have hq:at_ + ds.length < s.length:=by have:((at_ + ds.length:Nat):Int) < (s.length:Int):=h7; omega
      have hcq:s[at_ + ds.length]?=some s[at_ + ds.length]:=List.getElem?_eq_getElem hq;generalize s[at_ + ds.length]=b at hcq;rw [hcq] at hone;simp only [Option.map_some,Option.getD_some] at hone;refine goA ?_;refine cle rfl rfl (rletter_ok b.toNat _) ?_;refine goA ?_;refine AWP.cond_bool rfl (fun hg=>?_) (fun hg=>AWP.skip ?_)
      ·have hg':isLet b=true:=hg;rw [if_pos hg'] at hone;rw [hone];refine goC ?_;refine rg ?_;refine bds (cs:=tokRow zTk) rfl rfl rfl rfl ?_;refine soV rfl rfl rfl rfl rfl rfl ?_;refine goA ?_;exact AWP.ret (rets (resCW rfl (St.obj_set _ _ _) rfl rfl rfl rfl) (.refl _) (StLe.new ho6 (.refl _)) ⟨rfl,rfl⟩)
      ·have hg':¬ isLet b=true:=by rw [show isLet b=false from (by simpa using hg:letA b.toNat=false)]; decide
       rw [if_neg hg'] at hone;rw [hone];refine goA ?_;refine bds (cs:=tokRow ⟨2,line,[],digits ds⟩) rfl rfl rfl rfl ?_;refine goA ?_;refine soV rfl rfl rfl rfl rfl rfl ?_;refine goA ?_;exact AWP.ret (rets (resCW rfl (St.obj_set _ _ _) rfl rfl rfl rfl) (.refl _) (StLe.new ho6 (.refl _)) ⟨rfl,rfl⟩)
     ·have hn:s[at_ + ds.length]?=none:=List.getElem?_eq_none (by have:¬ ((at_ + ds.length:Nat):Int) < (s.length:Int):=h7; omega);rw [hn] at hone;simp only [Option.map_none,Option.getD_none] at hone;rw [if_neg (by decide)] at hone;rw [hone];refine goA ?_;refine AWP.cond_false rfl (AWP.skip ?_);refine goA ?_;refine bds (cs:=tokRow ⟨2,line,[],digits ds⟩) rfl rfl rfl rfl ?_;refine goA ?_;refine soV rfl rfl rfl rfl rfl rfl ?_;refine goA ?_;exact AWP.ret (rets (resCW rfl (St.obj_set _ _ _) rfl rfl rfl rfl) (.refl _) (StLe.new ho6 (.refl _)) ⟨rfl,rfl⟩)
  ·have hcd:isDig c=false:=(by simpa using hb2:digA c.toNat=false);rw [hcd,cond_false] at hone;refine goA ?_;refine cle rfl rfl (rsign_ok s hs at_ hat _) ?_;have hsl:=sign_le (s.drop at_);rw [List.length_drop] at hsl;generalize sign (s.drop at_)=sg at hone hsl;refine goA ?_;refine AWP.cond_dec rfl (fun h3=>?_) (fun h3=>AWP.skip ?_)
   ·have h3':sg=[]:=h3;rw [if_pos h3'] at hone;rw [hone];refine goC ?_;refine rg ?_;refine bds (cs:=tokRow zTk) rfl rfl rfl rfl ?_;refine soV rfl rfl rfl rfl rfl rfl ?_;refine goA ?_;exact AWP.ret (rets (resCW rfl (St.obj_set _ _ _) rfl rfl rfl rfl) (.refl _) (StLe.new ho6 (.refl _)) ⟨rfl,rfl⟩)
   ·have h3':¬ sg=[]:=h3;rw [if_neg h3'] at hone;rw [hone];refine goA ?_;refine bds (cs:=tokRow ⟨4,line,sg,0⟩) rfl rfl rfl rfl ?_;refine goA ?_;refine soV rfl rfl rfl rfl rfl rfl ?_;refine goA ?_;exact AWP.ret (rets (resCW rfl (St.obj_set _ _ _) rfl rfl rfl rfl) (.refl _) (StLe.new ho6 (.refl _)) ⟨rfl,rfl⟩)
end Go.Proofs
namespace Go.Proofs
open Go.AM
attribute [local irreducible] AWP AOps ACalls
set_option linter.unusedSimpArgs false
theorem dig_nat (u:Nat):∀ (_:u < 9223372036854775808) (st:St),ACalls Tryz.prog 62 [.int .i64 (u:Int)] st (fun v st'=>v=.str (Lib.decDigits u)∧st'=st) (fun _ _=>False):=by
 induction u using Nat.strongRecOn with
 | _ u ih =>
  intro hu st;refine ACalls.ofBody Tryz.func62 rfl Tryz.ntmps62 rfl ?_;refine goD ?_;refine AWP.cond_dec rfl (fun h=>?_) (fun h=>AWP.skip ?_)
  ·have h':u < 10:=by have h0:(u:Int) < 10:=h; omega
   refine goD ?_;refine Go.AM.ad rfl rfl rfl (by omega) ?_;refine cv (c:=((UInt8.ofNat (48 + u)).toNat:Int)) rfl rfl ?_ ?_
   ·have e:(UInt8.ofNat (48 + u)).toNat=48 + u:=by rw [UInt8.toNat_ofNat']; omega
    rw [e,wrap8 (by omega)];omega
   refine goD ?_;refine cbs (l:=[UInt8.ofNat (48 + u)]) rfl rfl ?_;refine goD ?_;exact AWP.ret (rets rfl (.refl _) (.refl _) ⟨by rw [Lib.decDigits_one h']; rfl,rfl⟩)
  ·have h':¬ u < 10:=by have h0:¬ (u:Int) < 10:=h; omega
   have hd:=dlen19 (u:=u / 10) (by omega)
   have hm:=dlen19 (u:=u % 10) (by omega)
   have e1:(u:Int).tdiv 10=((u / 10:Nat):Int):=by rw [Int.tdiv_eq_ediv_of_nonneg (by omega)]; omega
   have e2:(u:Int).tmod 10=((u % 10:Nat):Int):=by rw [Int.tmod_eq_emod_of_nonneg (by omega)]; omega
   refine goD ?_;refine qu rfl rfl rfl (by decide) (by rw [e1]; omega) ?_;rw [e1];refine goE ?_;refine cle rfl rfl (ih (u / 10) (by omega) (by omega) _) ?_;refine goE ?_;refine rm rfl rfl rfl (by decide) ?_;rw [e2];refine goE ?_;refine cle rfl rfl (ih (u % 10) (by omega) (by omega) _) ?_;refine sad rfl rfl rfl (by omega) ?_;refine goD ?_;refine AWP.ret (rets rfl (.refl _) (.refl _) ⟨?_,rfl⟩);rw [Lib.decDigits_one (i:=u % 10) (by omega)]
   conv=>rhs; rw [Lib.decDigits,dif_neg h']
   rfl
theorem dig_ok (n:Int) (hn:w64 n) (st:St):ACalls Tryz.prog 62 [.int .i64 n] st (fun v st'=>v=.str (Lib.itoa n)∧st'=st) (fun _ _=>False):=by
 by_cases h0:n < 0
 ·refine ACalls.ofBody Tryz.func62 rfl Tryz.ntmps62 rfl ?_;unfold w64 at hn;refine goD ?_;refine AWP.cond_dec rfl (fun h=>?_) (fun h=>AWP.skip ?_)
  ·have h':n=-9223372036854775808:=h;refine goD ?_;refine AWP.ret (rets rfl (.refl _) (.refl _) ⟨?_,rfl⟩);subst h';have e:Lib.itoa (-9223372036854775808)=[45,57,50,50,51,51,55,50,48,51,54,56,53,52,55,55,53,56,48,56]:=by
    unfold Lib.itoa;rw [if_pos (by decide),show Int.natAbs (-9223372036854775808)=9223372036854775808 by decide];simp [Lib.decDigits]
   rw [e];rfl
  ·have h':¬ n=-9223372036854775808:=h;obtain ⟨u,hu⟩:∃ u:Nat,(0:Int) - n=(u:Int):=⟨(0 - n).toNat,by omega⟩;have hd:=dlen19 (u:=u) (by omega);refine goD ?_;refine Go.AM.sb rfl rfl rfl (by omega) ?_;rw [hu];refine goE ?_;refine cle rfl rfl (dig_nat u (by omega) _) ?_;refine sad rfl rfl rfl (by simp; omega) ?_;refine goD ?_;refine AWP.ret (rets rfl (.refl _) (.refl _) ⟨?_,rfl⟩);unfold Lib.itoa;rw [if_pos h0,show n.natAbs=u by omega];rfl
 ·obtain ⟨u,rfl⟩:∃ u:Nat,n=(u:Int):=⟨n.toNat,by omega⟩;rw [itoa_nat];exact dig_nat u (by have:=hn.2; omega) st
end Go.Proofs
namespace Go.Proofs
open Go.AM
attribute [local irreducible] AWP AOps ACalls AAny
set_option linter.unusedSimpArgs false
def rk (op:Int):Int:=if 14≤op∧op≤17 then 1 else if 11≤op∧op≤13 then 2 else if op=6∨op=7 then 3 else if 8≤op∧op≤10 then 4 else if op=4∨op=5 then 5 else 6
set_option maxHeartbeats 4000000 in
theorem rank_ok (op:Int) (st:St):ACalls Tryz.prog 93 [.int .i64 op] st (fun v st'=>v=.int .i64 (rk op)∧st'=st) (fun _ _=>False):=by
 refine ACalls.ofBody Tryz.func93 rfl Tryz.ntmps93 rfl ?_;by_cases h:op < 4∨17 < op
 ·have e:rk op=6:=by
   unfold rk;rw [if_neg (by omega),if_neg (by omega),if_neg (by omega),if_neg (by omega),if_neg (by omega)]
  rw [e];refine goD ?_;exact AWP.ret (rets rfl (.refl _) (.refl _) ⟨rfl,rfl⟩)
 ·have h':op=4∨op=5∨op=6∨op=7∨op=8∨op=9∨op=10∨op=11∨op=12∨op=13∨op=14∨op=15∨op=16∨op=17:=by omega
  clear h;rcases h' with rfl|rfl|rfl|rfl|rfl|rfl|rfl|rfl|rfl|rfl|rfl|rfl|rfl|rfl <;>
  ·refine goD ?_;exact AWP.ret (rets rfl (.refl _) (.refl _) ⟨rfl,rfl⟩)
instance (op:Int):PureFn Tryz.prog 93 [.int .i64 op] (.int .i64 (rk op)) where
 out st:=rank_ok op st
def RX (x:Xp):Prop:=∀ (least:Int) (st:St),ACalls Tryz.prog 61 [.agg (xrow x),.int .i64 least] st (fun v st'=>v=.str (pby (decide ((lvX x:Int) < least)) (xby x))∧st'=st) (fun _ _=>False)
inductive RowOf:Xp→Int→Int→List UInt8→List UInt8→List (List AV)→Prop where
 | lit (n:Nat):RowOf (.lit n) 0 n [] [] []
 | var (s:List UInt8):RowOf (.var s) 1 0 s [] []
 | fld (s f:List UInt8):RowOf (.fld s f) 2 0 s f []
 | elt (s:List UInt8) (a:Xp):RowOf (.elt s a) 3 0 s [] [xrow a]
 | neg (op:Int) (h:op=4) (a:Xp):RowOf (.una 4 a) op 0 [] [] [xrow a]
 | inv (op:Int) (h:op=5) (a:Xp):RowOf (.una 5 a) op 0 [] [] [xrow a]
 | bin (op:Nat) (a b:Xp):RowOf (.bin op a b) op 0 [] [] [xrow a,xrow b]
theorem yrowOf (x:Xp) (hw:Wop x):∃ op num name field args,xrow x=exRow op num name field (.view 6 args .shared)∧RowOf x op num name field args∧rk op=(lvX x:Int):=by
 cases x with
 | lit n=>exact ⟨_,_,_,_,_,rfl,.lit n,rfl⟩
 | var s=>exact ⟨_,_,_,_,_,rfl,.var s,rfl⟩
 | fld s f=>exact ⟨_,_,_,_,_,rfl,.fld s f,rfl⟩
 | elt s a=>exact ⟨_,_,_,_,_,rfl,.elt s a,rfl⟩
 | una op a =>
  rcases hw.1 with rfl|rfl
  ·exact ⟨_,_,_,_,_,rfl,.neg 4 rfl a,rfl⟩
  ·exact ⟨_,_,_,_,_,rfl,.inv 5 rfl a,rfl⟩
 | bin op a b =>
  refine ⟨_,_,_,_,_,rfl,.bin op a b,?_⟩;have:=hw.1
  have:=hw.2.1
  have:op=6∨op=7∨op=8∨op=9∨op=10∨op=11∨op=12∨op=13∨op=14∨op=15∨op=16∨op=17:=by omega
  rcases this with rfl|rfl|rfl|rfl|rfl|rfl|rfl|rfl|rfl|rfl|rfl|rfl <;> rfl
def ysgn12:List AV:=[.str [43],.str [45],.str [42],.str [47],.str [37],.str [38],.str [124],.str [94],.str [60],.str [60,61],.str [61,61],.str [33,61]]
theorem ysgn_get (k:Nat) (h:k < 12):(chunk (0 + 1) 12 ysgn12)[k]?=some [.str (sgO (6 + k))]:=by
 have:k=0∨k=1∨k=2∨k=3∨k=4∨k=5∨k=6∨k=7∨k=8∨k=9∨k=10∨k=11:=by omega
 rcases this with rfl|rfl|rfl|rfl|rfl|rfl|rfl|rfl|rfl|rfl|rfl|rfl <;> rfl
theorem lvX_le {x:Xp} (hw:Wop x):1≤lvX x∧lvX x≤6:=by
 refine ⟨lvX_pos hw,?_⟩;cases x with
 | bin op a b=>have:=(sgO_bin op hw.1 hw.2.1).2.2.1; show lvO op≤6; omega
 | _=>simp [lvX]
theorem ysgO_len {op:Nat} (h6:6≤op) (h17:op≤17):(sgO op).length≤2:=by
 have:op=6∨op=7∨op=8∨op=9∨op=10∨op=11∨op=12∨op=13∨op=14∨op=15∨op=16∨op=17:=by omega
 rcases this with rfl|rfl|rfl|rfl|rfl|rfl|rfl|rfl|rfl|rfl|rfl|rfl <;> decide
set_option maxHeartbeats 4000000 in
theorem yexpr_step (x:Xp) (hw:Wop x) (hn:WN x) (hb:(xby x).length≤1000000000) (ih:∀ a ∈ (match x with|.elt _ a=>[a]|.una _ a=>[a]|.bin _ a b=>[a,b]|_=>[]),RX a):RX x:=by
 intro least st;obtain ⟨op,num,name,field,args,hx,hr,hk⟩:=yrowOf x hw;have hlv:=lvX_le hw;rw [hx];refine ACalls.ofBody Tryz.func61 rfl Tryz.ntmps61 rfl ?_;refine goD ?_;rw [hk];refine AWP.cutK (α:=List UInt8) (fun w=>[(6,.str w),(5,.int .i64 (lvX x:Int)),(1,.int .i64 least)]) (fun _=>st) (fun w=>w=xby x) ?_ ?_
 ·cases hr with
  | lit n =>
   have hn:n < 1000000000000000000:=hn
   have hd:Lib.itoa (n:Int)=dec n:=itoa_dec (by omega);refine goD ?_;refine cle rfl rfl (dig_ok n (by unfold w64; omega) st) ?_;rw [hd];refine goD ?_;exact ⟨_,rfl,(tl3 rfl rfl rfl),.refl _⟩
  | var s =>
   refine goD ?_;exact ⟨_,rfl,(tl3 rfl rfl rfl),.refl _⟩
  | fld s f =>
   have hb:(name++46::field).length≤1000000000:=hb;rw [List.length_append,List.length_cons] at hb;refine goD ?_;refine sad rfl rfl rfl (by simp only [List.length_cons,List.length_nil]; omega) ?_;refine goE ?_;refine sad rfl rfl rfl LL ?_;refine goD ?_;exact ⟨_,by simp [xby],(tl3 rfl rfl rfl),.refl _⟩
  | elt _ a =>
   have hA:=ih a (List.mem_cons_self ..)
   have hla:=(lvX_le (x:=a) hw).1;obtain ⟨oa,na,ma,fa,ra,ea⟩:=xrow_ex a;have hb:(name++91::(xby a++[93])).length≤1000000000:=hb;simp only [List.length_append,List.length_cons,List.length_nil] at hb;have hA1:=hA 1;rw [decide_eq_false (show ¬ (lvX a:Int) < 1 by omega),pby,if_neg (by decide)] at hA1;clear hA;rw [ea] at hA1 ⊢;have e0:xby (.elt name a)=name++[91]++xby a++[93]:=by simp [xby]
   rw [e0];generalize xby a=t at *;refine goD ?_;refine AWP.draw rfl 10 10 (fun _ _=>False) rfl ?_;refine goF ?_;refine dq rfl rfl rfl (fun st1 hle=>sad rfl rfl rfl (by simp only [List.length_cons,List.length_nil]; omega) (nl ⟨_,rfl,rfl,rfl⟩)) ?_;refine goF ?_;refine dq rfl rfl rfl (fun st1 hle=>cle rfl rfl (hA1 st1) (nl ⟨_,rfl,rfl,rfl⟩)) ?_;refine dq rfl rfl rfl (fun st1 hle=>sad rfl rfl rfl LL (nl ⟨_,rfl,rfl,rfl⟩)) ?_;refine dq rfl rfl rfl (fun st1 hle=>sad rfl rfl rfl LL (nl ⟨_,rfl,rfl,rfl⟩)) ?_;refine dn ⟨fun _=>?_,fun h=>absurd h (by decide)⟩;refine goD ?_;exact ⟨_,rfl,(tl3 rfl rfl rfl),.refl _⟩
  | neg _ hop a =>
   have hA:=ih a (List.mem_cons_self ..);obtain ⟨oa,na,ma,fa,ra,ea⟩:=xrow_ex a;have pl:=pby_len (decide (lvX a < 5)) (xby a)
   have hb:((if 4=4 then 45 else 33:UInt8)::pby (decide (lvX a < 5)) (xby a)).length≤1000000000:=hb;rw [List.length_cons] at hb;have h5:(lvX (.una 4 a):Int)=5:=rfl
   have hA5:=hA 5;rw [show decide ((lvX a:Int) < 5)=decide (lvX a < 5) from decide_eq_decide.2 (by omega)] at hA5;unfold RX at hA;rw [ea] at hA5 ⊢;clear hA;have e0:xby (.una 4 a)=[45]++pby (decide (lvX a < 5)) (xby a):=rfl;rw [e0];generalize pby (decide (lvX a < 5)) (xby a)=t at *;refine goD ?_;refine AWP.draw rfl 12 12 (fun _ _=>False) rfl ?_;refine dq rfl rfl rfl (fun st1 hle=>bsh (cs:=[.str [45],.str [33]]) rfl rfl rfl rfl rfl (nl ⟨_,rfl,rfl,rfl⟩)) ?_;refine goF ?_;refine dq rfl rfl rfl (fun st1 hle=>ix (m:=0) rfl rfl rfl (by omega) (of_decide_eq_true rfl) (nl ⟨_,rfl,rfl,rfl⟩)) ?_;refine dq (v:=.str [45]) rfl rfl rfl (fun st1 hle=>Go.AM.le rfl rfl rfl rfl (nl ⟨_,rfl,rfl,rfl⟩)) ?_;refine goF ?_;refine dq rfl rfl rfl (fun st1 hle=>cle rfl rfl (hA5 st1) (nl ⟨_,rfl,rfl,rfl⟩)) ?_;refine dq rfl rfl rfl (fun st1 hle=>sad rfl rfl rfl LL (nl ⟨_,rfl,rfl,rfl⟩)) ?_;refine dn ⟨fun _=>?_,fun h=>absurd h (by decide)⟩;refine goD ?_;exact ⟨_,rfl,(tl3 rfl rfl rfl),.refl _⟩
  | inv _ hop a =>
   have hA:=ih a (List.mem_cons_self ..);obtain ⟨oa,na,ma,fa,ra,ea⟩:=xrow_ex a;have pl:=pby_len (decide (lvX a < 5)) (xby a)
   have hb:((if 5=4 then 45 else 33:UInt8)::pby (decide (lvX a < 5)) (xby a)).length≤1000000000:=hb;rw [List.length_cons] at hb;have h5:(lvX (.una 5 a):Int)=5:=rfl
   have hA5:=hA 5;rw [show decide ((lvX a:Int) < 5)=decide (lvX a < 5) from decide_eq_decide.2 (by omega)] at hA5;unfold RX at hA;rw [ea] at hA5 ⊢;clear hA;have e0:xby (.una 5 a)=[33]++pby (decide (lvX a < 5)) (xby a):=rfl;rw [e0];generalize pby (decide (lvX a < 5)) (xby a)=t at *;refine goD ?_;refine AWP.draw rfl 12 12 (fun _ _=>False) rfl ?_;refine dq rfl rfl rfl (fun st1 hle=>bsh (cs:=[.str [45],.str [33]]) rfl rfl rfl rfl rfl (nl ⟨_,rfl,rfl,rfl⟩)) ?_;refine goF ?_;refine dq rfl rfl rfl (fun st1 hle=>ix (m:=1) rfl rfl rfl (by omega) (of_decide_eq_true rfl) (nl ⟨_,rfl,rfl,rfl⟩)) ?_;refine dq (v:=.str [33]) rfl rfl rfl (fun st1 hle=>Go.AM.le rfl rfl rfl rfl (nl ⟨_,rfl,rfl,rfl⟩)) ?_;refine goF ?_;refine dq rfl rfl rfl (fun st1 hle=>cle rfl rfl (hA5 st1) (nl ⟨_,rfl,rfl,rfl⟩)) ?_;refine dq rfl rfl rfl (fun st1 hle=>sad rfl rfl rfl LL (nl ⟨_,rfl,rfl,rfl⟩)) ?_;refine dn ⟨fun _=>?_,fun h=>absurd h (by decide)⟩;refine goD ?_;exact ⟨_,rfl,(tl3 rfl rfl rfl),.refl _⟩
  | bin o a b =>
   obtain ⟨h6,h17,wa,wb⟩:=hw;have hA:=ih a (List.mem_cons_self ..)
   have hB:=ih b (List.mem_cons_of_mem _ (List.mem_cons_self ..))
   have hla:=(lvX_le (x:=a) wa).1;obtain ⟨g1,g2,g3,_,_⟩:=sgO_bin o h6 h17;have ls:=ysgO_len h6 h17;obtain ⟨oa,na,ma,fa,ra,ea⟩:=xrow_ex a;obtain ⟨ob,nb,mb,fb,rb,eb⟩:=xrow_ex b;have hb:(pby (lpar o a) (xby a)++32::(sgO o++32::pby (rpar o b) (xby b))).length≤1000000000:=hb;simp only [List.length_append,List.length_cons] at hb;have e0:xby (.bin o a b)=pby (lpar o a) (xby a)++[32]++sgO o++[32]++pby (rpar o b) (xby b):=by simp [xby]
   obtain ⟨m,hm,hm2⟩:∃ m:Nat,(o:Int) - 6=(m:Int)∧m < 12:=⟨o - 6,by omega,by omega⟩;have hs:=ysgn_get m hm2;rw [show 6 + m=o by omega] at hs;have hlx:lvX (.bin o a b)=lvO o:=rfl
   have hBr:=hB ((lvO o:Int) + 1);rw [show decide ((lvX b:Int) < (lvO o:Int) + 1)=rpar o b from decide_eq_decide.2 (by omega)] at hBr;have hAl:∀ left:Int,(left=if lvO o=1 then 2 else (lvO o:Int))→∀ st,ACalls Tryz.prog 61 [.agg (xrow a),.int .i64 left] st (fun v st'=>v=.str (pby (lpar o a) (xby a))∧st'=st) (fun _ _=>False):=by
    intro left hl st;have:=hA left st
    rwa [show decide ((lvX a:Int) < left)=lpar o a from decide_eq_decide.2 (by split at hl <;> omega)] at this
   clear hA hB;rw [ea] at hAl ⊢;rw [eb] at hBr ⊢;rw [e0,hlx];generalize pby (lpar o a) (xby a)=ta at *;generalize pby (rpar o b) (xby b)=tb at *;generalize sgO o=so at *;generalize lvO o=lv at *;refine goD ?_;refine bsh (cs:=ysgn12) rfl rfl rfl rfl rfl ?_;refine goE ?_;refine nl ?_;refine goC ?_;refine rg ?_;refine goE ?_;refine nl ?_;refine AWP.seq ?_;refine AWP.cutK (α:=Int) (fun y=>[(8,.int .i64 y),(7,.view 1 (chunk (0 + 1) 12 ysgn12) .shared),(5,.int .i64 (lv:Int)),(2,.eptr 6 [exRow (o:Int) 0 [] [] (.view 6 [exRow oa na ma fa (.view 6 ra .shared),exRow ob nb mb fb (.view 6 rb .shared)] .shared)] 0 0),(1,.int .i64 least)]) (fun _=>st) (fun y=>y=if lv=1 then 2 else (lv:Int)) ?_ ?_
   ·by_cases r1:lv=1
    ·have r1':(lv:Int)=1:=by omega
     rw [if_pos r1];refine goD ?_;exact ⟨2,rfl,(tl5 rfl rfl rfl rfl rfl),.refl _⟩
    ·have r1':¬ (lv:Int)=1:=by omega
     rw [if_neg r1];refine goD ?_;exact ⟨_,rfl,(tl5 rfl rfl rfl rfl rfl),.refl _⟩
   intro left hl;have hA1:=hAl left hl
   skip
   refine AWP.draw rfl 23 23 (fun _ _=>False) rfl ?_;refine goF ?_;refine dq rfl rfl rfl (fun st1 hle=>cle rfl rfl (hA1 st1) (nl ⟨_,rfl,rfl,rfl⟩)) ?_;refine dq rfl rfl rfl (fun st1 hle=>sad rfl rfl rfl (by simp only [List.length_cons,List.length_nil]; omega) (nl ⟨_,rfl,rfl,rfl⟩)) ?_;refine goF ?_;refine dq rfl rfl rfl (fun st1 hle=>ix (m:=m) rfl rfl rfl hm (by exact hm2) (nl ⟨_,rfl,rfl,rfl⟩)) ?_;refine dq rfl rfl rfl (fun st1 hle=>Go.AM.le rfl rfl hs rfl (nl ⟨_,rfl,rfl,rfl⟩)) ?_;refine dq rfl rfl rfl (fun st1 hle=>sad rfl rfl rfl LL (nl ⟨_,rfl,rfl,rfl⟩)) ?_;refine dq rfl rfl rfl (fun st1 hle=>sad rfl rfl rfl LL (nl ⟨_,rfl,rfl,rfl⟩)) ?_;refine goF ?_;refine dq rfl rfl rfl (fun st1 hle=>cle rfl rfl (hBr st1) (nl ⟨_,rfl,rfl,rfl⟩)) ?_;refine dq rfl rfl rfl (fun st1 hle=>sad rfl rfl rfl LL (nl ⟨_,rfl,rfl,rfl⟩)) ?_;refine dn ⟨fun _=>?_,fun h=>absurd h (by decide)⟩;refine goD ?_;exact ⟨_,rfl,(tl3 rfl rfl rfl),.refl _⟩
 ·rintro w rfl;generalize xby x=t at *;generalize lvX x=lv at *;by_cases hl:(lv:Int) < least
  ·rw [decide_eq_true hl];refine goD ?_;refine sad rfl rfl rfl (by simp only [List.length_cons,List.length_nil]; omega) ?_;refine sad rfl rfl rfl LL ?_;refine goD ?_;exact AWP.ret (rets rfl (.refl _) (.refl _) ⟨rfl,rfl⟩)
  ·rw [decide_eq_false hl];refine goD ?_;exact AWP.ret (rets rfl (.refl _) (.refl _) ⟨rfl,rfl⟩)
theorem pby_le (b:Bool) (l:List UInt8):l.length≤(pby b l).length:=by rw [pby_len]; omega
theorem yexpr_ok:∀ x:Xp,Wop x→WN x→(xby x).length≤1000000000→RX x
 | .lit n,hw,hn,hb=>yexpr_step _ hw hn hb fun _ h=>by cases h
 | .var s,hw,hn,hb=>yexpr_step _ hw hn hb fun _ h=>by cases h
 | .fld s f,hw,hn,hb=>yexpr_step _ hw hn hb fun _ h=>by cases h
 | .elt s a,hw,hn,hb=>yexpr_step _ hw hn hb fun c h=>by
  rw [List.mem_singleton.1 h];have hb:(s++91::(xby a++[93])).length≤1000000000:=hb;simp only [List.length_append,List.length_cons] at hb;exact yexpr_ok a hw hn.2 (by omega)
 | .una op a,hw,hn,hb=>yexpr_step _ hw hn hb fun c h=>by
  rw [List.mem_singleton.1 h];have hb:((if op=4 then 45 else 33:UInt8)::pby (decide (lvX a < 5)) (xby a)).length≤1000000000:=hb
  have:=pby_le (decide (lvX a < 5)) (xby a);rw [List.length_cons] at hb;exact yexpr_ok a hw.2 hn (by omega)
 | .bin op a b,hw,hn,hb=>yexpr_step _ hw hn hb fun c h=>by
  have hb:(pby (lpar op a) (xby a)++32::(sgO op++32::pby (rpar op b) (xby b))).length≤1000000000:=hb;simp only [List.length_append,List.length_cons] at hb;have:=pby_le (lpar op a) (xby a)
  have:=pby_le (rpar op b) (xby b)
  have h:c ∈ [a,b]:=h;rcases List.mem_cons.1 h with h|h
  ·rw [h];exact yexpr_ok a hw.2.2.1 hn.1 (by omega)
  ·rw [List.mem_singleton.1 h];exact yexpr_ok b hw.2.2.2 hn.2 (by omega)
theorem yxrows_at (l:List Xp) (i:Nat) (x:Xp) (h:l[i]?=some x):(xrows l)[i]?=some (xrow x):=by unfold xrows; rw [List.getElem?_map,h]; rfl
theorem ytake_snoc {α:Type} (l:List α) (i:Nat) (x:α) (h:l[i]?=some x):l.take (i + 1)=l.take i++[x]:=by
 rw [List.take_add_one,h];rfl
set_option maxHeartbeats 4000000 in
theorem ylist_ok {l:List Xp} (hx:∀ x ∈ l,Wop x∧WN x) (hl:l.length≤100000) (hb:(xsT l).length≤1000000) (st:St):ACalls Tryz.prog 94 [.view 6 (xrows l) .shared] st (fun v st'=>v=.str (xsT l)∧st'=st) (fun _ _=>False):=by
 refine ACalls.ofBody Tryz.func94 rfl Tryz.ntmps94 rfl ?_;have hnl:=xrows_len l;refine goD ?_;refine AWP.loop (α:=Nat) (fun i=>[(8,.int .i64 (i:Int)),(7,.int .i64 ((xrows l).length:Int)),(6,.view 6 (xrows l) .shared),(3,.str (xsT (l.take i)))]) (fun _=>st) (fun i=>i≤l.length) (fun i=>l.length - i) 0 (Nat.zero_le _) (tl4 rfl rfl rfl rfl) (.refl _) ?_;intro i hi;refine AWP.weaken (T':=[(8,.int .i64 (i:Int)),(7,.int .i64 ((xrows l).length:Int)),(6,.view 6 (xrows l) .shared),(3,.str (xsT (l.take i)))]) (tl4 rfl rfl rfl rfl) (.refl _) ?_;by_cases hlt:i < l.length
 ·obtain ⟨x,hxi⟩:∃ s,l[i]?=some s:=⟨_,List.getElem?_eq_getElem hlt⟩;obtain ⟨hw,hn⟩:=hx x (List.mem_of_getElem? hxi);have hle:=xsT_le l (i + 1)
  have hse:=xsT_snoc (l.take i) x;rw [← ytake_snoc l i x hxi] at hse;have hir:i < (xrows l).length:=by omega
  have hrow:=yxrows_at l i x hxi
  have hlv:=lvX_le hw
  have hxl:(xby x).length≤1000000:=by rw [hse,List.length_append] at hle; omega
  have hE:∀ st,ACalls Tryz.prog 61 [.agg (xrow x),.int .i64 1] st (fun v st'=>v=.str (xby x)∧st'=st) (fun _ _=>False):=fun st=>by
   have:=yexpr_ok x hw hn (by omega) 1 st
   rwa [decide_eq_false (show ¬ (lvX x:Int) < 1 by omega),pby,if_neg (by decide)] at this
  have hle0:=xsT_le l i;obtain ⟨o1,n1,m1,f1,r1,e1⟩:=xrow_ex x;rw [e1] at hrow hE;by_cases h0:i=0
  ·subst h0;rw [if_pos List.take_zero,List.nil_append] at hse;refine goD ?_;refine al rfl rfl fun o ho=>?_;refine goE ?_;refine soV rfl rfl rfl rfl rfl rfl ?_;refine goD ?_;refine cle rfl rfl (hE _) ?_;refine sad rfl rfl rfl (by rw [List.take_zero]; show 0 + (xby x).length≤9223372036854775807; omega) ?_;refine goD ?_;refine ⟨0 + 1,hlt,by omega,?_,StLe.new ho (.refl _)⟩;rw [hse];exact (tl4 rfl rfl rfl rfl)
  ·have h0':(i:Int) > 0:=by omega
   have hne:l.take i≠[]:=by
    intro e;have:=congrArg List.length e;rw [List.length_take] at this;simp only [List.length_nil] at this;omega
   rw [if_neg hne] at hse;generalize xsT (l.take i)=acc at *;refine goD ?_;refine al rfl rfl fun o ho=>?_;refine goE ?_;refine soV rfl rfl rfl rfl rfl rfl ?_;refine goD ?_;refine sad rfl rfl rfl (by simp only [List.length_cons,List.length_nil]; omega) ?_;refine goD ?_;refine cle rfl rfl (hE _) ?_;refine sad rfl rfl rfl LL ?_;refine goD ?_;refine ⟨i + 1,hlt,by omega,?_,StLe.new ho (.refl _)⟩;rw [hse];exact (tl4 rfl rfl rfl rfl)
 ·have hil:i=l.length:=by omega
  subst hil;rw [List.take_length];refine goD ?_;refine AWP.exit (blk_hit ?_);refine goD ?_;exact AWP.ret (rets rfl (.refl _) (.refl _) ⟨rfl,rfl⟩)
theorem yjn_snoc (l:Names) (x:List UInt8):jnT (l++[x])=(if l=[] then [] else jnT l++[44,32])++x:=by
 induction l with
 | nil=>rfl
 | cons a r ih =>
  rw [if_neg (by simp)];cases r with
  | nil=>rfl
  | cons b r =>
   rw [List.cons_append,List.cons_append,jnT,← List.cons_append,ih,if_neg (by simp),jnT];simp
theorem jnT_le (l:Names) (i:Nat):(jnT (l.take i)).length≤(jnT l).length:=by
 have key:∀ (m r:Names),(jnT m).length≤(jnT (m++r)).length:=by
  intro m r
  induction r generalizing m with
  | nil=>rw [List.append_nil]; exact Nat.le_refl _
  | cons a r ih =>
   have h1:=ih (m++[a]);rw [List.append_assoc] at h1;refine Nat.le_trans ?_ h1;rw [yjn_snoc];split
   ·rename_i h; rw [h]; exact Nat.zero_le _
   ·simp only [List.length_append]; omega
 have:=key (l.take i) (l.drop i)
 rwa [List.take_append_drop] at this
set_option maxHeartbeats 4000000 in
theorem ywords_ok {l:Names} (hl:l.length≤100000) (hb:(jnT l).length≤2000000) (st:St):ACalls Tryz.prog 33 [.view 1 (nrow l) .shared] st (fun v st'=>v=.str (jnT l)∧st'=st) (fun _ _=>False):=by
 refine ACalls.ofBody Tryz.func33 rfl Tryz.ntmps33 rfl ?_;have hnl:=nrow_len l;refine goD ?_;refine AWP.loop (α:=Nat) (fun i=>[(8,.int .i64 (i:Int)),(7,.int .i64 ((nrow l).length:Int)),(6,.view 1 (nrow l) .shared),(3,.str (jnT (l.take i)))]) (fun _=>st) (fun i=>i≤l.length) (fun i=>l.length - i) 0 (Nat.zero_le _) (tl4 rfl rfl rfl rfl) (.refl _) ?_;intro i hi;refine AWP.weaken (T':=[(8,.int .i64 (i:Int)),(7,.int .i64 ((nrow l).length:Int)),(6,.view 1 (nrow l) .shared),(3,.str (jnT (l.take i)))]) (tl4 rfl rfl rfl rfl) (.refl _) ?_;by_cases hlt:i < l.length
 ·obtain ⟨x,hxi⟩:∃ s,l[i]?=some s:=⟨_,List.getElem?_eq_getElem hlt⟩;have hle:=jnT_le l (i + 1)
  have hse:=yjn_snoc (l.take i) x;rw [← ytake_snoc l i x hxi] at hse;have hir:i < (nrow l).length:=by omega
  have hrow:(nrow l)[i]?=some [.str x]:=by unfold nrow; rw [List.getElem?_map,hxi]; rfl
  have hxl:x.length≤2000000:=by rw [hse,List.length_append] at hle; omega
  have hle0:=jnT_le l i;by_cases h0:i=0
  ·subst h0;rw [if_pos List.take_zero,List.nil_append] at hse;refine goD ?_;refine sad rfl rfl rfl (by rw [List.take_zero]; show 0 + x.length≤9223372036854775807; omega) ?_;refine goD ?_;refine ⟨0 + 1,hlt,by omega,?_,.refl _⟩;rw [hse];exact (tl4 rfl rfl rfl rfl)
  ·have h0':(i:Int) > 0:=by omega
   have hne:l.take i≠[]:=by
    intro e;have:=congrArg List.length e;rw [List.length_take] at this;simp only [List.length_nil] at this;omega
   rw [if_neg hne] at hse;generalize jnT (l.take i)=acc at *;refine goD ?_;refine sad rfl rfl rfl (by simp only [List.length_cons,List.length_nil]; omega) ?_;refine goD ?_;refine sad rfl rfl rfl LL ?_;refine goD ?_;refine ⟨i + 1,hlt,by omega,?_,.refl _⟩;rw [hse];exact (tl4 rfl rfl rfl rfl)
 ·have hil:i=l.length:=by omega
  subst hil;rw [List.take_length];refine goD ?_;refine AWP.exit (blk_hit ?_);refine goD ?_;exact AWP.ret (rets rfl (.refl _) (.refl _) ⟨rfl,rfl⟩)
set_option maxHeartbeats 4000000 in
theorem yvalue_ok {k l:Int} {nm ty fn:List UInt8} {len:Int} {ar:List Xp} {a c d:AV} (hx:∀ x ∈ ar,Wop x∧WN x) (hl:ar.length≤100000) (hb:(smV fn ar).length≤1000000) (st:St) :
  ACalls Tryz.prog 63 [.agg (sRow k l nm ty len a fn (.view 6 (xrows ar) .shared) c d)] st (fun v st'=>v=.str (smV fn ar)∧st'=st) (fun _ _=>False):=by
 refine ACalls.ofBody Tryz.func63 rfl Tryz.ntmps63 rfl ?_;unfold smV at hb ⊢;by_cases hf:fn=[]
 ·rw [if_pos hf] at hb ⊢;have hf':¬ fn≠[]:=fun h=>h hf;refine goD ?_;refine cle rfl rfl (ylist_ok hx hl hb st) ?_;refine goD ?_;exact AWP.ret (rets rfl (.refl _) (.refl _) ⟨rfl,rfl⟩)
 ·rw [if_neg hf] at hb ⊢;simp only [List.length_append,List.length_cons,List.length_nil] at hb;have hL:=ylist_ok hx hl (by omega);generalize xsT ar=t at *;refine goD ?_;refine AWP.draw rfl 8 8 (fun _ _=>False) rfl ?_;refine goF ?_;refine dq rfl rfl rfl (fun st1 hle=>sad rfl rfl rfl (by simp only [List.length_cons,List.length_nil]; omega) (nl ⟨_,rfl,rfl,rfl⟩)) ?_;refine goF ?_;refine dq rfl rfl rfl (fun st1 hle=>cle rfl rfl (hL st1) (nl ⟨_,rfl,rfl,rfl⟩)) ?_;refine dq rfl rfl rfl (fun st1 hle=>sad rfl rfl rfl LL (nl ⟨_,rfl,rfl,rfl⟩)) ?_;refine dq rfl rfl rfl (fun st1 hle=>sad rfl rfl rfl LL (nl ⟨_,rfl,rfl,rfl⟩)) ?_;refine dn ⟨fun _=>?_,fun h=>absurd h (by decide)⟩;refine goD ?_;exact AWP.ret (rets rfl (.refl _) (.refl _) ⟨rfl,rfl⟩)
end Go.Proofs
namespace Go.Proofs
open Go.AM
theorem qb_qb {α β γ:Type} (r:QR α) (f:α→List Tk→QR β) (g:β→List Tk→QR γ):qb (qb r f) g=qb r fun x t=>qb (f x t) g:=by
 cases r with
 | error e=>rfl
 | ok p=>rfl
theorem qb_ret {α β:Type} (x:α) (t:List Tk) (f:α→List Tk→QR β):qb (.ok (x,t)) f=f x t:=rfl
def fval (c:Bool) (ts:List Tk):QR (List UInt8 × List Xp):=if c && seesC ts then fcall ts else qb (qx ts) fun x r=>.ok (([],[x]),r)
def feff (ts:List Tk):QR Sm :=
 if seesC ts then qb (fcall ts) fun c r=>.ok (⟨3,[],c.1,c.2⟩,r)
 else qb (qt ts) fun y r=>qb (fneed [61] r) fun _ r2 =>
  if seesC r2 then qb (fcall r2) fun c r3=>.ok (⟨3,[y],c.1,c.2⟩,r3) else qb (qx r2) fun x r3=>.ok (⟨2,[y],[],[x]⟩,r3)
theorem fsimple_eq (ts:List Tk):fsimple ts=if kw (hd ts) wReturn then qb (fval true ts.tail) fun c r=>.ok (⟨6,[],c.1,c.2⟩,r)
  else if kw (hd ts) wThrow then qb (fval false ts.tail) fun c r=>.ok (⟨7,[],c.1,c.2⟩,r)
  else if kw (hd ts) wPrint then qb (fval false ts.tail) fun c r=>.ok (⟨9,[],c.1,c.2⟩,r) else feff ts:=by
 unfold fsimple feff fval;rw [Bool.true_and,Bool.false_and];by_cases h1:kw (hd ts) wReturn=true
 ·rw [if_pos h1,if_pos h1];by_cases h2:seesC ts.tail=true
  ·rw [if_pos h2,if_pos h2]
  ·rw [if_neg h2,if_neg h2];simp only [qb_qb,qb_ret]
 ·rw [if_neg h1,if_neg h1,if_neg (by decide:¬ false=true)];simp only [qb_qb,qb_ret]
def fty (ts:List Tk):QR (List UInt8 × Nat) :=
 if kw (hd ts) wInt then
  if sg (hd ts.tail) [91] then
   if (hd ts.tail.tail).kind=2 then
    if (hd ts.tail.tail).num < 1∨8 < (hd ts.tail.tail).num then .error (5,ts.tail.tail)
    else qb (fneed [93] ts.tail.tail.tail) fun _ r3=>.ok (([],(hd ts.tail.tail).num),r3)
   else .error (7,ts.tail.tail)
  else .ok (([],0),ts.tail)
 else qb (fname ts) fun ty r3=>.ok ((ty,0),r3)
theorem fdecl_eq (ts:List Tk):fdecl ts=qb (fname ts) fun n r1=>qb (fneed [58] r1) fun _ r2=>qb (fty r2) fun p r3=>qb (fneed [59] r3) fun _ r4=>.ok ((n,p.1,p.2),r4):=by
 unfold fdecl
 congr 1
 funext n r1
 congr 1
 funext _ r2
 unfold fty;by_cases h1:kw (hd r2) wInt=true
 ·rw [if_pos h1,if_pos h1];by_cases h2:sg (hd r2.tail) [91]=true
  ·rw [if_pos h2,if_pos h2];by_cases h3:(hd r2.tail.tail).kind=2
   ·rw [if_pos h3,if_pos h3];by_cases h4:(hd r2.tail.tail).num < 1∨8 < (hd r2.tail.tail).num
    ·rw [if_pos h4,if_pos h4]; rfl
    ·rw [if_neg h4,if_neg h4];simp only [qb_qb,qb_ret]
   ·rw [if_neg h3,if_neg h3]; rfl
  ·rw [if_neg h2,if_neg h2]; rfl
 ·rw [if_neg h1,if_neg h1];simp only [qb_qb,qb_ret]
def fcatch (ts:List Tk):QR Unit:=if kw (hd ts) wCatch then .ok ((),ts.tail) else .error (7,ts)
theorem fstm_pos {k d:Nat} {ts:List Tk} (hb:begS (hd ts)=true) (h8:¬ 8 < d):fstm (k + 1) d ts =
  if kw (hd ts) wVar then qb (fdecl ts.tail) fun x r=>.ok (.mk 1 (hd ts).line x.1 x.2.1 x.2.2 [] [] [] [] [],r)
  else if kw (hd ts) wIf then qb (qx ts.tail) fun x r=>qb (fblk k (d + 1) r) fun b r2 =>
   if kw (hd r2) wElse then qb (fblk k (d + 1) r2.tail) fun e r3=>.ok (.mk 4 (hd ts).line [] [] 0 [] [] [x] b e,r3) else .ok (.mk 4 (hd ts).line [] [] 0 [] [] [x] b [],r2)
  else if kw (hd ts) wWhile then qb (qx ts.tail) fun x r=>qb (fblk k (d + 1) r) fun b r2=>.ok (.mk 5 (hd ts).line [] [] 0 [] [] [x] b [],r2)
  else if kw (hd ts) wTry then qb (fblk k (d + 1) ts.tail) fun b r=>qb (fcatch r) fun _ r1=>qb (fname r1) fun n r2=>qb (fblk k (d + 1) r2) fun e r3=>.ok (.mk 8 (hd ts).line n [] 0 [] [] [] b e,r3)
  else if kw (hd ts) wReturn then qb (fval true ts.tail) fun c r=>qb (fneed [59] r) fun _ r2=>.ok (.mk 6 (hd ts).line [] [] 0 [] c.1 c.2 [] [],r2)
  else if kw (hd ts) wThrow then qb (fval false ts.tail) fun c r=>qb (fneed [59] r) fun _ r2=>.ok (.mk 7 (hd ts).line [] [] 0 [] c.1 c.2 [] [],r2)
  else if kw (hd ts) wPrint then qb (fval false ts.tail) fun c r=>qb (fneed [59] r) fun _ r2=>.ok (.mk 9 (hd ts).line [] [] 0 [] c.1 c.2 [] [],r2)
  else qb (feff ts) fun m r=>qb (fneed [59] r) fun _ r2=>.ok (.mk m.kind (hd ts).line [] [] 0 m.target m.fn m.args [] [],r2):=by
 rw [fstm,if_pos hb,if_neg h8];by_cases c1:kw (hd ts) wVar=true
 ·rw [if_pos c1,if_pos c1]
 rw [if_neg c1,if_neg c1];by_cases c2:kw (hd ts) wIf=true
 ·rw [if_pos c2,if_pos c2]
 rw [if_neg c2,if_neg c2];by_cases c3:kw (hd ts) wWhile=true
 ·rw [if_pos c3,if_pos c3]
 rw [if_neg c3,if_neg c3];by_cases c4:kw (hd ts) wTry=true
 ·rw [if_pos c4,if_pos c4]
  congr 1
  funext b r
  unfold fcatch;by_cases c:kw (hd r) wCatch=true
  ·rw [if_pos c,if_pos c,qb_ok rfl]
  ·rw [if_neg c,if_neg c]; rfl
 rw [if_neg c4,if_neg c4,fsimple_eq];by_cases c5:kw (hd ts) wReturn=true
 ·rw [if_pos c5,if_pos c5];simp only [qb_qb,qb_ret]
 rw [if_neg c5,if_neg c5];by_cases c6:kw (hd ts) wThrow=true
 ·rw [if_pos c6,if_pos c6];simp only [qb_qb,qb_ret]
 rw [if_neg c6,if_neg c6];by_cases c7:kw (hd ts) wPrint=true
 ·rw [if_pos c7,if_pos c7];simp only [qb_qb,qb_ret]
 rw [if_neg c7,if_neg c7]
def wk (t:Tk) (s:List UInt8):Bool:=decide ((t.kind=3∨t.kind=4)∧t.text=s)
def letHd (s:List UInt8):Bool:=(s.head?.map isLet).getD false
structure TkOk (t:Tk):Prop where
 word:t.kind=3→letHd t.text=true
 sign:t.kind=4→letHd t.text=false
 num:t.num < 1000000000000000000
 name:t.kind=1→t.text≠[]
theorem wk_sg {t:Tk} (h:TkOk t) {s:List UInt8} (hs:letHd s=false):wk t s=sg t s:=by
 refine decide_eq_decide.2 ⟨fun ⟨a,b⟩=>?_,fun ⟨a,b⟩=>⟨.inr a,b⟩⟩;rcases a with a|a
 ·have:=h.word a;rw [b,hs] at this;cases this
 ·exact ⟨a,b⟩
theorem wk_kw {t:Tk} (h:TkOk t) {s:List UInt8} (hs:letHd s=true):wk t s=kw t s:=by
 refine decide_eq_decide.2 ⟨fun ⟨a,b⟩=>?_,fun ⟨a,b⟩=>⟨.inl a,b⟩⟩;rcases a with a|a
 ·exact ⟨a,b⟩
 ·have:=h.sign a;rw [b,hs] at this;cases this
theorem one_tkok {s:List UInt8} {line m:Nat} {t:Tk} (h:one s line=.ok (t,m)):TkOk t:=by
 have ht:=(one_tok h).2.1
 have hn:t.kind=1→t.text≠[]:=fun k=>by
  obtain ⟨c,r,e,_⟩:=(one_tok h).1 k;rw [e];exact List.cons_ne_nil _ _
 unfold one at h;split at h
 ·cases h
 ·rename_i c r;cases hL:isLet c
  ·cases hd:isDig c
   ·simp only [hL,hd,cond_false] at h;split at h
    ·cases h
    ·rename_i hs;cases h;refine ⟨fun h=>(by cases h),fun _=>?_,by show (0:Nat) < _; decide,hn⟩;show letHd (sign (c::r))=false;unfold sign at hs ⊢;split
     ·rename_i h2;unfold signs2 at h2;simp only [List.mem_cons,List.not_mem_nil,or_false] at h2;rcases h2 with h2|h2|h2 <;> rw [h2] <;> decide
     ·rename_i h2;rw [if_neg h2] at hs;simp only at hs ⊢;split
      ·unfold letHd;rw [List.head?_cons,Option.map_some,Option.getD_some,hL]
      ·rfl
   ·simp only [hL,hd,cond_false,cond_true] at h;split at h
    ·cases h
    split at h
    ·cases h
    ·cases h;exact ⟨fun h=>(by cases h),fun h=>(by cases h),ht rfl,hn⟩
  ·simp only [hL,cond_true] at h;split at h
   ·cases h
   ·cases h;refine ⟨fun _=>?_,fun hk=>?_,by show (0:Nat) < _; decide,hn⟩
    ·show letHd ((c::r).takeWhile isNP)=true;rw [List.takeWhile_cons,show isNP c=true by simp [isNP,hL]];unfold letHd;rw [if_pos rfl,List.head?_cons,Option.map_some,Option.getD_some,hL]
    ·exfalso;have:(if (c::r).takeWhile isNP ∈ words then 3 else 1)≠4:=by split <;> decide
     exact this hk
theorem scanL_tkok:∀ (k:Nat) (s:List UInt8) (line:Nat) (out:List Tk),(∀ t ∈ out,TkOk t)→∀ t ∈ (scanL k s line out).1,TkOk t
 | 0,_,_,_,_=>fun t h=>(by rw [scanL] at h; cases h)
 | k + 1,[],line,out,ho=>fun t h=>by
  rw [scanL] at h;rcases List.mem_append.1 h with h|h
  ·exact ho t h
  ·rw [List.mem_singleton.1 h];exact ⟨fun h=>(by cases h),fun h=>(by cases h),by show (0:Nat) < _; decide,fun h=>(by cases h)⟩
 | k + 1,c::r,line,out,ho=>fun t h=>by
  rw [scanL] at h;cases hq:one (c::r) line with
  | error e=>rw [hq] at h; cases h
  | ok p =>
   obtain ⟨u,m⟩:=p;rw [hq] at h;simp only at h;split at h
   ·cases h
   ·refine scanL_tkok k _ _ _ (fun x hx=>?_) t h;rcases List.mem_append.1 hx with hx|hx
    ·exact ho x hx
    ·rw [List.mem_singleton.1 hx];exact one_tkok hq
structure RdT (ts:List Tk):Prop extends RdH ts where
 tk:∀ t ∈ ts,TkOk t
theorem scan_RdT {s:List UInt8} (he:(scan s).2.2=0):RdT (scan s).1∧0 < (scan s).1.length:=by
 obtain ⟨h1,h2⟩:=scan_RdH he;refine ⟨⟨h1,?_⟩,h2⟩;unfold scan;split
 ·intro t h;cases h
 ·exact scanL_tkok _ _ _ _ (fun t h=>by cases h)
end Go.Proofs
namespace Go.Proofs
open Go.AM
attribute [local irreducible] AWP AOps ACalls AAny
def rsC (X:List (List AV)) (a ln e:Nat):AObj:=.cells 69 4 [[.view 4 X .shared,.int .i64 (a:Int),.int .i64 (ln:Int),.int .i64 (e:Int)]]
theorem ris_ok {X:List (List AV)} {a k ln e o:Nat} {t:Tk} {st:St} (ho:st.obj o=some (rsC X a ln e)) (hlt:a + k < X.length) (hX:X[a + k]?=some (tokRow t)) (hl:X.length≤100000) (s:List UInt8) (b:Bool) (hb:wk t s=b) :
  ACalls Tryz.prog 49 [.cptr o 4 0 0,.int .i64 (k:Int),.str s] st (fun v st'=>v=.bool b∧st'=st) (fun _ _=>False):=by
 refine ACalls.ofBody Tryz.func49 rfl Tryz.ntmps49 rfl ?_;unfold rsC at ho;unfold wk at hb;refine goD ?_;refine AWP.draw rfl 12 12 (fun _ _=>False) rfl ?_;refine goF ?_;refine dn ⟨fun _=>?_,fun h=>absurd h (by decide)⟩;refine goD ?_;refine AWP.draw rfl 13 12 (fun v s=>∃ o7,v=.cptr o7 4 0 0∧st.obj o7=none∧s=st.set o7 (.cells 64 4 [tokRow ⟨0,0,[],0⟩])) rfl ?_;refine goF ?_;refine de rfl rfl rfl ?_ ?_
 ·exact al rfl rfl fun o7 h7=>nl ⟨_,rfl,⟨o7,rfl,h7,rfl⟩,⟨fun x c hx=>St.obj_new h7 hx,fun _ h=>(by cases h),rfl⟩⟩
 refine dn ⟨fun h=>absurd h (by decide),fun _=>?_⟩;rintro v s1 d7 hd7 ⟨o7,rfl,h7,rfl⟩;cases hd7;refine soV rfl rfl rfl rfl rfl rfl ?_;refine AOps.fz 7 rfl h7 ?_;by_cases h3:t.kind=3
 ·have h3':(t.kind:Int)=3:=by omega
  have hq:decide ((t.kind=3∨t.kind=4)∧t.text=s)=decide (t.text=s):=decide_eq_decide.2 ⟨fun h=>h.2,fun h=>⟨.inl h3,h⟩⟩;rw [hq] at hb;subst hb;refine goD ?_;exact AWP.ret (rets rfl (.refl _) (.refl _) ⟨rfl,rfl⟩)
 ·have h3':¬ (t.kind:Int)=3:=by omega
  by_cases h4:t.kind=4
  ·have h4':(t.kind:Int)=4:=by omega
   have hq:decide ((t.kind=3∨t.kind=4)∧t.text=s)=decide (t.text=s):=decide_eq_decide.2 ⟨fun h=>h.2,fun h=>⟨.inr h4,h⟩⟩;rw [hq] at hb;subst hb;refine goD ?_;exact AWP.ret (rets rfl (.refl _) (.refl _) ⟨rfl,rfl⟩)
  ·have h4':¬ (t.kind:Int)=4:=by omega
   have hq:decide ((t.kind=3∨t.kind=4)∧t.text=s)=false:=decide_eq_false fun h=>h.1.elim h3 h4;rw [hq] at hb;subst hb;refine goD ?_;exact AWP.ret (rets rfl (.refl _) (.refl _) ⟨rfl,rfl⟩)
theorem rkind_ok {X:List (List AV)} {a ln e o:Nat} {t:Tk} {st:St} (ho:st.obj o=some (rsC X a ln e)) (hlt:a < X.length) (hX:X[a]?=some (tokRow t)) (hl:X.length≤100000) (k:Nat) (b:Bool) (hb:decide (t.kind=k)=b) :
  ACalls Tryz.prog 54 [.cptr o 4 0 0,.int .i64 0,.int .i64 (k:Int)] st (fun v st'=>v=.bool b∧st'=st) (fun _ _=>False):=by
 refine ACalls.ofBody Tryz.func54 rfl Tryz.ntmps54 rfl ?_;unfold rsC at ho;subst hb;refine goD ?_;refine AWP.draw rfl 30 30 (fun _ _=>False) rfl ?_;refine goG ?_;refine dn ⟨fun _=>?_,fun h=>absurd h (by decide)⟩;refine nl ?_;refine AWP.ret (rets rfl (.refl _) (.refl _) (And.intro ?_ rfl));exact congrArg AV.bool (decide_eq_decide.2 (by omega))
def FJ (st:St) (o:Nat) (X:List (List AV)) (a ln e:Nat):List (Option AV)→St→Prop
 | [x,y],s=>s=st.set o (.cells 69 4 [[.view 4 X .shared,.int .i64 (a:Int),.int .i64 (bif y.isSome then (ln:Int) else 0),.int .i64 (bif x.isSome then (e:Int) else 0)]])
 | _,_=>False
theorem rfail_ok {X:List (List AV)} {a o:Nat} {t:Tk} {st:St} (ho:st.obj o=some (rsC X a 0 0)) (hlt:a < X.length) (hX:X[a]?=some (tokRow t)) (e:Nat) :
  ACalls Tryz.prog 55 [.cptr o 4 0 0,.int .i64 (e:Int)] st (fun _ st'=>st'=st.set o (rsC X a t.line e)) (fun _ _=>False):=by
 refine ACalls.inSet ho (ACalls.ofBody Tryz.func55 rfl Tryz.ntmps55 rfl ?_);clear ho;unfold rsC;refine goD ?_;refine AWP.any rfl ?_;apply AAny.segX (X:=fun _ _=>False) (hX:=fun _ _ h=>h.elim) (k':=20) (Es:=[16,19]) (J:=FJ st o X a t.line e) (base:=st.drop o) (hok:=by decide +kernel) (hJ:=rfl) (hb:=StLe.drop_set);repeat (first|apply dsP (hi:=rfl) (hs:=rfl)|apply dqP (hi:=rfl) (hd:=rfl) (hw:=rfl) (h:=fun _ _=>ZC (z:=nz)))
 apply dwP (v:=.view 4 X .shared) (L:=[[false,false]]) (hi:=rfl) (hL:=rfl) (hd:=rfl) (hw:=rfl) (h:=by
  refine ⟨?_,trivial⟩;intro vs hvs hlk s hJ
  match vs,hvs,hJ with
  | [none,none],_,hJ =>
   have hJ:=(show s=_ from hJ);subst hJ;exact lc rfl rfl (St.obj_set _ _ _) rfl rfl nz)
 repeat (first|apply dsP (hi:=rfl) (hs:=rfl)|apply dqP (hi:=rfl) (hd:=rfl) (hw:=rfl) (h:=fun _ _=>ZC (z:=nz)))
 apply dwP (v:=.int .i64 (a:Int)) (L:=[[false,false]]) (hi:=rfl) (hL:=rfl) (hd:=rfl) (hw:=rfl) (h:=by
  refine ⟨?_,trivial⟩;intro vs hvs hlk s hJ
  match vs,hvs,hJ with
  | [none,none],_,hJ =>
   have hJ:=(show s=_ from hJ);subst hJ;exact lc rfl rfl (St.obj_set _ _ _) rfl rfl nz)
 repeat (first|apply dsP (hi:=rfl) (hs:=rfl)|apply dqP (hi:=rfl) (hd:=rfl) (hw:=rfl) (h:=fun _ _=>ZF (z:=nz))|apply dqP (hi:=rfl) (hd:=rfl) (hw:=rfl) (h:=fun _ _=>ZC (z:=nz))|apply dqP (hi:=rfl) (hd:=rfl) (hw:=rfl) (h:=fun _ _=>ZM (z:=nz)))
 apply dnWP (L:=[[false,false]]) (hL:=rfl) (hd:=rfl) (hw:=rfl) (h:=by
  refine ⟨?_,trivial⟩;intro vs hvs hlk s hJ hle
  match vs,hvs,hJ with
  | [none,none],_,hJ =>
   have hJ:=(show s=_ from hJ);subst hJ;exact so (rows':=[[.view 4 X .shared,.int .i64 (a:Int),.int .i64 0,.int .i64 (e:Int)]]) rfl rfl rfl (St.obj_set _ _ _) rfl rfl rfl rfl rfl (nl ⟨rfl,fun u=>St.set_set _ _ _ _,by rw [St.set_set]; exact StLe.drop_set⟩))
 intro _;repeat (first|apply dsP (hi:=rfl) (hs:=rfl)|apply dqP (hi:=rfl) (hd:=rfl) (hw:=rfl) (h:=fun _ _=>ZC (z:=nz)))
 apply dnWP (L:=[[true,false]]) (hL:=rfl) (hd:=rfl) (hw:=rfl) (h:=by
  refine ⟨?_,trivial⟩;intro vs hvs hlk s hJ hle
  match vs,hvs,hJ with
  | [some x,none],_,hJ =>
   have hJ:=(show s=_ from hJ);subst hJ;exact so (rows':=[[.view 4 X .shared,.int .i64 (a:Int),.int .i64 (t.line:Int),.int .i64 (e:Int)]]) rfl rfl rfl (St.obj_set _ _ _) rfl rfl rfl rfl rfl (nl ⟨rfl,fun u=>St.set_set _ _ _ _,by rw [St.set_set]; exact StLe.drop_set⟩))
 intro _;refine dnP fun s hs=>?_;have hs:=(show s=_ from hs);subst hs;refine AAny.text rfl ?_;refine goD ?_;exact rets rfl (.refl _) (.refl _) rfl
end Go.Proofs
namespace Go.Proofs
open Go.AM
attribute [local irreducible] AWP AOps AAny
def Rm {α:Type} (ts:List Tk) (r:QR α) (x:α) (a ln e:Nat):Prop:=(e=0∧ln=0∧r=.ok (x,ts.drop a))∨((e=5∨e=7)∧∃ t,r=.error (e,t)∧ln=(hd t).line)
def RfR {α:Type} (ts:List Tk) (o:Nat) (st:St) (V:AV→α→Prop) (r:QR α) (v:AV) (st':St):Prop :=
 ∃ x a ln e,V v x∧a < ts.length∧st'=st.set o (rsC (ts.map tokRow) a ln e)∧Rm ts r x a ln e
def qp {α β:Type} (r:QR α) (f:List Tk→QR β):QR (α × β):=qb r fun x t=>qb (f t) fun y t'=>.ok ((x,y),t')
def RuR {α β:Type} (ts:List Tk) (o:Nat) (st:St) (V:AV→β→Prop) (r:QR α) (x:α) (f:List Tk→QR β) (v:AV) (st':St):Prop :=
 ∃ y a ln e,V v y∧a < ts.length∧st'=st.set o (rsC (ts.map tokRow) a ln e)∧Rm ts (qp r f) (x,y) a ln e
theorem ACalls.toQ {P:Program} {f:FuncId} {args:List AV} {st:St} {Rt Rt':AV→St→Prop} (h:ACalls P f args st Rt (fun _ _=>False)) (h1:∀ v st',Rt v st'→Rt' v st'):ACalls P f args st Rt' (fun _ _=>False) :=
 ACalls.leP h fun v st' hv=>⟨v,st',.refl _,.refl _,h1 v st' hv⟩
attribute [local irreducible] ACalls
theorem RuR.of {α β:Type} {ts:List Tk} {o:Nat} {F:FuncId} {args:List AV} {V:AV→β→Prop} {f:List Tk→QR β} {r:QR α} {x:α} {a ln e:Nat} {st:St} (hm:Rm ts r x a ln e) (ha:a < ts.length) (ho:st.obj o=some (rsC (ts.map tokRow) a ln e))
  (live:st.obj o=some (rsC (ts.map tokRow) a 0 0)→ACalls Tryz.prog F args st (RfR ts o st V (f (ts.drop a))) (fun _ _=>False))
  (dead:e=5∨e=7→ACalls Tryz.prog F args st (fun v st'=>(∃ y,V v y)∧st'=st) (fun _ _=>False)):ACalls Tryz.prog F args st (RuR ts o st V r x f) (fun _ _=>False):=by
 rcases hm with ⟨rfl,rfl,hr⟩|⟨he,t,hr,hl⟩
 ·refine Go.Proofs.ACalls.toQ (live ho) fun v st' ⟨y,a',ln',e',h1,h2,h3,h4⟩=>⟨y,a',ln',e',h1,h2,h3,?_⟩;unfold qp;rw [qb_ok hr];rcases h4 with ⟨k1,k2,k3⟩|⟨k1,t,k3,k4⟩
  ·exact .inl ⟨k1,k2,by rw [qb_ok k3]⟩
  ·exact .inr ⟨k1,t,by rw [qb_err k3],k4⟩
 ·refine Go.Proofs.ACalls.toQ (dead he) fun v st' ⟨⟨y,h1⟩,h2⟩=>⟨y,a,ln,e,h1,ha,by rw [h2,St.set_same ho],?_⟩;unfold qp;exact .inr ⟨he,t,by rw [qb_err hr],hl⟩
def ftake (s:List UInt8) (ts:List Tk):QR Unit:=if wk (hd ts) s then .ok ((),ts.tail) else .error (7,ts)
theorem wk_kind {t:Tk} {s:List UInt8} (h:wk t s=true):t.kind≠0:=by
 rcases (of_decide_eq_true h).1 with k|k <;> rw [k] <;> decide
theorem hd_tk {ts:List Tk} (H:RdT ts) {a:Nat} (ha:a < ts.length):TkOk (hd (ts.drop a)):=by
 obtain ⟨t,t1,_,t3,_,_⟩:=map_at ha;rw [t3];exact H.tk t (List.mem_of_getElem? t1)
theorem ftake_sg {ts:List Tk} (H:RdT ts) {a:Nat} (ha:a < ts.length) {s:List UInt8} (hs:letHd s=false):ftake s (ts.drop a)=fneed s (ts.drop a):=by
 unfold ftake fneed;rw [wk_sg (hd_tk H ha) hs]
structure AtT (ts:List Tk) (a:Nat) (t:Tk):Prop where
 at_:ts[a]?=some t
 hd_:hd (ts.drop a)=t
 tl:(ts.drop a).tail=ts.drop (a + 1)
 more:t.kind≠0→a + 1 < ts.length
 ok:TkOk t
 is:∀ {st:St} {o ln e:Nat},st.obj o=some (rsC (ts.map tokRow) a ln e)→∀ (s:List UInt8) (b:Bool),wk t s=b→ACalls Tryz.prog 49 [.cptr o 4 0 0,.int .i64 0,.str s] st (fun v st'=>v=.bool b∧st'=st) (fun _ _=>False)
 kd:∀ {st:St} {o ln e:Nat},st.obj o=some (rsC (ts.map tokRow) a ln e)→∀ (k:Nat) (b:Bool),decide (t.kind=k)=b→ACalls Tryz.prog 54 [.cptr o 4 0 0,.int .i64 0,.int .i64 (k:Int)] st (fun v st'=>v=.bool b∧st'=st) (fun _ _=>False)
 fail:∀ {st:St} {o:Nat},st.obj o=some (rsC (ts.map tokRow) a 0 0)→∀ (e:Nat),ACalls Tryz.prog 55 [.cptr o 4 0 0,.int .i64 (e:Int)] st (fun _ st'=>st'=st.set o (rsC (ts.map tokRow) a t.line e)) (fun _ _=>False)
theorem at_of {ts:List Tk} (H:RdT ts) {a:Nat} (ha:a < ts.length):∃ t,AtT ts a t:=by
 obtain ⟨t,t1,t2,t3,t4,t5⟩:=map_at ha;have hl:(ts.map tokRow).length≤100000:=by rw [List.length_map]; exact H.len
 exact ⟨t,t1,t3,t5,H.last _ _ t1,H.tk t (List.mem_of_getElem? t1),fun ho s b hb=>ris_ok (k:=0) ho t4 t2 hl s b hb,fun ho k b hb=>rkind_ok ho t4 t2 hl k b hb,fun ho e=>rfail_ok ho t4 t2 e⟩
def VU (_:AV) (_:Unit):Prop:=True
def VS (v:AV) (s:List UInt8):Prop:=v=.str s
theorem rtake_err {X:List (List AV)} {a ln e o:Nat} {st:St} (ho:st.obj o=some (rsC X a ln e)) (he:e=5∨e=7) (s:List UInt8) :
  ACalls Tryz.prog 51 [.cptr o 4 0 0,.str s] st (fun v st'=>(∃ y,VU v y)∧st'=st) (fun _ _=>False):=by
 refine ACalls.ofBody Tryz.func51 rfl Tryz.ntmps51 rfl ?_;unfold rsC at ho;rcases he with rfl|rfl
 ·refine goD ?_;exact AWP.ret (rets rfl (.refl _) (.refl _) ⟨⟨(),trivial⟩,rfl⟩)
 ·refine goD ?_;exact AWP.ret (rets rfl (.refl _) (.refl _) ⟨⟨(),trivial⟩,rfl⟩)
theorem rtake_ok {ts:List Tk} (H:RdT ts) {a o:Nat} {st:St} (ho:st.obj o=some (rsC (ts.map tokRow) a 0 0)) (ha:a < ts.length) (s:List UInt8) :
  ACalls Tryz.prog 51 [.cptr o 4 0 0,.str s] st (RfR ts o st VU (ftake s (ts.drop a))) (fun _ _=>False):=by
 refine ACalls.ofBody Tryz.func51 rfl Tryz.ntmps51 rfl ?_;obtain ⟨t,t1,t2,t3,t4,t5⟩:=map_at ha;have hl:(ts.map tokRow).length≤100000:=by rw [List.length_map]; exact H.len
 have hi:=fun b hb=>ris_ok (k:=0) ho t4 t2 hl s b hb
 have hf:=rfail_ok ho t4 t2 7;unfold rsC at ho;refine goD ?_;cases hb:wk t s with
 | true =>
  have ha1:=H.last _ _ t1 (wk_kind hb);refine cle rfl rfl (hi true hb) ?_;refine goD ?_;refine so (rows':=[[.view 4 (ts.map tokRow) .shared,.int .i64 ((a + 1:Nat):Int),.int .i64 0,.int .i64 0]]) rfl rfl rfl ho rfl rfl rfl rfl rfl ?_;refine goD ?_;exact rets rfl (.refl _) (.refl _) ⟨(),a + 1,0,0,trivial,ha1,rfl,.inl ⟨rfl,rfl,by rw [ftake,t3,hb,if_pos rfl,t5]⟩⟩
 | false =>
  refine cle rfl rfl (hi false hb) ?_;refine goD ?_;refine cl rfl rfl hf fun v st' hst=>?_;subst hst;refine goD ?_;exact AWP.ret (rets rfl (.refl _) (.refl _) ⟨(),a,t.line,7,trivial,ha,rfl,.inr ⟨.inr rfl,ts.drop a,by rw [ftake,t3,hb,if_neg (by decide)],by rw [t3]⟩⟩)
theorem rtake_t {ts:List Tk} (H:RdT ts) {a o:Nat} {st:St} {t:Tk} (A:AtT ts a t) (ho:st.obj o=some (rsC (ts.map tokRow) a 0 0)) (ha:a < ts.length) {s:List UInt8} (hs:wk t s=true) :
  ACalls Tryz.prog 51 [.cptr o 4 0 0,.str s] st (fun _ st'=>st'=st.set o (rsC (ts.map tokRow) (a + 1) 0 0)) (fun _ _=>False):=by
 refine ACalls.ofBody Tryz.func51 rfl Tryz.ntmps51 rfl ?_;have hi:=A.is ho s true hs;unfold rsC at ho;have hlen:=H.len;refine goD ?_;refine cle rfl rfl hi ?_;refine goD ?_;refine so (rows':=[[.view 4 (ts.map tokRow) .shared,.int .i64 ((a + 1:Nat):Int),.int .i64 0,.int .i64 0]]) rfl rfl rfl ho rfl rfl rfl rfl rfl ?_;refine goD ?_;exact rets rfl (.refl _) (.refl _) rfl
theorem rtake_u {α:Type} {ts:List Tk} (H:RdT ts) {r:QR α} {x:α} {a ln e o:Nat} {st:St} (hm:Rm ts r x a ln e) (ha:a < ts.length) (ho:st.obj o=some (rsC (ts.map tokRow) a ln e)) (s:List UInt8) (hs:letHd s=false) :
  ACalls Tryz.prog 51 [.cptr o 4 0 0,.str s] st (RuR ts o st VU r x (fneed s)) (fun _ _=>False) :=
 RuR.of hm ha ho (fun h=>by rw [← ftake_sg H ha hs]; exact rtake_ok H h ha s) (fun he=>rtake_err ho he s)
theorem Rm.map {α β:Type} {ts:List Tk} {r:QR α} {x:α} {a ln e:Nat} (h:Rm ts r x a ln e) (g:α→β):Rm ts (qb r fun x t=>.ok (g x,t)) (g x) a ln e:=by
 rcases h with ⟨h1,h2,h3⟩|⟨h1,t,h3,h4⟩
 ·exact .inl ⟨h1,h2,by rw [qb_ok h3]⟩
 ·exact .inr ⟨h1,t,by rw [qb_err h3],h4⟩
theorem Rm.ok {α:Type} {ts:List Tk} {r:QR α} {x:α} {a:Nat} (h:r=.ok (x,ts.drop a)):Rm ts r x a 0 0:=.inl ⟨rfl,rfl,h⟩
theorem Rm.to {α β:Type} {ts:List Tk} {r:QR α} {R:QR β} {x:α} {y:β} {a ln e:Nat} (h:Rm ts r x a ln e) (h1:r=.ok (x,ts.drop a)→R=.ok (y,ts.drop a)) (h2:∀ z,r=.error z→R=.error z):Rm ts R y a ln e:=by
 rcases h with ⟨k1,k2,k3⟩|⟨k1,t,k3,k4⟩
 ·exact .inl ⟨k1,k2,h1 k3⟩
 ·exact .inr ⟨k1,t,h2 _ k3,k4⟩
theorem rname_err {X:List (List AV)} {a ln e o:Nat} {st:St} (ho:st.obj o=some (rsC X a ln e)) (he:e=5∨e=7) :
  ACalls Tryz.prog 50 [.cptr o 4 0 0] st (fun v st'=>(∃ y,VS v y)∧st'=st) (fun _ _=>False):=by
 refine ACalls.ofBody Tryz.func50 rfl Tryz.ntmps50 rfl ?_;unfold rsC at ho;rcases he with rfl|rfl
 ·refine goD ?_;exact AWP.ret (rets rfl (.refl _) (.refl _) ⟨⟨[],rfl⟩,rfl⟩)
 ·refine goD ?_;exact AWP.ret (rets rfl (.refl _) (.refl _) ⟨⟨[],rfl⟩,rfl⟩)
theorem rname_ok {ts:List Tk} (H:RdT ts) {a o:Nat} {st:St} (ho:st.obj o=some (rsC (ts.map tokRow) a 0 0)) (ha:a < ts.length) :
  ACalls Tryz.prog 50 [.cptr o 4 0 0] st (RfR ts o st VS (fname (ts.drop a))) (fun _ _=>False):=by
 refine ACalls.ofBody Tryz.func50 rfl Tryz.ntmps50 rfl ?_;obtain ⟨t,t1,t2,t3,t4,t5⟩:=map_at ha;have hl:(ts.map tokRow).length≤100000:=by rw [List.length_map]; exact H.len
 have hi:=fun b hb=>rkind_ok ho t4 t2 hl 1 b hb
 have hf:=rfail_ok ho t4 t2 7;unfold rsC at ho;refine goD ?_;by_cases hk:t.kind=1
 ·have ha1:=H.last _ _ t1 (by rw [hk]; decide);refine cle rfl rfl (hi true (decide_eq_true hk)) ?_;refine goD ?_;refine so (rows':=[[.view 4 (ts.map tokRow) .shared,.int .i64 ((a + 1:Nat):Int),.int .i64 0,.int .i64 0]]) rfl rfl rfl ho rfl rfl rfl rfl rfl ?_;refine goC ?_;refine AWP.draw rfl 12 12 (fun _ _=>False) rfl ?_;refine goF ?_;refine dq rfl rfl rfl (fun st1 hle=>ix (m:=a) rfl rfl rfl (by omega) t4 (nl ⟨_,rfl,rfl,rfl⟩)) ?_;refine goF ?_;refine dn ⟨fun _=>?_,fun h=>absurd h (by decide)⟩;refine goD ?_;exact AWP.ret (rets rfl (.refl _) (.refl _) ⟨t.text,a + 1,0,0,rfl,ha1,rfl,.inl ⟨rfl,rfl,by rw [fname,t3,if_pos hk,t5]⟩⟩)
 ·refine cle rfl rfl (hi false (decide_eq_false hk)) ?_;refine goD ?_;refine cl rfl rfl hf fun v st' hst=>?_;subst hst;refine goD ?_;exact AWP.ret (rets rfl (.refl _) (.refl _) ⟨[],a,t.line,7,rfl,ha,rfl,.inr ⟨.inr rfl,ts.drop a,by rw [fname,t3,if_neg hk],by rw [t3]⟩⟩)
theorem rname_u {α:Type} {ts:List Tk} (H:RdT ts) {r:QR α} {x:α} {a ln e o:Nat} {st:St} (hm:Rm ts r x a ln e) (ha:a < ts.length) (ho:st.obj o=some (rsC (ts.map tokRow) a ln e)) :
  ACalls Tryz.prog 50 [.cptr o 4 0 0] st (RuR ts o st VS r x fname) (fun _ _=>False) :=
 RuR.of hm ha ho (fun h=>rname_ok H h ha) (fun he=>rname_err ho he)
end Go.Proofs
namespace Go.Proofs
open Go.AM
attribute [local irreducible] AWP AOps AAny ACalls
def VN (v:AV) (l:Names):Prop:=v=.view 1 (nrow l) .shared
theorem fnames_fmore {ts:List Tk} {n:List UInt8} {r:List Tk} (h:fname ts=.ok (n,r)):fnames ts=fmore (ts.length + 1) [n] r:=by rw [fnames,h]
theorem rnames_ok {ts:List Tk} (H:RdT ts) {a0 o:Nat} {st:St} (ho:st.obj o=some (rsC (ts.map tokRow) a0 0 0)) (ha0:a0 < ts.length) :
  ACalls Tryz.prog 52 [.cptr o 4 0 0] st (RfR ts o st VN (fnames (ts.drop a0))) (fun _ _=>False):=by
 refine ACalls.ofBody Tryz.func52 rfl Tryz.ntmps52 rfl ?_;have hl:(ts.map tokRow).length≤100000:=by rw [List.length_map]; exact H.len
 have hlen:=H.len;refine goD ?_;refine cl rfl rfl (rname_ok H ho ha0) fun v st' ⟨n,a,ln,e,hv,ha,hst,hr⟩=>?_;subst hv;subst hst;refine bs1o rfl rfl rfl rfl rfl rfl fun tk htk=>?_;refine goD ?_;refine AWP.loop (α:=Names × Nat × Nat × Nat × Nat × Nat) (fun y=>[(3,.view 1 (nrow y.1) (.own y.2.2.2.2.1 9)),(0,.cptr o 4 0 0)]) (fun y=>(st.set o (rsC (ts.map tokRow) y.2.1 y.2.2.1 y.2.2.2.1)).addTok y.2.2.2.2.1)
  (fun y=>y.2.1 < ts.length∧st.tok y.2.2.2.2.1=false∧y.1.length≤ts.length + 1∧((y.2.2.2.1=0∧y.2.2.1=0∧y.1.length≤y.2.1∧(ts.drop y.2.1).length < y.2.2.2.2.2∧fnames (ts.drop a0)=fmore y.2.2.2.2.2 y.1 (ts.drop y.2.1))∨((y.2.2.2.1=5∨y.2.2.2.1=7)∧∃ t,fnames (ts.drop a0)=.error (y.2.2.2.1,t)∧y.2.2.1=(hd t).line)))
  (fun y=>if y.2.2.2.1=0 then ts.length - y.2.1 + 1 else 0) ([n],a,ln,e,tk,(ts.drop a0).length + 1) ⟨ha,htk,by simp only [List.length_cons,List.length_nil]; omega,?_⟩ (tl2 rfl rfl) (.refl _) ?_
 ·rcases hr with ⟨k1,k2,k3⟩|⟨k1,t,k3,k4⟩
  ·have:=drop_lt ha0 (fname_lt k3 (drop_ne ha0));exact .inl ⟨k1,k2,by simp only [List.length_cons,List.length_nil]; omega,by simp only [List.length_drop]; omega,fnames_fmore k3⟩
  ·exact .inr ⟨k1,t,by rw [fnames,k3],k4⟩
 rintro ⟨l,a,ln,e,tk,fu⟩ ⟨h2,h3,h4,h6⟩;simp only at h2 h3 h4 h6;refine AWP.weaken (T':=[(3,.view 1 (nrow l) (.own tk 9)),(0,.cptr o 4 0 0)]) (st':=(st.set o (rsC (ts.map tokRow) a ln e)).addTok tk) (tl2 rfl rfl) (.refl _) ?_;have hok:∀ a ln e,((st.set o (rsC (ts.map tokRow) a ln e)).addTok tk).obj o=some (rsC (ts.map tokRow) a ln e):=fun _ _ _=>St.obj_set _ _ _
 have hset:∀ a ln e a' ln' e',((st.set o (rsC (ts.map tokRow) a ln e)).addTok tk).set o (rsC (ts.map tokRow) a' ln' e')=(st.set o (rsC (ts.map tokRow) a' ln' e')).addTok tk:=fun _ _ _ _ _ _=>by
  show ((st.addTok tk).set o _).set o _=(st.addTok tk).set o _;rw [St.set_set]
 have hM:=hok a ln e;unfold rsC at hM;rcases h6 with ⟨rfl,rfl,k3,k4,k5⟩|⟨he,t,k3,k4⟩
 ·obtain ⟨t,A⟩:=at_of H h2;obtain ⟨fu,rfl⟩:∃ f,fu=f + 1:=⟨fu - 1,by omega⟩;rw [fmore,A.hd_,A.tl] at k5;refine goD ?_;cases hs:wk t [44] with
  | true =>
   rw [if_pos (by rw [← wk_sg A.ok (by decide)]; exact hs)] at k5;have hk1:=A.more (wk_kind hs);refine cle rfl rfl (A.is (hok a 0 0) [44] true hs) ?_;refine goD ?_;refine cl rfl rfl (rtake_t H A (hok a 0 0) h2 hs) fun v st' hst=>?_;subst hst;rw [hset];refine goD ?_;refine cl rfl rfl (rname_ok H (hok (a + 1) 0 0) hk1) fun v st' ⟨n,b,ln2,e2,hv,hb,hst,hr⟩=>?_;subst hv;subst hst;rw [hset];refine goD ?_;refine ap rfl rfl rfl (St.tok_addTok _ _) rfl (by simp only [List.length_cons,List.length_nil,nrow_len]; omega) (by simp only [List.length_cons,List.length_nil,nrow_len,maxLen]; omega) fun tk' htk'=>?_;have hm:nrow l++[(AV.str n).cells]=nrow (l++[n]):=by unfold nrow; rw [List.map_append]; rfl
   rw [hm];refine goD ?_;refine ⟨(l++[n],b,ln2,e2,tk',fu),⟨hb,St.tok_of_add htk',by simp only [List.length_append,List.length_cons,List.length_nil]; omega,?_⟩,?_,(tl2 rfl rfl),StLe.reTok (st:=st.set o (rsC (ts.map tokRow) b ln2 e2)) h3 tk'⟩
   ·simp only;rcases hr with ⟨q1,q2,q3⟩|⟨q1,u,q3,q4⟩
    ·have:=drop_lt hk1 (fname_lt q3 (drop_ne hk1));exact .inl ⟨q1,q2,by simp only [List.length_append,List.length_cons,List.length_nil]; omega,by simp only [List.length_drop] at k4 ⊢; omega,by rw [k5,q3]⟩
    ·exact .inr ⟨q1,u,by rw [k5,q3],q4⟩
   ·simp only [if_pos];rcases hr with ⟨q1,q2,q3⟩|⟨q1,u,q3,q4⟩
    ·have:=drop_lt hk1 (fname_lt q3 (drop_ne hk1));rw [if_pos q1];omega
    ·rw [if_neg (by omega)];omega
  | false =>
   rw [if_neg (by rw [← wk_sg A.ok (by decide),hs]; decide)] at k5;refine cle rfl rfl (A.is (hok a 0 0) [44] false hs) ?_;refine goD ?_;refine AWP.exit (blk_hit ?_);refine goD ?_;exact AWP.ret (rets rfl (.shared _ _ _) (StLe.addTok _ (.refl _)) ⟨l,a,0,0,rfl,h2,rfl,.inl ⟨rfl,rfl,k5⟩⟩)
 ·have he0:¬ (e:Int)=0:=by omega
  refine goD ?_;refine AWP.exit (blk_hit ?_);refine goD ?_;exact AWP.ret (rets rfl (.shared _ _ _) (StLe.addTok _ (.refl _)) ⟨l,a,ln,e,rfl,h2,rfl,.inr ⟨he,t,k3,k4⟩⟩)
theorem rnames_err {ts:List Tk} {a ln e o:Nat} {st:St} (ho:st.obj o=some (rsC (ts.map tokRow) a ln e)) (he:e=5∨e=7) :
  ACalls Tryz.prog 52 [.cptr o 4 0 0] st (fun v st'=>(∃ y,VN v y)∧st'=st) (fun _ _=>False):=by
 refine ACalls.ofBody Tryz.func52 rfl Tryz.ntmps52 rfl ?_;have hn:=rname_err ho he
 have he0:¬ (e:Int)=0:=by omega
 have ho':=ho;unfold rsC at ho;refine goD ?_;refine cl rfl rfl hn fun v st' ⟨⟨n,hv⟩,hst⟩=>?_;subst hv;subst hst;refine bs1o rfl rfl rfl rfl rfl rfl fun tk htk=>?_;have hM:(st'.addTok tk).obj o=some (.cells 69 4 [[.view 4 (ts.map tokRow) .shared,.int .i64 (a:Int),.int .i64 (ln:Int),.int .i64 (e:Int)]]):=ho;refine goD ?_;refine AWP.loop (α:=Unit) (fun _=>[(3,.view 1 (nrow [n]) (.own tk 9)),(0,.cptr o 4 0 0)]) (fun _=>st'.addTok tk) (fun _=>True) (fun _=>0) () trivial (tl2 rfl rfl) (.refl _) ?_;intro _ _;refine AWP.weaken (T':=[(3,.view 1 (nrow [n]) (.own tk 9)),(0,.cptr o 4 0 0)]) (st':=st'.addTok tk) (tl2 rfl rfl) (.refl _) ?_;refine goD ?_;refine AWP.exit (blk_hit ?_);refine goD ?_;exact AWP.ret (rets rfl (.shared _ _ _) (StLe.addTok _ (.refl _)) ⟨⟨[n],rfl⟩,rfl⟩)
theorem rnames_u {α:Type} {ts:List Tk} (H:RdT ts) {r:QR α} {x:α} {a ln e o:Nat} {st:St} (hm:Rm ts r x a ln e) (ha:a < ts.length) (ho:st.obj o=some (rsC (ts.map tokRow) a ln e)) :
  ACalls Tryz.prog 52 [.cptr o 4 0 0] st (RuR ts o st VN r x fnames) (fun _ _=>False) :=
 RuR.of hm ha ho (fun h=>rnames_ok H h ha) (fun he=>rnames_err ho he)
theorem rstarts_ok {ts:List Tk} {a ln e o:Nat} {t:Tk} {st:St} (A:AtT ts a t) (ho:st.obj o=some (rsC (ts.map tokRow) a ln e)) (b:Bool) (hb:beg t=b) :
  ACalls Tryz.prog 125 [.cptr o 4 0 0] st (fun v st'=>v=.bool b∧st'=st) (fun _ _=>False):=by
 refine ACalls.ofBody Tryz.func125 rfl Tryz.ntmps125 rfl ?_;have is:=fun s (hs:letHd s=false) b (h:sg t s=b)=>A.is ho s b (by rw [wk_sg A.ok hs]; exact h)
 have kd:=A.kd ho;subst hb;unfold beg;refine goD ?_;by_cases h1:t.kind=1
 ·refine cle rfl rfl (kd 1 true (decide_eq_true h1)) ?_;rw [decide_eq_true h1];refine goD ?_;exact AWP.ret (rets rfl (.refl _) (.refl _) ⟨rfl,rfl⟩)
 refine cle rfl rfl (kd 1 false (decide_eq_false h1)) ?_;rw [decide_eq_false h1];refine goD ?_;by_cases h2:t.kind=2
 ·refine cle rfl rfl (kd 2 true (decide_eq_true h2)) ?_;rw [decide_eq_true h2];refine goD ?_;exact AWP.ret (rets rfl (.refl _) (.refl _) ⟨rfl,rfl⟩)
 refine cle rfl rfl (kd 2 false (decide_eq_false h2)) ?_;rw [decide_eq_false h2];refine goD ?_;cases h3:sg t [40] with
 | true =>
  refine cle rfl rfl (is [40] rfl true h3) ?_;refine goD ?_;refine AWP.ret (rets rfl (.refl _) (.refl _) (And.intro ?_ rfl));cases sg t [45] <;> cases sg t [33] <;> rfl
 | false =>
  refine cle rfl rfl (is [40] rfl false h3) ?_;refine goD ?_;cases h4:sg t [45] with
  | true =>
   refine cle rfl rfl (is [45] rfl true h4) ?_;refine goD ?_;exact AWP.ret (rets rfl (.refl _) (.refl _) ⟨rfl,rfl⟩)
  | false =>
   refine cle rfl rfl (is [45] rfl false h4) ?_;refine goD ?_;cases h5:sg t [33] with
   | true =>
    refine cle rfl rfl (is [33] rfl true h5) ?_;refine goD ?_;exact AWP.ret (rets rfl (.refl _) (.refl _) ⟨rfl,rfl⟩)
   | false =>
    refine cle rfl rfl (is [33] rfl false h5) ?_;refine goD ?_;exact AWP.ret (rets rfl (.refl _) (.refl _) ⟨rfl,rfl⟩)
def sgnV:List (List AV):=[[.str [43]],[.str [45]],[.str [42]],[.str [47]],[.str [37]],[.str [38]],[.str [124]],[.str [94]],[.str [60]],[.str [60,61]],[.str [61,61]],[.str [33,61]]]
def levV:List (List AV):=[[.int .i64 3],[.int .i64 3],[.int .i64 4],[.int .i64 4],[.int .i64 4],[.int .i64 2],[.int .i64 2],[.int .i64 2],[.int .i64 1],[.int .i64 1],[.int .i64 1],[.int .i64 1]]
theorem binL_lev:∀ m,m < 12→∃ s l,binL[m]?=some (s,l,6 + m)∧sgnV[m]?=some [.str s]∧levV[m]?=some [.int .i64 ((l:Nat):Int)]∧letHd s=false
 | 0,_=>⟨_,_,rfl,rfl,rfl,rfl⟩
 | 1,_=>⟨_,_,rfl,rfl,rfl,rfl⟩
 | 2,_=>⟨_,_,rfl,rfl,rfl,rfl⟩
 | 3,_=>⟨_,_,rfl,rfl,rfl,rfl⟩
 | 4,_=>⟨_,_,rfl,rfl,rfl,rfl⟩
 | 5,_=>⟨_,_,rfl,rfl,rfl,rfl⟩
 | 6,_=>⟨_,_,rfl,rfl,rfl,rfl⟩
 | 7,_=>⟨_,_,rfl,rfl,rfl,rfl⟩
 | 8,_=>⟨_,_,rfl,rfl,rfl,rfl⟩
 | 9,_=>⟨_,_,rfl,rfl,rfl,rfl⟩
 | 10,_=>⟨_,_,rfl,rfl,rfl,rfl⟩
 | 11,_=>⟨_,_,rfl,rfl,rfl,rfl⟩
 | n + 12,h=>absurd h (by omega)
theorem find_at {α:Type} {p:α→Bool}:∀ {l:List α} {m:Nat} {o:α},l[m]?=some o→(∀ j x,j < m→l[j]?=some x→p x=false)→p o=true→l.find? p=some o
 | [],m,o,h,_,_=>by simp at h
 | x::l,0,o,h,_,hp=>by
  cases h;rw [List.find?_cons,hp]
 | x::l,m + 1,o,h,hn,hp=>by
  rw [List.find?_cons,hn 0 x (by omega) rfl];exact find_at h (fun j y hj hy=>hn (j + 1) y (by omega) hy) hp
theorem find_no {α:Type} {p:α→Bool} {l:List α} (hn:∀ j x,j < l.length→l[j]?=some x→p x=false):l.find? p=none:=by
 rw [List.find?_eq_none];intro x hx;obtain ⟨j,hj⟩:=List.mem_iff_getElem?.1 hx;rw [hn j x (List.getElem?_eq_some_iff.1 hj).1 hj];decide
set_option maxHeartbeats 1000000 in
theorem rlevel_ok {ts:List Tk} {a ln e o:Nat} {t:Tk} {st:St} (A:AtT ts a t) (ho:st.obj o=some (rsC (ts.map tokRow) a ln e)) :
  ACalls Tryz.prog 117 [.cptr o 4 0 0] st (fun v st'=>v=.tuple [.int .i64 ((bin t).1:Int),.int .i64 ((bin t).2:Int)]∧st'=st) (fun _ _=>False):=by
 refine ACalls.ofBody Tryz.func117 rfl Tryz.ntmps117 rfl ?_;have is:=fun s (hs:letHd s=false) b (h:sg t s=b)=>A.is ho s b (by rw [wk_sg A.ok hs]; exact h);refine goD ?_;refine bsh (cs:=sgnV.flatten) rfl rfl rfl rfl rfl ?_;refine goD ?_;refine bsh (cs:=levV.flatten) rfl rfl rfl rfl rfl ?_;refine goD ?_;refine AWP.loop (α:=Nat) (fun i=>[(12,.int .i64 (i:Int)),(11,.int .i64 12),(10,.view 1 sgnV .shared),(5,.view 1 levV .shared),(0,.cptr o 4 0 0)]) (fun _=>st) (fun i=>i≤12∧∀ j x,j < i→binL[j]?=some x→sg t x.1=false) (fun i=>12 - i) 0
  ⟨by omega,fun j x h=>absurd h (by omega)⟩ (tl5 rfl rfl rfl rfl rfl) (.refl _) ?_
 rintro i ⟨h1,h2⟩;refine AWP.weaken (T':=[(12,.int .i64 (i:Int)),(11,.int .i64 12),(10,.view 1 sgnV .shared),(5,.view 1 levV .shared),(0,.cptr o 4 0 0)]) (tl5 rfl rfl rfl rfl rfl) (.refl _) ?_;by_cases hi:i < 12
 ·obtain ⟨s,l,q1,q2,q3,q4⟩:=binL_lev i hi;have hi1:i < sgnV.length:=hi
  have hi2:i < levV.length:=hi;refine goD ?_;cases hb:sg t s with
  | true =>
   refine cle rfl rfl (is s q4 true hb) ?_;refine goD ?_;refine adn (a:=6) rfl rfl rfl (by omega) ?_;refine goD ?_;refine AWP.ret (rets rfl (.refl _) (.refl _) (And.intro ?_ rfl));have hf:binL.find? (fun o=>sg t o.1)=some (s,l,6 + i):=find_at q1 h2 hb;unfold bin;rw [hf];rfl
  | false =>
   refine cle rfl rfl (is s q4 false hb) ?_;refine goD ?_;refine ⟨i + 1,⟨by omega,fun j x hj hx=>?_⟩,by omega,(tl5 rfl rfl rfl rfl rfl),.refl _⟩;rcases Nat.lt_or_ge j i with hji|hji
   ·exact h2 j x hji hx
   ·have:j=i:=by omega
    subst this;rw [q1] at hx;cases hx;exact hb
 ·refine goD ?_;refine AWP.exit (blk_hit ?_);refine goD ?_;refine AWP.ret (rets rfl (.refl _) (.refl _) (And.intro ?_ rfl));have hf:binL.find? (fun o=>sg t o.1)=none:=find_no fun j x hj hx=>h2 j x (by have:j < 12:=hj; omega) hx;unfold bin;rw [hf];rfl
def VX (v:AV) (x:Xp):Prop:=v=xv x
def RfeOk (ts:List Tk) (K:Nat):Prop:=∀ k,k≤K→∀ (lv d a o:Nat) (st:St),1≤lv→lv≤5→d≤9→a < ts.length→7 * (ts.length - a) + (6 - lv) < k→st.obj o=some (rsC (ts.map tokRow) a 0 0) →
 ACalls Tryz.prog 104 [.cptr o 4 0 0,.int .i64 (lv:Int),.int .i64 (d:Int)] st (RfR ts o st VX (fe k lv d (ts.drop a))) (fun _ _=>False)
theorem rtarget_ok {ts:List Tk} (H:RdT ts) {k:Nat} (hK:RfeOk ts k) {d a o:Nat} {st:St} (hd8:d≤8) (ho:st.obj o=some (rsC (ts.map tokRow) a 0 0)) (ha:a < ts.length) (hk:7 * (ts.length - a) < k + 2) :
  ACalls Tryz.prog 120 [.cptr o 4 0 0,.int .i64 (d:Int)] st (RfR ts o st VX (ftg k d (ts.drop a))) (fun _ _=>False):=by
 refine ACalls.inSet ho (ACalls.ofBody Tryz.func120 rfl Tryz.ntmps120 rfl ?_);have hlen:=H.len;refine goC ?_;refine rg ?_;refine al rfl rfl fun o2 h2=>?_
 replace h2:=none_set h2
 refine goD ?_;refine cl rfl rfl (rname_ok H (obj1 h2 _ _) ha) fun v st' ⟨n,b,ln,e,hv,hb,hst,hr⟩=>?_;subst hv;subst hst;rw [push1 h2];rcases hr with ⟨rfl,rfl,hr⟩|⟨he,u,hr,hl⟩
 ·have hab:=drop_lt ha (fname_lt hr (drop_ne ha));rw [ftg,qb_ok hr];obtain ⟨t,A⟩:=at_of H hb;rw [A.hd_,A.tl];have hM:((st.set o (rsC (ts.map tokRow) b 0 0)).set o2 (.cells 95 6 [exRow 0 0 [] [] nilV])).obj o=some (.cells 69 4 [[.view 4 (ts.map tokRow) .shared,.int .i64 (b:Int),.int .i64 0,.int .i64 0]]):=obj1 h2 _ _;refine goD ?_;cases c1:wk t [46] with
  | true =>
   rw [if_pos (by rw [← wk_sg A.ok (by decide)]; exact c1)];have hb1:=A.more (wk_kind c1);refine cle rfl rfl (A.is (obj1 h2 _ _) [46] true c1) ?_;refine goD ?_;refine so (rows':=[[.view 4 (ts.map tokRow) .shared,.int .i64 ((b + 1:Nat):Int),.int .i64 0,.int .i64 0]]) rfl rfl rfl hM rfl rfl rfl rfl rfl ?_;rw [push1 h2];refine goD ?_;refine cl rfl rfl (rname_ok H (obj1 h2 _ _) hb1) fun v st' ⟨n2,b2,ln,e,hv,hb2,hst,hr⟩=>?_;subst hv;subst hst;rw [push1 h2]
   skip
   refine bds (cs:=exRow 2 0 n n2 nilV) rfl rfl rfl rfl ?_;refine so (rows':=[exRow 2 0 n n2 nilV]) rfl rfl rfl (St.obj_set _ _ _) rfl rfl rfl rfl rfl ?_;rw [St.set_set];refine goD ?_;exact AWP.ret (rets (resCW rfl (St.obj_set _ _ _) rfl rfl rfl rfl) (ex_nil _ _ _ _) (drop1 h2 _ _) ⟨.fld n n2,b2,ln,e,rfl,hb2,rfl,hr.map _⟩)
  | false =>
   rw [if_neg (by rw [← wk_sg A.ok (by decide),c1]; decide)];refine cle rfl rfl (A.is (obj1 h2 _ _) [46] false c1) ?_;refine goD ?_;cases c2:wk t [91] with
   | true =>
    rw [if_pos (by rw [← wk_sg A.ok (by decide)]; exact c2)];have hb1:=A.more (wk_kind c2);refine cle rfl rfl (A.is (obj1 h2 _ _) [91] true c2) ?_;refine goD ?_;refine so (rows':=[[.view 4 (ts.map tokRow) .shared,.int .i64 ((b + 1:Nat):Int),.int .i64 0,.int .i64 0]]) rfl rfl rfl hM rfl rfl rfl rfl rfl ?_;rw [push1 h2];refine goD ?_;refine cl rfl rfl (hK k (Nat.le_refl _) 1 (d + 1) (b + 1) o _ (by decide) (by decide) (by omega) hb1 (by omega) (obj1 h2 _ _)) fun v st' ⟨x,b2,ln,e,hv,hb2,hst,hr⟩=>?_;subst hst;rw [push1 h2];obtain ⟨op,num,name,field,args,hx⟩:=xrow_ex x;unfold VX xv at hv;rw [hx] at hv;subst hv;refine goD ?_;refine cl rfl rfl (rtake_u H hr hb2 (obj1 h2 _ _) [93] rfl) fun v st' ⟨_,b3,ln3,e3,_,hb3,hst,hr3⟩=>?_;subst hst;rw [push1 h2];refine goD ?_;refine bds (cs:=exRow 3 0 n [] (.view 6 [exRow op num name field (.view 6 args .shared)] .shared)) rfl rfl rfl rfl ?_;refine so (rows':=[exRow 3 0 n [] (.view 6 [exRow op num name field (.view 6 args .shared)] .shared)]) rfl rfl rfl (St.obj_set _ _ _) rfl rfl rfl rfl rfl ?_;rw [St.set_set];refine goD ?_;refine AWP.ret (rets (resCW rfl (St.obj_set _ _ _) rfl rfl rfl rfl) (.refl _) (drop1 h2 _ _) ⟨.elt n x,b3,ln3,e3,?_,hb3,rfl,?_⟩)
    ·show AV.agg _=AV.agg (exRow 3 0 n [] (.view 6 [xrow x] .shared));rw [hx] <;> rfl
    ·have:=hr3.map fun p=>Xp.elt n p.1
     simpa only [qp,qb_qb,qb_ret] using this
   | false =>
    rw [if_neg (by rw [← wk_sg A.ok (by decide),c2]; decide)];refine cle rfl rfl (A.is (obj1 h2 _ _) [91] false c2) ?_;refine goD ?_;refine bds (cs:=exRow 1 0 n [] nilV) rfl rfl rfl rfl ?_;refine so (rows':=[exRow 1 0 n [] nilV]) rfl rfl rfl (St.obj_set _ _ _) rfl rfl rfl rfl rfl ?_;rw [St.set_set];refine goD ?_;exact AWP.ret (rets (resCW rfl (St.obj_set _ _ _) rfl rfl rfl rfl) (ex_nil _ _ _ _) (drop1 h2 _ _) ⟨.var n,b,0,0,rfl,hb,rfl,.ok rfl⟩)
 ·have he0:¬ (e:Int)=0:=by omega
  have hM:((st.set o (rsC (ts.map tokRow) b ln e)).set o2 (.cells 95 6 [exRow 0 0 [] [] nilV])).obj o=some (.cells 69 4 [[.view 4 (ts.map tokRow) .shared,.int .i64 (b:Int),.int .i64 (ln:Int),.int .i64 (e:Int)]]):=obj1 h2 _ _;refine goD ?_;refine bds (cs:=exRow 1 0 n [] nilV) rfl rfl rfl rfl ?_;refine so (rows':=[exRow 1 0 n [] nilV]) rfl rfl rfl (St.obj_set _ _ _) rfl rfl rfl rfl rfl ?_;rw [St.set_set];refine goD ?_;exact AWP.ret (rets (resCW rfl (St.obj_set _ _ _) rfl rfl rfl rfl) (ex_nil _ _ _ _) (drop1 h2 _ _) ⟨.var n,b,ln,e,rfl,hb,rfl,.inr ⟨he,u,by rw [ftg,qb_err hr],hl⟩⟩)
def RfoOk (ts:List Tk) (K:Nat):Prop:=∀ k,k≤K→∀ (d a o:Nat) (st:St),d≤9→a < ts.length→7 * (ts.length - a) < k→st.obj o=some (rsC (ts.map tokRow) a 0 0) →
 ACalls Tryz.prog 116 [.cptr o 4 0 0,.int .i64 (d:Int)] st (RfR ts o st VX (fo k d (ts.drop a))) (fun _ _=>False)
def pmV:List (List AV):=[[.str [45]],[.str [33]]]
theorem zx_le:Le (.agg (exRow 0 0 [] [] nilV)) (xv (.lit 0)):=ex_nil _ _ _ _
set_option maxHeartbeats 1000000 in
theorem runary_step {ts:List Tk} (H:RdT ts) {k:Nat} (hE:RfeOk ts k) (hU:RfoOk ts k) {d a o:Nat} {st:St} (hd9:d≤9) (ho:st.obj o=some (rsC (ts.map tokRow) a 0 0)) (ha:a < ts.length) (hk:7 * (ts.length - a) < k + 1) :
  ACalls Tryz.prog 116 [.cptr o 4 0 0,.int .i64 (d:Int)] st (RfR ts o st VX (fo (k + 1) d (ts.drop a))) (fun _ _=>False):=by
 refine ACalls.inSet ho (ACalls.ofBody Tryz.func116 rfl Tryz.ntmps116 rfl ?_);have hlen:=H.len;refine goC ?_;refine rg ?_;refine al rfl rfl fun o2 h2=>?_
 replace h2:=none_set h2
 obtain ⟨t,A⟩:=at_of H ha;have hM:((st.set o (rsC (ts.map tokRow) a 0 0)).set o2 (.cells 95 6 [exRow 0 0 [] [] nilV])).obj o=some (.cells 69 4 [[.view 4 (ts.map tokRow) .shared,.int .i64 (a:Int),.int .i64 0,.int .i64 0]]):=obj1 h2 _ _;refine goD ?_;by_cases hb:beg t=true
 rotate_left
 ·refine cle rfl rfl (rstarts_ok A (obj1 h2 _ _) false (by rw [Bool.not_eq_true] at hb; exact hb)) ?_;refine goD ?_;refine cl rfl rfl (A.fail (obj1 h2 _ _) 7) fun v st' hst=>?_;subst hst;rw [push1 h2];refine goD ?_;refine bds (cs:=exRow 0 0 [] [] nilV) rfl rfl rfl rfl ?_;refine so (rows':=[exRow 0 0 [] [] nilV]) rfl rfl rfl (St.obj_set _ _ _) rfl rfl rfl rfl rfl ?_;rw [St.set_set];refine goD ?_;exact AWP.ret (rets (resCW rfl (St.obj_set _ _ _) rfl rfl rfl rfl) zx_le (drop1 h2 _ _) ⟨.lit 0,a,t.line,7,rfl,ha,rfl,.inr ⟨.inr rfl,_,by rw [fo,A.hd_,if_neg hb],by rw [A.hd_]⟩⟩)
 refine cle rfl rfl (rstarts_ok A (obj1 h2 _ _) true hb) ?_;refine goD ?_;by_cases h8:8 < d
 ·refine goD ?_;refine cl rfl rfl (A.fail (obj1 h2 _ _) 5) fun v st' hst=>?_;subst hst;rw [push1 h2];refine goD ?_;refine bds (cs:=exRow 0 0 [] [] nilV) rfl rfl rfl rfl ?_;refine so (rows':=[exRow 0 0 [] [] nilV]) rfl rfl rfl (St.obj_set _ _ _) rfl rfl rfl rfl rfl ?_;rw [St.set_set];refine goD ?_;exact AWP.ret (rets (resCW rfl (St.obj_set _ _ _) rfl rfl rfl rfl) zx_le (drop1 h2 _ _) ⟨.lit 0,a,t.line,5,rfl,ha,rfl,.inr ⟨.inl rfl,_,by rw [fo,A.hd_,if_pos hb,if_pos h8],by rw [A.hd_]⟩⟩)
 have hk0:t.kind≠0:=by
  rcases beg_cases hb with h|h|⟨h,_⟩ <;> rw [h] <;> decide
 have ha1:=A.more hk0;refine goD ?_;refine bsh (cs:=pmV.flatten) rfl rfl rfl rfl rfl ?_;refine goD ?_;refine AWP.loop (α:=Nat) (fun i=>[(27,.int .i64 (i:Int)),(26,.int .i64 2),(25,.view 1 pmV .shared),(4,.cptr o2 6 0 0),(1,.int .i64 (d:Int)),(0,.cptr o 4 0 0)]) (fun _=>(st.set o (rsC (ts.map tokRow) a 0 0)).set o2 (.cells 95 6 [exRow 0 0 [] [] nilV]))
  (fun i=>i≤2∧(1≤i→sg t [45]=false)∧(2≤i→sg t [33]=false)) (fun i=>2 - i) 0
  ⟨by omega,fun h=>absurd h (by omega),fun h=>absurd h (by omega)⟩ (tl6 rfl rfl rfl rfl rfl rfl) (.refl _) ?_
 rintro i ⟨i1,i2,i3⟩;refine AWP.weaken (T':=[(27,.int .i64 (i:Int)),(26,.int .i64 2),(25,.view 1 pmV .shared),(4,.cptr o2 6 0 0),(1,.int .i64 (d:Int)),(0,.cptr o 4 0 0)]) (tl6 rfl rfl rfl rfl rfl rfl) (.refl _) ?_;by_cases hi:i < 2
 ·have hi1:i < pmV.length:=hi;obtain ⟨s,hs,q1,q2⟩:∃ s,pmV[i]?=some [.str s]∧letHd s=false∧((i=0∧s=[45])∨(i=1∧s=[33])):=by
   rcases (by omega:i=0∨i=1) with rfl|rfl
   ·exact ⟨_,rfl,rfl,.inl ⟨rfl,rfl⟩⟩
   ·exact ⟨_,rfl,rfl,.inr ⟨rfl,rfl⟩⟩
  refine goD ?_;cases c1:wk t s with
  | true =>
   have hsg:=c1;rw [wk_sg A.ok q1] at hsg;have k4:t.kind=4:=(of_decide_eq_true hsg).1
   have tx:t.text=s:=(of_decide_eq_true hsg).2
   have e0:fo (k + 1) d (ts.drop a)=qb (fo k (d + 1) (ts.drop (a + 1))) fun x r=>.ok (.una (4 + i) x,r):=by
    rw [fo,A.hd_,A.tl,if_pos hb,if_neg h8,if_neg (by omega),if_neg (by omega),if_neg (by rcases q2 with ⟨_,q⟩|⟨_,q⟩ <;> rw [tx,q] <;> decide)]
    cases fo k (d + 1) (ts.drop (a + 1)) with
    | error e=>rfl
    | ok p =>
     show _=Except.ok (Xp.una (4 + i) p.1,p.2);rcases q2 with ⟨rfl,q⟩|⟨rfl,q⟩
     ·show Except.ok _=_;rw [if_pos (by rw [tx,q])]
     ·show Except.ok _=_;rw [if_neg (by rw [tx,q]; decide)]
   refine cle rfl rfl (A.is (obj1 h2 _ _) s true c1) ?_;refine goD ?_;refine so (rows':=[[.view 4 (ts.map tokRow) .shared,.int .i64 ((a + 1:Nat):Int),.int .i64 0,.int .i64 0]]) rfl rfl rfl hM rfl rfl rfl rfl rfl ?_;rw [push1 h2];refine goD ?_;refine adn (a:=4) rfl rfl rfl (by omega) ?_;refine goD ?_;refine cl rfl rfl (hU k (Nat.le_refl _) (d + 1) (a + 1) o _ (by omega) ha1 (by omega) (obj1 h2 _ _)) fun v st' ⟨x,b,ln,e,hv,hb2,hst,hr⟩=>?_;subst hst;rw [push1 h2];obtain ⟨op,num,name,field,args,hx⟩:=xrow_ex x;unfold VX xv at hv;rw [hx] at hv;subst hv;refine goD ?_;refine bds (cs:=exRow ((4 + i:Nat):Int) 0 [] [] (.view 6 [exRow op num name field (.view 6 args .shared)] .shared)) rfl rfl rfl rfl ?_;refine so (rows':=[exRow ((4 + i:Nat):Int) 0 [] [] (.view 6 [exRow op num name field (.view 6 args .shared)] .shared)]) rfl rfl rfl (St.obj_set _ _ _) rfl rfl rfl rfl rfl ?_;rw [St.set_set];refine goD ?_;refine AWP.ret (rets (resCW rfl (St.obj_set _ _ _) rfl rfl rfl rfl) (.refl _) (drop1 h2 _ _) ⟨.una (4 + i) x,b,ln,e,?_,hb2,rfl,by rw [e0]; exact hr.map _⟩);show AV.agg _=AV.agg (exRow _ 0 [] [] (.view 6 [xrow x] .shared));rw [hx] <;> rfl
  | false =>
   refine cle rfl rfl (A.is (obj1 h2 _ _) s false c1) ?_;refine goD ?_;rw [wk_sg A.ok q1] at c1;refine ⟨i + 1,⟨by omega,fun h=>?_,fun h=>?_⟩,by omega,(tl6 rfl rfl rfl rfl rfl rfl),.refl _⟩
   ·rcases q2 with ⟨rfl,q⟩|⟨rfl,q⟩
    ·rw [← q]; exact c1
    ·exact i2 (by decide)
   ·rcases q2 with ⟨rfl,q⟩|⟨rfl,q⟩
    ·exact absurd h (by decide)
    ·rw [← q]; exact c1
 ·have s1:=i2 (by omega)
  have s2:=i3 (by omega);refine goD ?_;refine AWP.exit (blk_hit ?_);refine goD ?_;by_cases c2:t.kind=2
  ·refine cle rfl rfl (A.kd (obj1 h2 _ _) 2 true (decide_eq_true c2)) ?_;refine goD ?_;refine so (rows':=[[.view 4 (ts.map tokRow) .shared,.int .i64 ((a + 1:Nat):Int),.int .i64 0,.int .i64 0]]) rfl rfl rfl hM rfl rfl rfl rfl rfl ?_;rw [push1 h2];have hM1:((st.set o (rsC (ts.map tokRow) (a + 1) 0 0)).set o2 (.cells 95 6 [exRow 0 0 [] [] nilV])).obj o=some (.cells 69 4 [[.view 4 (ts.map tokRow) .shared,.int .i64 ((a + 1:Nat):Int),.int .i64 0,.int .i64 0]]):=obj1 h2 _ _;obtain ⟨t',t1,t2,t3,t4,t5⟩:=map_at ha;have h1:=A.at_;rw [t1] at h1;cases h1;refine goC ?_;refine AWP.draw rfl 13 13 (fun _ _=>False) rfl ?_;refine goF ?_;refine dq rfl rfl rfl (fun st1 hle=>ix (m:=a) rfl rfl rfl (by omega) t4 (nl ⟨_,rfl,rfl,rfl⟩)) ?_;refine goF ?_;refine dq rfl rfl rfl (fun st1 hle=>bds (cs:=exRow 0 t.num [] [] nilV) rfl rfl rfl rfl (nl ⟨_,rfl,rfl,rfl⟩)) ?_;refine dn ⟨fun _=>?_,fun h=>absurd h (by decide)⟩;refine so (rows':=[exRow 0 t.num [] [] nilV]) rfl rfl rfl (St.obj_set _ _ _) rfl rfl rfl rfl rfl ?_;rw [St.set_set];refine goD ?_;exact AWP.ret (rets (resCW rfl (St.obj_set _ _ _) rfl rfl rfl rfl) (ex_nil _ _ _ _) (drop1 h2 _ _) ⟨.lit t.num,a + 1,0,0,rfl,ha1,rfl,.ok (by rw [fo,A.hd_,A.tl,if_pos hb,if_neg h8,if_pos c2])⟩)
  ·refine cle rfl rfl (A.kd (obj1 h2 _ _) 2 false (decide_eq_false c2)) ?_;refine goD ?_;cases c3:wk t [40] with
   | true =>
    have hsg:=c3;rw [wk_sg A.ok rfl] at hsg;have k4:t.kind=4:=(of_decide_eq_true hsg).1
    have tx:t.text=[40]:=(of_decide_eq_true hsg).2
    have e0:fo (k + 1) d (ts.drop a)=qb (fe k 1 (d + 1) (ts.drop (a + 1))) fun x r=>qb (fneed [41] r) fun _ r2=>.ok (x,r2):=by
     rw [fo,A.hd_,A.tl,if_pos hb,if_neg h8,if_neg (by omega),if_neg (by omega),if_pos tx];cases fe k 1 (d + 1) (ts.drop (a + 1)) with
     | error e=>rfl
     | ok p =>
      obtain ⟨x,r⟩:=p;rw [qb_ok rfl];simp only;unfold fneed;by_cases q:sg (hd r) [41]=true
      ·rw [if_pos q,if_pos q]; rfl
      ·rw [if_neg q,if_neg q]; rfl
    refine cle rfl rfl (A.is (obj1 h2 _ _) [40] true c3) ?_;refine goD ?_;refine so (rows':=[[.view 4 (ts.map tokRow) .shared,.int .i64 ((a + 1:Nat):Int),.int .i64 0,.int .i64 0]]) rfl rfl rfl hM rfl rfl rfl rfl rfl ?_;rw [push1 h2];refine goD ?_;refine cl rfl rfl (hE k (Nat.le_refl _) 1 (d + 1) (a + 1) o _ (by decide) (by decide) (by omega) ha1 (by omega) (obj1 h2 _ _)) fun v st' ⟨x,b,ln,e,hv,hb2,hst,hr⟩=>?_;subst hst;rw [push1 h2];obtain ⟨op,num,name,field,args,hx⟩:=xrow_ex x;unfold VX xv at hv;rw [hx] at hv;subst hv;refine goD ?_;refine cl rfl rfl (rtake_u H hr hb2 (obj1 h2 _ _) [41] rfl) fun v st' ⟨_,b3,ln3,e3,_,hb3,hst,hr3⟩=>?_;subst hst;rw [push1 h2];refine goD ?_;refine so (rows':=[exRow op num name field (.view 6 args .shared)]) rfl rfl rfl (St.obj_set _ _ _) rfl rfl rfl rfl rfl ?_;rw [St.set_set];refine goD ?_;refine AWP.ret (rets (resCW rfl (St.obj_set _ _ _) rfl rfl rfl rfl) (.refl _) (drop1 h2 _ _) ⟨x,b3,ln3,e3,?_,hb3,rfl,?_⟩)
    ·show AV.agg _=AV.agg (xrow x);rw [hx] <;> rfl
    ·have:=hr3.map fun p=>p.1;rw [e0]
     simpa only [qp,qb_qb,qb_ret] using this
   | false =>
    have s3:=c3;rw [wk_sg A.ok rfl] at s3;have k1:t.kind=1:=by
     rcases beg_cases hb with h|h|⟨h,k|k|k⟩
     ·exact h
     ·exact absurd h c2
     ·rw [show sg t [45]=true from decide_eq_true ⟨h,k⟩] at s1; cases s1
     ·rw [show sg t [33]=true from decide_eq_true ⟨h,k⟩] at s2; cases s2
     ·rw [show sg t [40]=true from decide_eq_true ⟨h,k⟩] at s3; cases s3
    refine cle rfl rfl (A.is (obj1 h2 _ _) [40] false c3) ?_;refine goD ?_;refine cl rfl rfl (rtarget_ok H hE (by omega) (obj1 h2 _ _) ha (by omega)) fun v st' ⟨x,b,ln,e,hv,hb2,hst,hr⟩=>?_;subst hst;rw [push1 h2];obtain ⟨op,num,name,field,args,hx⟩:=xrow_ex x;unfold VX xv at hv;rw [hx] at hv;subst hv;refine so (rows':=[exRow op num name field (.view 6 args .shared)]) rfl rfl rfl (St.obj_set _ _ _) rfl rfl rfl rfl rfl ?_;rw [St.set_set];refine goD ?_;refine AWP.ret (rets (resCW rfl (St.obj_set _ _ _) rfl rfl rfl rfl) (.refl _) (drop1 h2 _ _) ⟨x,b,ln,e,?_,hb2,rfl,by rw [fo_name (by rw [A.hd_]; exact k1) h8]; exact hr⟩);show AV.agg _=AV.agg (xrow x);rw [hx] <;> rfl
abbrev zE:AObj:=.cells 95 6 [exRow 0 0 [] [] nilV]
theorem runary_err {X:List (List AV)} {a ln e o:Nat} {st:St} (ho:st.obj o=some (rsC X a ln e)) (he:e=5∨e=7) (d:Nat) :
  ACalls Tryz.prog 116 [.cptr o 4 0 0,.int .i64 (d:Int)] st (fun v st'=>v=.agg (exRow 0 0 [] [] nilV)∧st'=st) (fun _ _=>False):=by
 refine ACalls.inSet ho (ACalls.ofBody Tryz.func116 rfl Tryz.ntmps116 rfl ?_);have he0:¬ (e:Int)=0:=by omega
 refine goC ?_;refine rg ?_;refine al rfl rfl fun o2 h2=>?_
 replace h2:=none_set h2
 have hM:((st.set o (rsC X a ln e)).set o2 zE).obj o=some (.cells 69 4 [[.view 4 X .shared,.int .i64 (a:Int),.int .i64 (ln:Int),.int .i64 (e:Int)]]):=obj1 h2 _ _;refine goD ?_;refine bds (cs:=exRow 0 0 [] [] nilV) rfl rfl rfl rfl ?_;refine so (rows':=[exRow 0 0 [] [] nilV]) rfl rfl rfl (St.obj_set _ _ _) rfl rfl rfl rfl rfl ?_;rw [St.set_set];refine goD ?_;exact AWP.ret (rets (resCW rfl (St.obj_set _ _ _) rfl rfl rfl rfl) (.refl _) (drop1 h2 _ _) ⟨rfl,St.set_same ho⟩)
theorem rexpr_err:∀ (j:Nat) {X:List (List AV)} {a ln e o:Nat} {st:St} (_:st.obj o=some (rsC X a ln e)) (_:e=5∨e=7) (lv d:Nat) (_:lv + j=5),
  ACalls Tryz.prog 104 [.cptr o 4 0 0,.int .i64 (lv:Int),.int .i64 (d:Int)] st (fun v st'=>v=.agg (exRow 0 0 [] [] nilV)∧st'=st) (fun _ _=>False):=by
 intro j X a ln e o st ho he lv d hj;refine ACalls.inSet ho (ACalls.ofBody Tryz.func104 rfl Tryz.ntmps104 rfl ?_);have he0:¬ (e:Int)=0:=by omega
 refine goC ?_;refine rg ?_;refine al rfl rfl fun o2 h2=>?_
 replace h2:=none_set h2
 refine goC ?_;refine rg ?_;refine al rfl rfl fun o3 h3=>?_
 replace h3:=none_set2 h3
 have hM:(((st.set o (rsC X a ln e)).set o2 zE).set o3 zE).obj o=some (.cells 69 4 [[.view 4 X .shared,.int .i64 (a:Int),.int .i64 (ln:Int),.int .i64 (e:Int)]]):=obj2 h2 h3 _ _ _;refine nl ?_;refine AWP.seq ?_;refine midk [(7,.cptr o3 6 0 0),(6,.cptr o2 6 0 0),(2,.int .i64 (d:Int)),(1,.int .i64 (lv:Int)),(0,.cptr o 4 0 0)] (((st.set o (rsC X a ln e)).set o2 zE).set o3 zE) ?_ ?_
 ·by_cases h5:lv=5
  ·have h5':(lv:Int)=5:=by omega
   refine goD ?_;refine cl rfl rfl (runary_err (obj2 h2 h3 _ _ _) he d) fun v st' ⟨hv,hst⟩=>?_;subst hv;subst hst;refine so (rows':=[exRow 0 0 [] [] nilV]) rfl rfl rfl (St.obj_set _ _ _) rfl rfl rfl rfl rfl ?_;rw [St.set_set];refine nl ⟨(tl5 rfl rfl rfl rfl rfl),.refl _⟩
  ·have h5':¬ (lv:Int)=5:=by omega
   refine goD ?_;obtain ⟨j,rfl⟩:∃ i,j=i + 1:=⟨j - 1,by omega⟩;refine cl rfl rfl (rexpr_err j (obj2 h2 h3 _ _ _) he (lv + 1) d (by omega)) fun v st' ⟨hv,hst⟩=>?_;subst hv;subst hst;refine so (rows':=[exRow 0 0 [] [] nilV]) rfl rfl rfl (St.obj_set _ _ _) rfl rfl rfl rfl rfl ?_;rw [St.set_set];refine nl ⟨(tl5 rfl rfl rfl rfl rfl),.refl _⟩
 refine goD ?_;refine AWP.loop (α:=Unit) (fun _=>[(7,.cptr o3 6 0 0),(6,.cptr o2 6 0 0),(1,.int .i64 (lv:Int)),(0,.cptr o 4 0 0)]) (fun _=>((st.set o (rsC X a ln e)).set o2 zE).set o3 zE) (fun _=>True) (fun _=>0) () trivial (tl4 rfl rfl rfl rfl) (.refl _) ?_;intro _ _;refine AWP.weaken (T':=[(7,.cptr o3 6 0 0),(6,.cptr o2 6 0 0),(1,.int .i64 (lv:Int)),(0,.cptr o 4 0 0)]) (st':=((st.set o (rsC X a ln e)).set o2 zE).set o3 zE) (tl4 rfl rfl rfl rfl) (.refl _) ?_;refine goD ?_;refine AWP.exit (blk_hit ?_);refine goD ?_;refine soU rfl (Ne.symm (set_ne_new (h3 ob0 ob0))) rfl rfl rfl rfl rfl ?_;refine goD ?_;exact AWP.ret (rets (resCW rfl (St.obj_under (Ne.symm (set_ne_new (h3 ob0 ob0))) _ _) rfl rfl rfl rfl) (.refl _) (drop2 h2 h3 _ _ _) ⟨rfl,St.set_same ho⟩)
set_option maxHeartbeats 1000000 in
theorem rexpr_step {ts:List Tk} (H:RdT ts) {k:Nat} (hE:RfeOk ts k) (hU:RfoOk ts k) {lv d a o:Nat} {st:St} (h1:1≤lv) (h5:lv≤5) (hd9:d≤9) (ho:st.obj o=some (rsC (ts.map tokRow) a 0 0)) (ha:a < ts.length) (hk:7 * (ts.length - a) + (6 - lv) < k + 1) :
  ACalls Tryz.prog 104 [.cptr o 4 0 0,.int .i64 (lv:Int),.int .i64 (d:Int)] st (RfR ts o st VX (fe (k + 1) lv d (ts.drop a))) (fun _ _=>False):=by
 refine ACalls.inSet ho (ACalls.ofBody Tryz.func104 rfl Tryz.ntmps104 rfl ?_);have hlen:=H.len;refine goC ?_;refine rg ?_;refine al rfl rfl fun o2 h2=>?_
 replace h2:=none_set h2
 refine goC ?_;refine rg ?_;refine al rfl rfl fun o3 h3=>?_
 replace h3:=none_set2 h3
 have n3:o2≠o3:=set_ne_new (h3 ob0 ob0);by_cases h55:lv=5
 ·subst h55;refine goD ?_;refine cl rfl rfl (hU k (Nat.le_refl _) d a o _ hd9 ha (by omega) (obj2 h2 h3 _ _ _)) fun v st' ⟨x,b,ln,e,hv,hb,hst,hr⟩=>?_;subst hst;rw [push2 h2 h3];obtain ⟨op,num,name,field,args,hx⟩:=xrow_ex x;unfold VX xv at hv;rw [hx] at hv;subst hv;refine so (rows':=[exRow op num name field (.view 6 args .shared)]) rfl rfl rfl (St.obj_set _ _ _) rfl rfl rfl rfl rfl ?_;rw [St.set_set];refine goD ?_;refine AWP.loop (α:=Unit) (fun _=>[(7,.cptr o3 6 0 0),(6,.cptr o2 6 0 0),(1,.int .i64 5),(0,.cptr o 4 0 0)]) (fun _=>((st.set o (rsC (ts.map tokRow) b ln e)).set o2 zE).set o3 (.cells 95 6 [exRow op num name field (.view 6 args .shared)])) (fun _=>True) (fun _=>0) () trivial (tl4 rfl rfl rfl rfl) (.refl _) ?_;intro _ _;refine AWP.weaken (T':=[(7,.cptr o3 6 0 0),(6,.cptr o2 6 0 0),(1,.int .i64 5),(0,.cptr o 4 0 0)]) (st':=((st.set o (rsC (ts.map tokRow) b ln e)).set o2 zE).set o3 (.cells 95 6 [exRow op num name field (.view 6 args .shared)])) (tl4 rfl rfl rfl rfl) (.refl _) ?_;have hM:(((st.set o (rsC (ts.map tokRow) b ln e)).set o2 zE).set o3 (.cells 95 6 [exRow op num name field (.view 6 args .shared)])).obj o=some (.cells 69 4 [[.view 4 (ts.map tokRow) .shared,.int .i64 (b:Int),.int .i64 (ln:Int),.int .i64 (e:Int)]]):=obj2 h2 h3 _ _ _;by_cases he:e=0
  ·subst he;refine goD ?_;refine AWP.exit (blk_hit ?_);refine goD ?_;refine soU rfl (Ne.symm n3) rfl rfl rfl rfl rfl ?_;refine goD ?_;refine AWP.ret (rets (resCW rfl (St.obj_under (Ne.symm n3) _ _) rfl rfl rfl rfl) (.refl _) (drop2 h2 h3 _ _ _) ⟨x,b,ln,0,?_,hb,rfl,by rw [fe,if_pos (Nat.le_refl _)]; exact hr⟩);show AV.agg _=AV.agg (xrow x);rw [hx] <;> rfl
  ·have he0:¬ (e:Int)=0:=by omega
   refine goD ?_;refine AWP.exit (blk_hit ?_);refine goD ?_;refine soU rfl (Ne.symm n3) rfl rfl rfl rfl rfl ?_;refine goD ?_;refine AWP.ret (rets (resCW rfl (St.obj_under (Ne.symm n3) _ _) rfl rfl rfl rfl) (.refl _) (drop2 h2 h3 _ _ _) ⟨x,b,ln,e,?_,hb,rfl,by rw [fe,if_pos (Nat.le_refl _)]; exact hr⟩);show AV.agg _=AV.agg (xrow x);rw [hx] <;> rfl
 have h4:lv≤4:=by omega
 have h55':¬ (lv:Int)=5:=by omega
 refine goD ?_;refine cl rfl rfl (hE k (Nat.le_refl _) (lv + 1) d a o _ (by omega) (by omega) hd9 ha (by omega) (obj2 h2 h3 _ _ _)) fun v st' ⟨x,b,ln,e,hv,hb,hst,hr⟩=>?_;subst hst;rw [push2 h2 h3];obtain ⟨op,num,name,field,args,hx⟩:=xrow_ex x;unfold VX xv at hv;rw [hx] at hv;subst hv;refine so (rows':=[exRow op num name field (.view 6 args .shared)]) rfl rfl rfl (St.obj_set _ _ _) rfl rfl rfl rfl rfl ?_;rw [St.set_set,← hx];have hfe:fe (k + 1) lv d (ts.drop a)=qb (fe k (lv + 1) d (ts.drop a)) fun x r=>fl k lv d x r:=by
  rw [fe,if_neg (by omega)];cases fe k (lv + 1) d (ts.drop a) <;> rfl
 have hba:∀ x,fe k (lv + 1) d (ts.drop a)=.ok (x,ts.drop b)→a < b:=fun x h=>by
  have:=(fe_all k).1 (lv + 1) d (ts.drop a) (by omega) (by omega) (by rw [List.length_drop]; omega);rw [h] at this;exact drop_lt ha this
 refine goD ?_;refine AWP.loop (α:=Xp × Nat × Nat × Nat × Nat) (fun _=>[(7,.cptr o3 6 0 0),(6,.cptr o2 6 0 0),(2,.int .i64 (d:Int)),(1,.int .i64 (lv:Int)),(0,.cptr o 4 0 0)])
  (fun y=>((st.set o (rsC (ts.map tokRow) y.2.1 y.2.2.1 y.2.2.2.1)).set o2 zE).set o3 (.cells 95 6 [xrow y.1]))
  (fun y=>y.2.1 < ts.length∧((y.2.2.2.1=0∧y.2.2.1=0∧y.2.2.2.2≤k∧7 * (ts.length - y.2.1) < y.2.2.2.2∧fe (k + 1) lv d (ts.drop a)=fl y.2.2.2.2 lv d y.1 (ts.drop y.2.1))∨((y.2.2.2.1=5∨y.2.2.2.1=7)∧∃ t,fe (k + 1) lv d (ts.drop a)=.error (y.2.2.2.1,t)∧y.2.2.1=(hd t).line)))
  (fun y=>if y.2.2.2.1=0 then ts.length - y.2.1 + 1 else 0) (x,b,ln,e,k) ⟨hb,?_⟩ (tl5 rfl rfl rfl rfl rfl) (.refl _) ?_
 ·rcases hr with ⟨k1,k2,k3⟩|⟨k1,t,k3,k4⟩
  ·have:=hba _ k3;exact .inl ⟨k1,k2,Nat.le_refl _,by simp only; omega,by rw [hfe,qb_ok k3]⟩
  ·exact .inr ⟨k1,t,by rw [hfe,qb_err k3],k4⟩
 rintro ⟨y,c,ln2,e2,fu⟩ ⟨hc,hI⟩;simp only at hc hI;obtain ⟨op2,num2,name2,field2,args2,hy⟩:=xrow_ex y;refine AWP.weaken (T':=[(7,.cptr o3 6 0 0),(6,.cptr o2 6 0 0),(2,.int .i64 (d:Int)),(1,.int .i64 (lv:Int)),(0,.cptr o 4 0 0)]) (st':=((st.set o (rsC (ts.map tokRow) c ln2 e2)).set o2 zE).set o3 (.cells 95 6 [exRow op2 num2 name2 field2 (.view 6 args2 .shared)])) (tl5 rfl rfl rfl rfl rfl) (by rw [← hy]; exact .refl _) ?_;have hM:(((st.set o (rsC (ts.map tokRow) c ln2 e2)).set o2 zE).set o3 (.cells 95 6 [exRow op2 num2 name2 field2 (.view 6 args2 .shared)])).obj o=some (.cells 69 4 [[.view 4 (ts.map tokRow) .shared,.int .i64 (c:Int),.int .i64 (ln2:Int),.int .i64 (e2:Int)]]):=obj2 h2 h3 _ _ _;rcases hI with ⟨rfl,rfl,k3,k4,k5⟩|⟨he,u,k3,k4⟩
 ·obtain ⟨t,A⟩:=at_of H hc;obtain ⟨fu,rfl⟩:∃ f,fu=f + 1:=⟨fu - 1,by omega⟩;rw [fl,A.hd_,A.tl] at k5;refine goD ?_;refine cle rfl rfl (rlevel_ok A (obj2 h2 h3 _ _ _)) ?_;by_cases hn:(bin t).1=lv
  ·rw [if_pos hn] at k5;have hn':((bin t).1:Int)=(lv:Int):=by omega
   have hk0:t.kind≠0:=fun e=>by
    have:(bin t).1=0:=by
     unfold bin;rw [List.find?_eq_none.2 fun x _=>by rw [show sg t x.1=false from decide_eq_false fun h=>by omega]; decide];rfl
    omega
   have hc1:=A.more hk0;refine goD ?_;refine so (rows':=[[.view 4 (ts.map tokRow) .shared,.int .i64 ((c + 1:Nat):Int),.int .i64 0,.int .i64 0]]) rfl rfl rfl hM rfl rfl rfl rfl rfl ?_;rw [push2 h2 h3];refine goD ?_;refine cl rfl rfl (hE fu (by omega) (lv + 1) d (c + 1) o _ (by omega) (by omega) hd9 hc1 (by omega) (obj2 h2 h3 _ _ _)) fun v st' ⟨z,b2,ln3,e3,hv,hb2,hst,hr2⟩=>?_;subst hst;rw [push2 h2 h3];obtain ⟨op3,num3,name3,field3,args3,hz⟩:=xrow_ex z;unfold VX xv at hv;rw [hz] at hv;subst hv;refine goD ?_;refine bsh (cs:=exRow op2 num2 name2 field2 (.view 6 args2 .shared)++exRow op3 num3 name3 field3 (.view 6 args3 .shared)) rfl rfl rfl rfl rfl ?_;refine bds (cs:=exRow ((bin t).2:Int) 0 [] [] (.view 6 [exRow op2 num2 name2 field2 (.view 6 args2 .shared),exRow op3 num3 name3 field3 (.view 6 args3 .shared)] .shared)) rfl rfl rfl rfl ?_;refine so (rows':=[exRow ((bin t).2:Int) 0 [] [] (.view 6 [exRow op2 num2 name2 field2 (.view 6 args2 .shared),exRow op3 num3 name3 field3 (.view 6 args3 .shared)] .shared)]) rfl rfl rfl (St.obj_set _ _ _) rfl rfl rfl rfl rfl ?_;rw [St.set_set];have hrow:exRow ((bin t).2:Int) 0 [] [] (.view 6 [exRow op2 num2 name2 field2 (.view 6 args2 .shared),exRow op3 num3 name3 field3 (.view 6 args3 .shared)] .shared)=xrow (.bin (bin t).2 y z):=by
    rw [xrow,hy,hz]
   by_cases hl1:lv=1
   ·have hl1':(lv:Int)=1:=by omega
    refine goD ?_;refine soU rfl (Ne.symm n3) rfl rfl rfl rfl rfl ?_;refine goD ?_;refine AWP.ret (rets (resCW rfl (St.obj_under (Ne.symm n3) _ _) rfl rfl rfl rfl) (.refl _) (drop2 h2 h3 _ _ _) ⟨.bin (bin t).2 y z,b2,ln3,e3,?_,hb2,rfl,?_⟩)
    ·show AV.agg _=AV.agg (xrow (.bin (bin t).2 y z));rw [← hrow] <;> rfl
    ·refine hr2.to (fun h=>?_) (fun q h=>?_)
     ·rw [k5,h]; simp only; rw [if_pos hl1]
     ·rw [k5,h]
   ·have hl1':¬ (lv:Int)=1:=by omega
    refine goD ?_;refine ⟨(.bin (bin t).2 y z,b2,ln3,e3,fu),⟨hb2,?_⟩,?_,(tl5 rfl rfl rfl rfl rfl),by rw [hrow]; exact .refl _⟩
    ·simp only;rcases hr2 with ⟨q1,q2,q3⟩|⟨q1,u,q3,q4⟩
     ·have hcb:c + 1 < b2:=by
       have:=(fe_all fu).1 (lv + 1) d (ts.drop (c + 1)) (by omega) (by omega) (by rw [List.length_drop]; omega);rw [q3] at this;exact drop_lt hc1 this
      exact .inl ⟨q1,q2,by omega,by omega,by rw [k5,q3]; simp only; rw [if_neg hl1]⟩
     ·exact .inr ⟨q1,u,by rw [k5,q3],q4⟩
    ·simp only [if_pos];rcases hr2 with ⟨q1,q2,q3⟩|⟨q1,u,q3,q4⟩
     ·have hcb:c + 1 < b2:=by
       have:=(fe_all fu).1 (lv + 1) d (ts.drop (c + 1)) (by omega) (by omega) (by rw [List.length_drop]; omega);rw [q3] at this;exact drop_lt hc1 this
      rw [if_pos q1];omega
     ·rw [if_neg (by omega)];omega
  ·rw [if_neg hn] at k5;have hn':¬ ((bin t).1:Int)=(lv:Int):=by omega
   refine goD ?_;refine soU rfl (Ne.symm n3) rfl rfl rfl rfl rfl ?_;refine goD ?_;refine AWP.ret (rets (resCW rfl (St.obj_under (Ne.symm n3) _ _) rfl rfl rfl rfl) (.refl _) (drop2 h2 h3 _ _ _) ⟨y,c,0,0,?_,hc,rfl,.ok k5⟩);show AV.agg _=AV.agg (xrow y);rw [hy] <;> rfl
 ·have he0:¬ (e2:Int)=0:=by omega
  refine goD ?_;refine AWP.exit (blk_hit ?_);refine goD ?_;refine soU rfl (Ne.symm n3) rfl rfl rfl rfl rfl ?_;refine goD ?_;refine AWP.ret (rets (resCW rfl (St.obj_under (Ne.symm n3) _ _) rfl rfl rfl rfl) (.refl _) (drop2 h2 h3 _ _ _) ⟨y,c,ln2,e2,?_,hc,rfl,.inr ⟨he,u,k3,k4⟩⟩);show AV.agg _=AV.agg (xrow y);rw [hy] <;> rfl
theorem rfe_ok {ts:List Tk} (H:RdT ts):∀ K,RfeOk ts K∧RfoOk ts K
 | 0=>⟨fun k hk lv d a o st h1 h5 hd ha hb=>by omega,fun k hk d a o st hd ha hb=>by omega⟩
 | K + 1=>by
  obtain ⟨hE,hU⟩:=rfe_ok H K;refine ⟨fun k hk lv d a o st h1 h5 hd ha hb ho=>?_,fun k hk d a o st hd ha hb ho=>?_⟩
  ·rcases Nat.lt_or_ge k (K + 1) with h|h
   ·exact hE k (by omega) lv d a o st h1 h5 hd ha hb ho
   ·obtain rfl:k=K + 1:=by omega
    exact rexpr_step H hE hU h1 h5 hd ho ha hb
  ·rcases Nat.lt_or_ge k (K + 1) with h|h
   ·exact hU k (by omega) d a o st hd ha hb ho
   ·obtain rfl:k=K + 1:=by omega
    exact runary_step H hE hU hd ho ha hb
theorem rexpr_ok {ts:List Tk} (H:RdT ts) {a o:Nat} {st:St} (ho:st.obj o=some (rsC (ts.map tokRow) a 0 0)) (ha:a < ts.length) :
  ACalls Tryz.prog 104 [.cptr o 4 0 0,.int .i64 1,.int .i64 0] st (RfR ts o st VX (qx (ts.drop a))) (fun _ _=>False) :=
 (rfe_ok H _).1 _ (Nat.le_refl _) 1 0 a o st (by decide) (by decide) (by decide) ha (by rw [List.length_drop]; omega) ho
theorem rtarget_ok0 {ts:List Tk} (H:RdT ts) {a o:Nat} {st:St} (ho:st.obj o=some (rsC (ts.map tokRow) a 0 0)) (ha:a < ts.length) :
  ACalls Tryz.prog 120 [.cptr o 4 0 0,.int .i64 0] st (RfR ts o st VX (qt (ts.drop a))) (fun _ _=>False) :=
 rtarget_ok H (rfe_ok H _).1 (by decide) ho ha (by rw [List.length_drop]; omega)
theorem rcall_ok {ts:List Tk} (H:RdT ts) {a ln e o:Nat} {st:St} (ho:st.obj o=some (rsC (ts.map tokRow) a ln e)) (ha:a < ts.length) (b:Bool) (hb:seesC (ts.drop a)=b) :
  ACalls Tryz.prog 118 [.cptr o 4 0 0] st (fun v st'=>v=.bool b∧st'=st) (fun _ _=>False):=by
 refine ACalls.ofBody Tryz.func118 rfl Tryz.ntmps118 rfl ?_;obtain ⟨t,A⟩:=at_of H ha;have hl:(ts.map tokRow).length≤100000:=by rw [List.length_map]; exact H.len
 subst hb;unfold seesC;rw [A.hd_,A.tl];refine goD ?_;by_cases h1:t.kind=1
 ·refine cle rfl rfl (A.kd ho 1 true (decide_eq_true h1)) ?_;rw [decide_eq_true h1];have ha1:=A.more (by rw [h1]; decide);obtain ⟨u,u1,u2,u3,u4,u5⟩:=map_at ha1;rw [u3];refine goD ?_;refine cle rfl rfl (ris_ok (k:=1) ho u4 u2 hl [40] (sg u [40]) (wk_sg (H.tk u (List.mem_of_getElem? u1)) rfl)) ?_;refine goD ?_;exact AWP.ret (rets rfl (.refl _) (.refl _) ⟨rfl,rfl⟩)
 ·refine cle rfl rfl (A.kd ho 1 false (decide_eq_false h1)) ?_;rw [decide_eq_false h1];refine goD ?_;exact AWP.ret (rets rfl (.refl _) (.refl _) ⟨rfl,rfl⟩)
def fargl (ts:List Tk):QR (List Xp) :=
 qb (fneed [40] ts) fun _ r2=>if sg (hd r2) [41] then .ok ([],r2.tail)
  else qb (qx r2) fun x r3=>qb (fargs (r3.length + 1) [x] r3) fun l r4=>qb (fneed [41] r4) fun _ r5=>.ok (l,r5)
theorem fcall_eq (ts:List Tk):fcall ts=qb (fname ts) fun n r=>qb (fargl r) fun l r2=>.ok ((n,l),r2):=by
 unfold fcall fargl
 congr 1
 funext n r
 rw [qb_qb]
 congr 1
 funext _ r2
 by_cases h:sg (hd r2) [41]=true
 ·rw [if_pos h,if_pos h]; rfl
 ·rw [if_neg h,if_neg h];simp only [qb_qb,qb_ret]
def VL (v:AV) (l:List Xp):Prop:=v=nlv (xrows l)
theorem nlv_ne {l:List Xp} (h:0 < l.length):nlv (xrows l)=.view 6 (xrows l) .shared:=by
 unfold nlv;rw [if_neg (fun e=>by have:=congrArg List.length e; rw [xrows_len,List.length_nil] at this; omega)]
set_option maxHeartbeats 1000000 in
theorem rargs_ok {ts:List Tk} (H:RdT ts) {a0 o:Nat} {st:St} (ho:st.obj o=some (rsC (ts.map tokRow) a0 0 0)) (ha0:a0 < ts.length) (hp:sg (hd (ts.drop a0)) [40]=true) :
  ACalls Tryz.prog 119 [.cptr o 4 0 0] st (RfR ts o st VL (fargl (ts.drop a0))) (fun _ _=>False):=by
 refine ACalls.inSet ho (ACalls.ofBody Tryz.func119 rfl Tryz.ntmps119 rfl ?_);have hlen:=H.len;obtain ⟨t0,A0⟩:=at_of H ha0;rw [A0.hd_] at hp;have hw0:wk t0 [40]=true:=by rw [wk_sg A0.ok rfl]; exact hp
 have ha1:=A0.more (wk_kind hw0)
 have e0:fargl (ts.drop a0)=if sg (hd (ts.drop (a0 + 1))) [41] then .ok ([],(ts.drop (a0 + 1)).tail) else qb (qx (ts.drop (a0 + 1))) fun x r3=>qb (fargs (r3.length + 1) [x] r3) fun l r4=>qb (fneed [41] r4) fun _ r5=>.ok (l,r5):=by
  rw [fargl,fneed,A0.hd_,hp,if_pos rfl,qb_ok rfl,A0.tl]
 obtain ⟨t,A⟩:=at_of H ha1;rw [A.hd_,A.tl] at e0;refine goD ?_;refine cl rfl rfl (rtake_t H A0 (St.obj_set _ _ _) ha0 hw0) fun v st' hst=>?_;subst hst;rw [St.set_set];have hM:(st.set o (rsC (ts.map tokRow) (a0 + 1) 0 0)).obj o=some (.cells 69 4 [[.view 4 (ts.map tokRow) .shared,.int .i64 ((a0 + 1:Nat):Int),.int .i64 0,.int .i64 0]]):=St.obj_set _ _ _;cases c1:wk t [41] with
 | true =>
  rw [if_pos (by rw [← wk_sg A.ok rfl]; exact c1)] at e0;have ha2:=A.more (wk_kind c1);refine goD ?_;refine cle rfl rfl (A.is (St.obj_set _ _ _) [41] true c1) ?_;refine goD ?_;refine cl rfl rfl (rtake_t H A (St.obj_set _ _ _) ha1 c1) fun v st' hst=>?_;subst hst;rw [St.set_set];refine goD ?_;exact AWP.ret (rets rfl (.refl _) (.refl _) ⟨[],a0 + 1 + 1,0,0,rfl,ha2,rfl,.ok e0⟩)
 | false =>
  rw [if_neg (by rw [← wk_sg A.ok rfl,c1]; decide)] at e0;refine goD ?_;refine cle rfl rfl (A.is (St.obj_set _ _ _) [41] false c1) ?_;refine goE ?_;refine nl ?_
  skip
  refine AWP.nilTok 3 95 6 rfl fun tk htk=>?_;have hMt:∀ a ln e,((st.set o (rsC (ts.map tokRow) a ln e)).addTok tk).obj o=some (rsC (ts.map tokRow) a ln e):=fun _ _ _=>St.obj_set _ _ _
  have hset:∀ tk c r,((st.set o c).addTok tk).set o r=(st.set o r).addTok tk:=fun tk _ _=>by
   show ((st.addTok tk).set o _).set o _=(st.addTok tk).set o _;rw [St.set_set]
  refine goD ?_;refine cl rfl rfl (rexpr_ok H (hMt _ _ _) ha1) fun v st' ⟨x,b,ln,e,hv,hb,hst,hr⟩=>?_;subst hst;rw [hset];obtain ⟨op,num,name,field,args,hx⟩:=xrow_ex x;unfold VX xv at hv;rw [hx] at hv;subst hv;refine bs1 (v:=.agg (exRow op num name field (.view 6 args .shared))) rfl rfl rfl rfl rfl rfl ?_;refine ap rfl rfl rfl (St.tok_addTok _ _) rfl (by exact Nat.le_of_ble_eq_true rfl) (by simp only [List.length_cons,List.length_nil,maxLen]; omega) fun tk2 htk2=>?_;have hx1:[]++[(AV.agg (exRow op num name field (.view 6 args .shared))).cells]=xrows [x]:=by show [exRow op num name field (.view 6 args .shared)]=[xrow x]; rw [hx]
  rw [hx1];refine goD ?_;generalize hR:fargl (ts.drop a0)=R at e0 ⊢;refine AWP.loop (α:=List Xp × Nat × Nat × Nat × Nat × Nat) (fun y=>[(3,.view 6 (xrows y.1) (.own y.2.2.2.2.1 95)),(0,.cptr o 4 0 0)]) (fun y=>(st.set o (rsC (ts.map tokRow) y.2.1 y.2.2.1 y.2.2.2.1)).addTok y.2.2.2.2.1)
   (fun y=>y.2.1 < ts.length∧st.tok y.2.2.2.2.1=false∧0 < y.1.length∧y.1.length≤ts.length + 1∧((y.2.2.2.1=0∧y.2.2.1=0∧y.1.length≤y.2.1∧(ts.drop y.2.1).length < y.2.2.2.2.2∧R=qb (fargs y.2.2.2.2.2 y.1 (ts.drop y.2.1)) fun l r4=>qb (fneed [41] r4) fun _ r5=>.ok (l,r5))∨((y.2.2.2.1=5∨y.2.2.2.1=7)∧∃ t,R=.error (y.2.2.2.1,t)∧y.2.2.1=(hd t).line)))
   (fun y=>if y.2.2.2.1=0 then ts.length - y.2.1 + 1 else 0) ([x],b,ln,e,tk2,(ts.drop b).length + 1) ⟨hb,St.tok_of_add htk2,by simp only [List.length_cons,List.length_nil]; omega,by simp only [List.length_cons,List.length_nil]; omega,?_⟩ (tl2 rfl rfl) (StLe.reTok (st:=st.set o (rsC (ts.map tokRow) b ln e)) htk tk2) ?_
  ·rcases hr with ⟨k1,k2,k3⟩|⟨k1,t,k3,k4⟩
   ·have:=drop_lt ha1 (qx_lt k3);exact .inl ⟨k1,k2,by simp only [List.length_cons,List.length_nil]; omega,by simp only [List.length_drop]; omega,by rw [e0,qb_ok k3]⟩
   ·exact .inr ⟨k1,t,by rw [e0,qb_err k3],k4⟩
  rintro ⟨l,c,ln2,e2,tk3,fu⟩ ⟨h2,h3,h30,h4,h6⟩;simp only at h2 h3 h30 h4 h6;refine AWP.weaken (T':=[(3,.view 6 (xrows l) (.own tk3 95)),(0,.cptr o 4 0 0)]) (st':=(st.set o (rsC (ts.map tokRow) c ln2 e2)).addTok tk3) (tl2 rfl rfl) (.refl _) ?_;have hok:∀ a ln e,((st.set o (rsC (ts.map tokRow) a ln e)).addTok tk3).obj o=some (rsC (ts.map tokRow) a ln e):=fun _ _ _=>St.obj_set _ _ _
  have hM3:((st.set o (rsC (ts.map tokRow) c ln2 e2)).addTok tk3).obj o=some (.cells 69 4 [[.view 4 (ts.map tokRow) .shared,.int .i64 (c:Int),.int .i64 (ln2:Int),.int .i64 (e2:Int)]]):=hok _ _ _
  have fin:∀ (r0:QR (List Xp)),Rm ts r0 l c ln2 e2→R=(qb r0 fun l r4=>qb (fneed [41] r4) fun _ r5=>.ok (l,r5))→∀ b3 ln3 e3,Rm ts (qp r0 (fneed [41])) (l,()) b3 ln3 e3→Rm ts R l b3 ln3 e3:=fun r0 _ hq b3 ln3 e3 h=>by
   have:=h.map fun p=>p.1;rw [hq]
   simpa only [qp,qb_qb,qb_ret] using this
  rcases h6 with ⟨rfl,rfl,k3,k4,k5⟩|⟨he,u,k3,k4⟩
  ·obtain ⟨t,A⟩:=at_of H h2;obtain ⟨fu,rfl⟩:∃ f,fu=f + 1:=⟨fu - 1,by omega⟩;rw [fargs,A.hd_,A.tl] at k5;refine goD ?_;cases hs:wk t [44] with
   | true =>
    rw [if_pos (by rw [← wk_sg A.ok rfl]; exact hs)] at k5;have hk1:=A.more (wk_kind hs);refine cle rfl rfl (A.is (hok c 0 0) [44] true hs) ?_;refine goD ?_;refine so (rows':=[[.view 4 (ts.map tokRow) .shared,.int .i64 ((c + 1:Nat):Int),.int .i64 0,.int .i64 0]]) rfl rfl rfl hM3 rfl rfl rfl rfl rfl ?_;rw [hset];refine goD ?_;refine cl rfl rfl (rexpr_ok H (hok (c + 1) 0 0) hk1) fun v st' ⟨y,b2,ln3,e3,hv,hb2,hst,hr2⟩=>?_;subst hst;rw [hset];obtain ⟨op2,num2,name2,field2,args2,hy⟩:=xrow_ex y;unfold VX xv at hv;rw [hy] at hv;subst hv;refine bs1 (v:=.agg (exRow op2 num2 name2 field2 (.view 6 args2 .shared))) rfl rfl rfl rfl rfl rfl ?_;refine ap rfl rfl rfl (St.tok_addTok _ _) rfl (by simp only [List.length_cons,List.length_nil,xrows_len]; omega) (by simp only [List.length_cons,List.length_nil,xrows_len,maxLen]; omega) fun tk' htk'=>?_;have hm:xrows l++[(AV.agg (exRow op2 num2 name2 field2 (.view 6 args2 .shared))).cells]=xrows (l++[y]):=by
     unfold xrows;rw [List.map_append];show _++[exRow op2 num2 name2 field2 (.view 6 args2 .shared)]=_++[xrow y];rw [hy]
    rw [hm];refine goD ?_;refine ⟨(l++[y],b2,ln3,e3,tk',fu),⟨hb2,St.tok_of_add htk',by simp only [List.length_append,List.length_cons,List.length_nil]; omega,by simp only [List.length_append,List.length_cons,List.length_nil]; omega,?_⟩,?_,(tl2 rfl rfl),StLe.reTok (st:=st.set o (rsC (ts.map tokRow) b2 ln3 e3)) h3 tk'⟩
    ·simp only;rcases hr2 with ⟨q1,q2,q3⟩|⟨q1,u,q3,q4⟩
     ·have:=drop_lt hk1 (qx_lt q3);exact .inl ⟨q1,q2,by simp only [List.length_append,List.length_cons,List.length_nil]; omega,by simp only [List.length_drop] at k4 ⊢; omega,by rw [k5,q3] <;> rfl⟩
     ·exact .inr ⟨q1,u,by rw [k5,q3] <;> rfl,q4⟩
    ·simp only [if_pos];rcases hr2 with ⟨q1,q2,q3⟩|⟨q1,u,q3,q4⟩
     ·have:=drop_lt hk1 (qx_lt q3);rw [if_pos q1];omega
     ·rw [if_neg (by omega)];omega
   | false =>
    rw [if_neg (by rw [← wk_sg A.ok rfl,hs]; decide)] at k5;refine cle rfl rfl (A.is (hok c 0 0) [44] false hs) ?_;refine goD ?_;refine AWP.exit (blk_hit ?_);refine goD ?_;refine cl rfl rfl (rtake_u H (.ok rfl:Rm ts (.ok (l,ts.drop c)) l c 0 0) h2 (hok _ _ _) [41] rfl) fun v st' ⟨_,b3,ln3,e3,_,hb3,hst,hr3⟩=>?_;subst hst;rw [hset];refine goD ?_;exact AWP.ret (rets rfl (by rw [nlv_ne h30]; exact .shared _ _ _) (StLe.addTok _ (.refl _)) ⟨l,b3,ln3,e3,rfl,hb3,rfl,fin _ (.ok rfl) k5 _ _ _ hr3⟩)
  ·have he0:¬ (e2:Int)=0:=by omega
   refine goD ?_;refine AWP.exit (blk_hit ?_);refine goD ?_;refine cl rfl rfl (rtake_u H (.inr ⟨he,u,rfl,k4⟩:Rm ts (.error (e2,u)) l c ln2 e2) h2 (hok _ _ _) [41] rfl) fun v st' ⟨_,b3,ln3,e3,_,hb3,hst,hr3⟩=>?_;subst hst;rw [hset];refine goD ?_;exact AWP.ret (rets rfl (by rw [nlv_ne h30]; exact .shared _ _ _) (StLe.addTok _ (.refl _)) ⟨l,b3,ln3,e3,rfl,hb3,rfl,fin _ (.inr ⟨he,u,rfl,k4⟩) (by rw [k3] <;> rfl) _ _ _ hr3⟩)
def RsR {α:Type} (ts:List Tk) (o os:Nat) (st:St) (row:α→List AV) (r:QR α) (_:AV) (st':St):Prop :=
 ∃ x a ln e,a < ts.length∧st'=(st.set o (rsC (ts.map tokRow) a ln e)).set os (sC (row x))∧Rm ts r x a ln e
def RvR {α β:Type} (ts:List Tk) (o os:Nat) (st:St) (row:β→List AV) (r:QR α) (x:α) (f:List Tk→QR β) (_:AV) (st':St):Prop :=
 ∃ y a ln e,a < ts.length∧st'=(st.set o (rsC (ts.map tokRow) a ln e)).set os (sC (row y))∧Rm ts (qp r f) (x,y) a ln e
theorem RvR.of {α β:Type} {ts:List Tk} {o os:Nat} {F:FuncId} {args:List AV} {row:β→List AV} {f:List Tk→QR β} {r:QR α} {x:α} {a ln e:Nat} {st:St} (hm:Rm ts r x a ln e) (ha:a < ts.length) (ho:st.obj o=some (rsC (ts.map tokRow) a ln e))
  (live:st.obj o=some (rsC (ts.map tokRow) a 0 0)→ACalls Tryz.prog F args st (RsR ts o os st row (f (ts.drop a))) (fun _ _=>False))
  (dead:e=5∨e=7→ACalls Tryz.prog F args st (fun _ st'=>∃ y,st'=st.set os (sC (row y))) (fun _ _=>False)):ACalls Tryz.prog F args st (RvR ts o os st row r x f) (fun _ _=>False):=by
 rcases hm with ⟨rfl,rfl,hr⟩|⟨he,t,hr,hl⟩
 ·refine Go.Proofs.ACalls.toQ (live ho) fun v st' ⟨y,a',ln',e',h2,h3,h4⟩=>⟨y,a',ln',e',h2,h3,?_⟩;unfold qp;rw [qb_ok hr];rcases h4 with ⟨k1,k2,k3⟩|⟨k1,t,k3,k4⟩
  ·exact .inl ⟨k1,k2,by rw [qb_ok k3]⟩
  ·exact .inr ⟨k1,t,by rw [qb_err k3],k4⟩
 ·refine Go.Proofs.ACalls.toQ (dead he) fun v st' ⟨y,h2⟩=>⟨y,a,ln,e,ha,by rw [h2,St.set_same ho],?_⟩;unfold qp;exact .inr ⟨he,t,by rw [qb_err hr],hl⟩
def vRow (kind line:Int) (tgt:AV) (x:List UInt8 × List Xp):List AV:=aRow kind line tgt x.1 (nlv (xrows x.2))
theorem nlv_or (rows:List (List AV)):nlv rows=nilV∨nlv rows=.view 6 rows .shared:=by
 unfold nlv;split
 ·exact .inl rfl
 ·exact .inr rfl
theorem nlv_one {x:Xp} {row:List AV} (h:xrow x=row):nlv (xrows [x])=.view 6 [row] .shared:=by
 rw [nlv_ne (by show 0 < 1; decide)];show AV.view 6 [xrow x] .shared=_;rw [h]
set_option maxHeartbeats 1000000 in
theorem rvalue_ok {ts:List Tk} (H:RdT ts) {a o os:Nat} {st:St} {kind line:Int} {tgt:AV} (c:Bool) (hne:os≠o) (ho:st.obj o=some (rsC (ts.map tokRow) a 0 0)) (hs:st.obj os=some (sC (aRow kind line tgt [] nilV))) (ha:a < ts.length) :
  ACalls Tryz.prog 105 [.cptr o 4 0 0,.cptr os 13 0 0,.bool c] st (RsR ts o os st (vRow kind line tgt) (fval c (ts.drop a))) (fun _ _=>False):=by
 refine ACalls.inSet2 ho hs (ACalls.ofBody Tryz.func105 rfl Tryz.ntmps105 rfl ?_);have inn:∀ b z r,((st.set o b).set os z).set o r=(st.set o r).set os z:=fun b z r=>St.set_inner hne b r z
 have ob:∀ b z,((st.set o b).set os z).obj o=some b:=fun b z=>St.obj_under hne b z
 have hlen:=H.len;clear ho hs;unfold sC;have hM:((st.set o (rsC (ts.map tokRow) a 0 0)).set os (.cells 41 13 [aRow kind line tgt [] nilV])).obj o=some (.cells 69 4 [[.view 4 (ts.map tokRow) .shared,.int .i64 (a:Int),.int .i64 0,.int .i64 0]]):=ob _ _;by_cases hc:c=true∧seesC (ts.drop a)=true
 ·obtain ⟨rfl,hc⟩:=hc;rw [fval,hc];show AWP _ _ _ _ _ _ _;rw [Bool.and_self,if_pos rfl,fcall_eq];have hc':=hc;unfold seesC at hc';rw [Bool.and_eq_true] at hc';obtain ⟨t,A⟩:=at_of H ha;rw [A.hd_,A.tl] at hc';have k1:t.kind=1:=of_decide_eq_true hc'.1
  have ha1:=A.more (by rw [k1]; decide);refine goD ?_;refine cle rfl rfl (rcall_ok H (ob _ _) ha true hc) ?_;refine goD ?_;refine cl rfl rfl (rname_ok H (ob _ _) ha) fun v st' ⟨n,b,ln,e,hv,hb,hst,hr⟩=>?_;subst hv;subst hst;rw [inn];have hn:fname (ts.drop a)=.ok (t.text,ts.drop (a + 1)):=by rw [fname,A.hd_,if_pos k1,A.tl]
  rw [hn] at hr;rcases hr with ⟨rfl,rfl,hr⟩|⟨_,u,hr,_⟩
  rotate_left
  ·cases hr
  have hbe:=congrArg Prod.snd (Except.ok.inj hr);obtain rfl:t.text=n:=congrArg Prod.fst (Except.ok.inj hr);obtain rfl:a + 1=b:=by
   have:=congrArg List.length hbe;simp only [List.length_drop] at this;omega
  rw [hn,qb_ok rfl];refine goD ?_;refine so1 (row':=aRow kind line tgt t.text nilV) rfl rfl rfl rfl rfl (by exact Nat.le_of_ble_eq_true rfl) rfl ?_;refine goD ?_;refine cl rfl rfl (rargs_ok H (ob _ _) ha1 hc'.2) fun v st' ⟨l,b,ln,e,hv,hb,hst,hr⟩=>?_;subst hst;rw [inn];unfold VL at hv;rcases nlv_or (xrows l) with hq|hq
  ·rw [hq] at hv;subst hv;refine goD ?_;refine so1 (row':=aRow kind line tgt t.text nilV) rfl rfl rfl rfl rfl (by exact Nat.le_of_ble_eq_true rfl) rfl ?_;refine goD ?_;exact AWP.ret (rets rfl (.refl _) (.refl _) ⟨(t.text,l),b,ln,e,hb,by rw [vRow,hq] <;> rfl,hr.map _⟩)
  ·rw [hq] at hv;subst hv;refine goD ?_;refine so1 (row':=aRow kind line tgt t.text (.view 6 (xrows l) .shared)) rfl rfl rfl rfl rfl (by exact Nat.le_of_ble_eq_true rfl) rfl ?_;refine goD ?_;exact AWP.ret (rets rfl (.refl _) (.refl _) ⟨(t.text,l),b,ln,e,hb,by rw [vRow,hq] <;> rfl,hr.map _⟩)
 ·have hcf:fval c (ts.drop a)=qb (qx (ts.drop a)) fun x r=>.ok (([],[x]),r):=by
   unfold fval;rw [if_neg (by rw [Bool.and_eq_true]; exact hc)]
  rw [hcf];cases c with
  | false =>
   refine goD ?_;refine cl rfl rfl (rexpr_ok H (ob _ _) ha) fun v st' ⟨x,b,ln,e,hv,hb,hst,hr⟩=>?_;subst hst;rw [inn];obtain ⟨op,num,name,field,args,hx⟩:=xrow_ex x;unfold VX xv at hv;rw [hx] at hv;subst hv;refine goD ?_;refine so1 (row':=aRow kind line tgt [] (.view 6 [exRow op num name field (.view 6 args .shared)] .shared)) rfl rfl rfl rfl rfl (by exact Nat.le_of_ble_eq_true rfl) rfl ?_;refine goD ?_;exact rets rfl (.refl _) (.refl _) ⟨([],[x]),b,ln,e,hb,by rw [vRow,nlv_one hx] <;> rfl,hr.map _⟩
  | true =>
   have hcs:seesC (ts.drop a)=false:=by
    cases h:seesC (ts.drop a) with
    | false=>rfl
    | true=>exact absurd ⟨rfl,h⟩ hc
   refine goD ?_;refine cle rfl rfl (rcall_ok H (ob _ _) ha false hcs) ?_;refine goD ?_;refine cl rfl rfl (rexpr_ok H (ob _ _) ha) fun v st' ⟨x,b,ln,e,hv,hb,hst,hr⟩=>?_;subst hst;rw [inn];obtain ⟨op,num,name,field,args,hx⟩:=xrow_ex x;unfold VX xv at hv;rw [hx] at hv;subst hv;refine goD ?_;refine so1 (row':=aRow kind line tgt [] (.view 6 [exRow op num name field (.view 6 args .shared)] .shared)) rfl rfl rfl rfl rfl (by exact Nat.le_of_ble_eq_true rfl) rfl ?_;refine goD ?_;exact rets rfl (.refl _) (.refl _) ⟨([],[x]),b,ln,e,hb,by rw [vRow,nlv_one hx] <;> rfl,hr.map _⟩
theorem rexpr_e {X:List (List AV)} {a ln e o:Nat} {st:St} (ho:st.obj o=some (rsC X a ln e)) (he:e=5∨e=7) :
  ACalls Tryz.prog 104 [.cptr o 4 0 0,.int .i64 1,.int .i64 0] st (fun v st'=>v=.agg (exRow 0 0 [] [] noE)∧st'=st) (fun _ _=>False) :=
 Go.Proofs.ACalls.leP (rexpr_err 4 ho he 1 0 rfl) fun v st' ⟨h1,h2⟩=>⟨_,st',by rw [h1]; exact ex_nil _ _ _ _,.refl _,rfl,h2⟩
theorem rvalue_err {ts:List Tk} {a ln e o os:Nat} {st:St} {kind line:Int} {tgt:AV} (c:Bool) (hne:os≠o) (ho:st.obj o=some (rsC (ts.map tokRow) a ln e)) (hs:st.obj os=some (sC (aRow kind line tgt [] nilV))) (he:e=5∨e=7) :
  ACalls Tryz.prog 105 [.cptr o 4 0 0,.cptr os 13 0 0,.bool c] st (fun _ st'=>∃ y,st'=st.set os (sC (vRow kind line tgt y))) (fun _ _=>False):=by
 refine ACalls.inSet2 ho hs (ACalls.ofBody Tryz.func105 rfl Tryz.ntmps105 rfl ?_);have he0:¬ (e:Int)=0:=by omega
 have hM:((st.set o (rsC (ts.map tokRow) a ln e)).set os (sC (aRow kind line tgt [] nilV))).obj o=some (.cells 69 4 [[.view 4 (ts.map tokRow) .shared,.int .i64 (a:Int),.int .i64 (ln:Int),.int .i64 (e:Int)]]):=St.obj_under hne _ _;unfold sC at hM ⊢;refine goD ?_;refine Go.AM.cl rfl rfl (rexpr_e (St.obj_under hne _ _) he) fun v st' ⟨hv,hst⟩=>?_;subst hv;subst hst;refine goD ?_;refine so1 (row':=aRow kind line tgt [] (.view 6 [exRow 0 0 [] [] noE] .shared)) rfl rfl rfl rfl rfl (by exact Nat.le_of_ble_eq_true rfl) rfl ?_;refine goD ?_;refine rets rfl (.refl _) (.refl _) ⟨([],[.lit 0]),?_⟩;rw [St.set_same ho];rfl
theorem rvalue_u {α:Type} {ts:List Tk} (H:RdT ts) {r:QR α} {x:α} {a ln e o os:Nat} {st:St} {kind line:Int} {tgt:AV} (c:Bool) (hne:os≠o) (hm:Rm ts r x a ln e) (ho:st.obj o=some (rsC (ts.map tokRow) a ln e)) (hs:st.obj os=some (sC (aRow kind line tgt [] nilV))) (ha:a < ts.length) :
  ACalls Tryz.prog 105 [.cptr o 4 0 0,.cptr os 13 0 0,.bool c] st (RvR ts o os st (vRow kind line tgt) r x (fval c)) (fun _ _=>False) :=
 RvR.of hm ha ho (fun h=>rvalue_ok H c hne h hs ha) (fun he=>rvalue_err c hne ho hs he)
theorem fval_true {ts:List Tk} {y:Xp} {c:List UInt8 × List Xp} {b b3 ln3 e3:Nat} (hn:(hd (ts.drop b)).kind=1→(hd (ts.drop b)).text≠[]) (h:Rm ts (qp (.ok (y,ts.drop b)) (fval true)) (y,c) b3 ln3 e3) :
  Rm ts (if seesC (ts.drop b) then qb (fcall (ts.drop b)) fun c r3=>.ok ((⟨3,[y],c.1,c.2⟩:Sm),r3) else qb (qx (ts.drop b)) fun x r3=>.ok (⟨2,[y],[],[x]⟩,r3)) ⟨if c.1=[] then 2 else 3,[y],c.1,c.2⟩ b3 ln3 e3:=by
 unfold qp fval at h;simp only [Bool.true_and] at h;rw [qb_ok rfl] at h;by_cases hs:seesC (ts.drop b)=true
 ·rw [if_pos hs] at h ⊢;have hk:(hd (ts.drop b)).kind=1:=by
   unfold seesC at hs;rw [Bool.and_eq_true] at hs;exact of_decide_eq_true hs.1
  refine h.to (fun h=>?_) (fun z h=>?_)
  ·cases hq:fcall (ts.drop b) with
   | error e=>rw [hq] at h; cases h
   | ok p =>
    rw [hq] at h;have h1:=congrArg Prod.fst (Except.ok.inj h)
    have h2:p.2=ts.drop b3:=congrArg Prod.snd (Except.ok.inj h)
    have h3:p.1=c:=congrArg Prod.snd h1
    have hc:c.1≠[]:=by
     rw [fcall_eq,fname,if_pos hk,qb_ok rfl] at hq;cases hg:fargl (ts.drop b).tail with
     | error e=>rw [hg] at hq; cases hq
     | ok q =>
      rw [hg] at hq;have h4:((hd (ts.drop b)).text,q.1)=p.1:=congrArg Prod.fst (Except.ok.inj hq);rw [← h3,← h4];exact hn hk
    rw [if_neg hc,← h2,← h3];rfl
  ·cases hq:fcall (ts.drop b) with
   | error e =>
    rw [hq] at h;have h5:e=z:=Except.error.inj h;rw [h5];rfl
   | ok p=>rw [hq] at h; cases h
 ·rw [if_neg hs] at h ⊢;refine h.to (fun h=>?_) (fun z h=>?_)
  ·cases hq:qx (ts.drop b) with
   | error e=>rw [hq] at h; cases h
   | ok p =>
    rw [hq] at h;have h1:=congrArg Prod.fst (Except.ok.inj h)
    have h2:p.2=ts.drop b3:=congrArg Prod.snd (Except.ok.inj h)
    have h3:([],[p.1])=c:=congrArg Prod.snd h1;rw [← h3,if_pos rfl,← h2];rfl
  ·cases hq:qx (ts.drop b) with
   | error e =>
    rw [hq] at h;have h5:e=z:=Except.error.inj h;rw [h5];rfl
   | ok p=>rw [hq] at h; cases h
set_option maxHeartbeats 1000000 in
theorem reffect_ok {ts:List Tk} (H:RdT ts) {a o os:Nat} {st:St} {line:Int} (hne:os≠o) (ho:st.obj o=some (rsC (ts.map tokRow) a 0 0)) (hs:st.obj os=some (sC (aRow 0 line nilV [] nilV))) (ha:a < ts.length) :
  ACalls Tryz.prog 106 [.cptr o 4 0 0,.cptr os 13 0 0] st (RsR ts o os st (smRow line) (feff (ts.drop a))) (fun _ _=>False):=by
 refine ACalls.inSet2 ho hs (ACalls.ofBody Tryz.func106 rfl Tryz.ntmps106 rfl ?_);have inn:∀ b z r,((st.set o b).set os z).set o r=(st.set o r).set os z:=fun b z r=>St.set_inner hne b r z
 have in2:∀ b z r c,(((st.set o b).set os z).set o r).set os c=(st.set o r).set os c:=fun b z r c=>by rw [inn,St.set_set]
 have ob:∀ b z,((st.set o b).set os z).obj o=some b:=fun b z=>St.obj_under hne b z
 have hlen:=H.len;clear ho hs;unfold sC;refine goD ?_;refine so1 (row':=aRow 3 line nilV [] nilV) rfl rfl rfl rfl rfl (by exact Nat.le_of_ble_eq_true rfl) rfl ?_;refine goD ?_;cases hc:seesC (ts.drop a) with
 | true =>
  refine cle rfl rfl (rcall_ok H (ob _ _) ha true hc) ?_;refine goD ?_;refine cl rfl rfl (rvalue_ok H (kind:=3) (line:=line) (tgt:=nilV) true hne (ob _ _) (St.obj_set _ _ _) ha) fun v st' ⟨x,b,ln,e,hb,hst,hr⟩=>?_;subst hst;rw [in2];refine goD ?_;exact AWP.ret (rets rfl (.refl _) (.refl _) ⟨⟨3,[],x.1,x.2⟩,b,ln,e,hb,rfl,by rw [fval,hc,Bool.and_self,if_pos rfl] at hr; rw [feff,if_pos hc]; exact hr.map _⟩)
 | false =>
  refine cle rfl rfl (rcall_ok H (ob _ _) ha false hc) ?_;refine goD ?_;refine cl rfl rfl (rtarget_ok0 H (ob _ _) ha) fun v st' ⟨y,b,ln,e,hv,hb,hst,hr⟩=>?_;subst hst;rw [inn];obtain ⟨op,num,name,field,args,hy⟩:=xrow_ex y;unfold VX xv at hv;rw [hy] at hv;subst hv;refine goD ?_;refine so1 (row':=aRow 3 line (.view 6 [exRow op num name field (.view 6 args .shared)] .shared) [] nilV) rfl rfl rfl rfl rfl (by exact Nat.le_of_ble_eq_true rfl) rfl ?_;refine goD ?_;refine cl rfl rfl (rtake_u H hr hb (ob _ _) [61] rfl) fun v st' ⟨_,b2,ln2,e2,_,hb2,hst,hr2⟩=>?_;subst hst;rw [inn];refine goD ?_;refine cl rfl rfl (rvalue_u H (kind:=3) (line:=line) (tgt:=.view 6 [exRow op num name field (.view 6 args .shared)] .shared) true hne hr2 (ob _ _) (St.obj_set _ _ _) hb2) fun v st' ⟨x,b3,ln3,e3,hb3,hst,hr3⟩=>?_;subst hst;rw [in2];obtain ⟨fn,ar⟩:=x;have hfin:Rm ts (feff (ts.drop a)) ⟨if fn=[] then 2 else 3,[y],fn,ar⟩ b3 ln3 e3:=by
   rw [feff,if_neg (by rw [hc]; decide)];have e1:(qb (qt (ts.drop a)) fun y r=>qb (fneed [61] r) fun _ r2=>if seesC r2 then qb (fcall r2) fun c r3=>.ok ((⟨3,[y],c.1,c.2⟩:Sm),r3) else qb (qx r2) fun x r3=>.ok (⟨2,[y],[],[x]⟩,r3)) =
     qb (qp (qt (ts.drop a)) (fneed [61])) fun p r2=>if seesC r2 then qb (fcall r2) fun c r3=>.ok ((⟨3,[p.1],c.1,c.2⟩:Sm),r3) else qb (qx r2) fun x r3=>.ok (⟨2,[p.1],[],[x]⟩,r3):=by
    simp only [qp,qb_qb,qb_ret]
   rw [e1];rcases hr2 with ⟨k1,k2,k3⟩|⟨k1,t,k3,k4⟩
   ·rw [k3,qb_ok rfl];rw [k3] at hr3;obtain ⟨t,B⟩:=at_of H hb2;have h9:Rm ts (qp (.ok (y,ts.drop b2)) (fval true)) (y,(fn,ar)) b3 ln3 e3:=by
     unfold qp at hr3 ⊢;rw [qb_ok rfl] at hr3 ⊢;have:=hr3.map fun p=>(p.1.1,p.2)
     simpa only [qb_qb,qb_ret] using this
    exact fval_true (by rw [B.hd_]; exact B.ok.name) h9
   ·rw [k3] at hr3 ⊢;rcases hr3 with ⟨q1,q2,q3⟩|⟨q1,u,q3,q4⟩
    ·cases q3
    ·cases q3;exact .inr ⟨q1,t,rfl,q4⟩
  unfold vRow sC;simp only;have hsm:∀ k:Nat,aRow k line (.view 6 [exRow op num name field (.view 6 args .shared)] .shared) fn (nlv (xrows ar))=smRow line ⟨k,[y],fn,ar⟩:=fun k=>by
   rw [smRow,nlv_one hy]
  generalize nlv (xrows ar)=q at hsm ⊢;by_cases hf:fn=[]
  ·rw [if_pos hf] at hfin;subst hf;refine goD ?_;refine so1 (row':=aRow 2 line (.view 6 [exRow op num name field (.view 6 args .shared)] .shared) [] q) rfl rfl rfl rfl rfl (by exact Nat.le_of_ble_eq_true rfl) rfl ?_;refine goD ?_;exact rets rfl (.refl _) (.refl _) ⟨_,b3,ln3,e3,hb3,by rw [← hsm 2] <;> rfl,hfin⟩
  ·rw [if_neg hf] at hfin;refine goD ?_;exact rets rfl (.refl _) (.refl _) ⟨_,b3,ln3,e3,hb3,by rw [← hsm 3] <;> rfl,hfin⟩
def tRow (line:Int) (n:List UInt8) (x:List UInt8 × Nat):List AV:=sRow 1 line n x.1 (x.2:Int) nilV [] nilV nilV nilV
theorem rtyped_err {ts:List Tk} {a ln e o os:Nat} {st:St} {line:Int} {n:List UInt8} (ho:st.obj o=some (rsC (ts.map tokRow) a ln e)) (hs:st.obj os=some (sC (tRow line n ([],0)))) (he:e=5∨e=7) :
  ACalls Tryz.prog 103 [.cptr o 4 0 0,.cptr os 13 0 0] st (fun _ st'=>∃ y,st'=st.set os (sC (tRow line n y))) (fun _ _=>False):=by
 refine ACalls.ofBody Tryz.func103 rfl Tryz.ntmps103 rfl ?_;have he0:¬ (e:Int)=0:=by omega
 unfold rsC at ho;refine goD ?_;exact AWP.ret (rets rfl (.refl _) (.refl _) ⟨([],0),by rw [St.set_same hs]⟩)
set_option maxHeartbeats 1000000 in
theorem rtyped_ok {ts:List Tk} (H:RdT ts) {a o os:Nat} {st:St} {line:Int} {n:List UInt8} (hne:os≠o) (ho:st.obj o=some (rsC (ts.map tokRow) a 0 0)) (hs:st.obj os=some (sC (tRow line n ([],0)))) (ha:a < ts.length) :
  ACalls Tryz.prog 103 [.cptr o 4 0 0,.cptr os 13 0 0] st (RsR ts o os st (tRow line n) (fty (ts.drop a))) (fun _ _=>False):=by
 refine ACalls.inSet2 ho hs (ACalls.ofBody Tryz.func103 rfl Tryz.ntmps103 rfl ?_);have inn:∀ b z r,((st.set o b).set os z).set o r=(st.set o r).set os z:=fun b z r=>St.set_inner hne b r z
 have ob:∀ b z,((st.set o b).set os z).obj o=some b:=fun b z=>St.obj_under hne b z
 have hlen:=H.len;clear ho hs;unfold sC tRow;obtain ⟨t,A⟩:=at_of H ha;have hM:((st.set o (rsC (ts.map tokRow) a 0 0)).set os (.cells 41 13 [sRow 1 line n [] ((0:Nat):Int) nilV [] nilV nilV nilV])).obj o=some (.cells 69 4 [[.view 4 (ts.map tokRow) .shared,.int .i64 (a:Int),.int .i64 0,.int .i64 0]]):=ob _ _
 have e0:fty (ts.drop a)=fty (ts.drop a):=rfl
 conv at e0=>rhs; rw [fty,A.hd_,A.tl]
 refine goD ?_;cases c1:wk t wInt with
 | false =>
  rw [if_neg (by rw [← wk_kw A.ok rfl,c1]; decide)] at e0;refine cle rfl rfl (A.is (ob _ _) wInt false c1) ?_;refine goD ?_;refine cl rfl rfl (rname_ok H (ob _ _) ha) fun v st' ⟨ty,b,ln,e,hv,hb,hst,hr⟩=>?_;subst hv;subst hst;rw [inn];refine goD ?_;refine so1 (row':=sRow 1 line n ty ((0:Nat):Int) nilV [] nilV nilV nilV) rfl rfl rfl rfl rfl (by exact Nat.le_of_ble_eq_true rfl) rfl ?_;refine goD ?_;exact AWP.ret (rets rfl (.refl _) (.refl _) ⟨(ty,0),b,ln,e,hb,rfl,by rw [e0]; exact hr.map _⟩)
 | true =>
  rw [if_pos (by rw [← wk_kw A.ok rfl]; exact c1)] at e0;have ha1:=A.more (wk_kind c1);refine cle rfl rfl (A.is (ob _ _) wInt true c1) ?_;refine goD ?_;refine so (rows':=[[.view 4 (ts.map tokRow) .shared,.int .i64 ((a + 1:Nat):Int),.int .i64 0,.int .i64 0]]) rfl rfl rfl hM rfl rfl rfl rfl rfl ?_;rw [inn];obtain ⟨u,B⟩:=at_of H ha1;rw [B.hd_,B.tl] at e0;have hM1:((st.set o (rsC (ts.map tokRow) (a + 1) 0 0)).set os (.cells 41 13 [sRow 1 line n [] ((0:Nat):Int) nilV [] nilV nilV nilV])).obj o=some (.cells 69 4 [[.view 4 (ts.map tokRow) .shared,.int .i64 ((a + 1:Nat):Int),.int .i64 0,.int .i64 0]]):=ob _ _;refine goD ?_;cases c2:wk u [91] with
  | false =>
   rw [if_neg (by rw [← wk_sg B.ok rfl,c2]; decide)] at e0;refine cle rfl rfl (B.is (ob _ _) [91] false c2) ?_;refine goD ?_;exact AWP.ret (rets rfl (.refl _) (.refl _) ⟨([],0),a + 1,0,0,ha1,rfl,.ok e0⟩)
  | true =>
   rw [if_pos (by rw [← wk_sg B.ok rfl]; exact c2)] at e0;have ha2:=B.more (wk_kind c2);refine cle rfl rfl (B.is (ob _ _) [91] true c2) ?_;refine goD ?_;refine so (rows':=[[.view 4 (ts.map tokRow) .shared,.int .i64 ((a + 1 + 1:Nat):Int),.int .i64 0,.int .i64 0]]) rfl rfl rfl hM1 rfl rfl rfl rfl rfl ?_;rw [inn];obtain ⟨w,C⟩:=at_of H ha2;rw [C.hd_,C.tl] at e0;refine goD ?_;by_cases c3:w.kind=2
   ·rw [if_pos c3] at e0;have ha3:=C.more (by rw [c3]; decide)
    have hn:=C.ok.num;refine cle rfl rfl (C.kd (ob _ _) 2 true (decide_eq_true c3)) ?_;obtain ⟨w',w1,w2,w3,w4,w5⟩:=map_at ha2;have hw:=C.at_;rw [w1] at hw;cases hw;have hM2:((st.set o (rsC (ts.map tokRow) (a + 1 + 1) 0 0)).set os (.cells 41 13 [sRow 1 line n [] ((0:Nat):Int) nilV [] nilV nilV nilV])).obj o=some (.cells 69 4 [[.view 4 (ts.map tokRow) .shared,.int .i64 ((a + 1 + 1:Nat):Int),.int .i64 0,.int .i64 0]]):=ob _ _;refine goD ?_;refine AWP.draw rfl 12 12 (fun _ _=>False) rfl ?_;refine goF ?_;refine dn ⟨fun _=>?_,fun h=>absurd h (by decide)⟩;refine goE ?_;refine so1 (row':=sRow 1 line n [] (w.num:Int) nilV [] nilV nilV nilV) rfl rfl rfl rfl rfl (by exact Nat.le_of_ble_eq_true rfl) rfl ?_;by_cases q1:w.num < 1
    ·rw [if_pos (.inl q1)] at e0;refine goD ?_;refine cl rfl rfl (C.fail (ob _ _) 5) fun v st' hst=>?_;subst hst;rw [inn];refine goD ?_;exact AWP.ret (rets rfl (.refl _) (.refl _) ⟨([],w.num),a + 1 + 1,w.line,5,ha2,rfl,.inr ⟨.inl rfl,_,e0,by rw [C.hd_]⟩⟩)
    by_cases q2:8 < w.num
    ·rw [if_pos (.inr q2)] at e0;refine goD ?_;refine cl rfl rfl (C.fail (ob _ _) 5) fun v st' hst=>?_;subst hst;rw [inn];refine goD ?_;exact AWP.ret (rets rfl (.refl _) (.refl _) ⟨([],w.num),a + 1 + 1,w.line,5,ha2,rfl,.inr ⟨.inl rfl,_,e0,by rw [C.hd_]⟩⟩)
    rw [if_neg (fun h=>h.elim q1 q2)] at e0;have hM3:((st.set o (rsC (ts.map tokRow) (a + 1 + 1) 0 0)).set os (.cells 41 13 [sRow 1 line n [] (w.num:Int) nilV [] nilV nilV nilV])).obj o=some (.cells 69 4 [[.view 4 (ts.map tokRow) .shared,.int .i64 ((a + 1 + 1:Nat):Int),.int .i64 0,.int .i64 0]]):=ob _ _;refine goD ?_;refine so (rows':=[[.view 4 (ts.map tokRow) .shared,.int .i64 ((a + 1 + 1 + 1:Nat):Int),.int .i64 0,.int .i64 0]]) rfl rfl rfl hM3 rfl rfl rfl rfl rfl ?_;rw [inn];refine goD ?_;refine cl rfl rfl (rtake_u H (.ok rfl:Rm ts (.ok ((),ts.drop (a + 1 + 1 + 1))) () (a + 1 + 1 + 1) 0 0) ha3 (ob _ _) [93] rfl) fun v st' ⟨_,b3,ln3,e3,_,hb3,hst,hr3⟩=>?_;subst hst;rw [inn];refine goD ?_;refine rets rfl (.refl _) (.refl _) ⟨([],w.num),b3,ln3,e3,hb3,rfl,?_⟩;rw [e0];have:=hr3.map fun _=>(([],w.num):List UInt8 × Nat)
    simpa only [qp,qb_qb,qb_ret] using this
   ·rw [if_neg c3] at e0;refine cle rfl rfl (C.kd (ob _ _) 2 false (decide_eq_false c3)) ?_;refine goD ?_;refine cl rfl rfl (C.fail (ob _ _) 7) fun v st' hst=>?_;subst hst;rw [inn];refine goD ?_;exact AWP.ret (rets rfl (.refl _) (.refl _) ⟨([],0),a + 1 + 1,w.line,7,ha2,rfl,.inr ⟨.inr rfl,_,e0,by rw [C.hd_]⟩⟩)
theorem rtyped_u {α:Type} {ts:List Tk} (H:RdT ts) {r:QR α} {x:α} {a ln e o os:Nat} {st:St} {line:Int} {n:List UInt8} (hne:os≠o) (hm:Rm ts r x a ln e) (ho:st.obj o=some (rsC (ts.map tokRow) a ln e)) (hs:st.obj os=some (sC (tRow line n ([],0)))) (ha:a < ts.length) :
  ACalls Tryz.prog 103 [.cptr o 4 0 0,.cptr os 13 0 0] st (RvR ts o os st (tRow line n) r x fty) (fun _ _=>False) :=
 RvR.of hm ha ho (fun h=>rtyped_ok H hne h hs ha) (fun he=>rtyped_err ho hs he)
def begV:List (List AV):=[[.str wVar],[.str wIf],[.str wWhile],[.str wReturn],[.str wThrow],[.str wTry],[.str wPrint]]
theorem begV_at:∀ m,m < 7→∃ s,stWords[m]?=some s∧begV[m]?=some [.str s]∧letHd s=true
 | 0,_=>⟨_,rfl,rfl,rfl⟩
 | 1,_=>⟨_,rfl,rfl,rfl⟩
 | 2,_=>⟨_,rfl,rfl,rfl⟩
 | 3,_=>⟨_,rfl,rfl,rfl⟩
 | 4,_=>⟨_,rfl,rfl,rfl⟩
 | 5,_=>⟨_,rfl,rfl,rfl⟩
 | 6,_=>⟨_,rfl,rfl,rfl⟩
 | n + 7,h=>absurd h (by omega)
theorem begS_word {t:Tk} {s:List UInt8} (h:kw t s=true) (hs:s ∈ stWords):begS t=true:=by
 obtain ⟨h1,h2⟩:=of_decide_eq_true h;unfold begS;rw [h1,h2,decide_eq_true (rfl:3=3),List.contains_iff_mem.2 hs];rfl
theorem rbegins_ok {ts:List Tk} {a ln e o:Nat} {t:Tk} {st:St} (A:AtT ts a t) (ho:st.obj o=some (rsC (ts.map tokRow) a ln e)) (b:Bool) (hb:begS t=b) :
  ACalls Tryz.prog 85 [.cptr o 4 0 0] st (fun v st'=>v=.bool b∧st'=st) (fun _ _=>False):=by
 refine ACalls.ofBody Tryz.func85 rfl Tryz.ntmps85 rfl ?_;subst hb;refine goD ?_;refine bsh (cs:=begV.flatten) rfl rfl rfl rfl rfl ?_;refine goD ?_;refine AWP.loop (α:=Nat) (fun i=>[(7,.int .i64 (i:Int)),(6,.int .i64 7),(5,.view 1 begV .shared),(0,.cptr o 4 0 0)]) (fun _=>st) (fun i=>i≤7∧∀ j x,j < i→stWords[j]?=some x→kw t x=false) (fun i=>7 - i) 0
  ⟨by omega,fun j x h=>absurd h (by omega)⟩ (tl4 rfl rfl rfl rfl) (.refl _) ?_
 rintro i ⟨h1,h2⟩;refine AWP.weaken (T':=[(7,.int .i64 (i:Int)),(6,.int .i64 7),(5,.view 1 begV .shared),(0,.cptr o 4 0 0)]) (tl4 rfl rfl rfl rfl) (.refl _) ?_;by_cases hi:i < 7
 ·obtain ⟨s,q1,q2,q3⟩:=begV_at i hi;have hi1:i < begV.length:=hi;refine goD ?_;cases hb:kw t s with
  | true =>
   refine cle rfl rfl (A.is ho s true (by rw [wk_kw A.ok q3]; exact hb)) ?_;refine goD ?_;exact AWP.ret (rets rfl (.refl _) (.refl _) ⟨by rw [begS_word hb (List.mem_of_getElem? q1)] <;> rfl,rfl⟩)
  | false =>
   refine cle rfl rfl (A.is ho s false (by rw [wk_kw A.ok q3]; exact hb)) ?_;refine goD ?_;refine ⟨i + 1,⟨by omega,fun j x hj hx=>?_⟩,by omega,(tl4 rfl rfl rfl rfl),.refl _⟩;rcases Nat.lt_or_ge j i with hji|hji
   ·exact h2 j x hji hx
   ·have:j=i:=by omega
    subst this;rw [q1] at hx;cases hx;exact hb
 ·refine goD ?_;refine AWP.exit (blk_hit ?_);refine goD ?_;refine cle rfl rfl (A.kd ho 1 (decide (t.kind=1)) rfl) ?_;refine goD ?_;refine AWP.ret (rets rfl (.refl _) (.refl _) (And.intro ?_ rfl));have hc:(decide (t.kind=3) && stWords.contains t.text)=false:=by
   rw [Bool.and_eq_false_iff];by_cases h3:t.kind=3
   ·refine .inr ?_;rw [Bool.eq_false_iff];intro hm;have hm:=List.contains_iff_mem.1 hm;obtain ⟨j,hj⟩:=List.mem_iff_getElem?.1 hm;have:=h2 j _ (by have:=(List.getElem?_eq_some_iff.1 hj).1; have h7:stWords.length=7:=rfl; omega) hj;exact absurd (show kw t t.text=true from decide_eq_true ⟨h3,rfl⟩) (by rw [this]; decide)
   ·exact .inl (decide_eq_false h3)
  unfold begS;rw [hc,Bool.or_false] <;> rfl
def VP (v:AV) (s:Sp):Prop:=v=spv s
def RsOk (ts:List Tk) (K:Nat):Prop:=∀ k,k≤K→∀ (d a o:Nat) (st:St) (_:d≤8) (_:a < ts.length) (_:begS (hd (ts.drop a))=true),3 * (ts.length - a) < k→st.obj o=some (rsC (ts.map tokRow) a 0 0) →
 ACalls Tryz.prog 86 [.cptr o 4 0 0,.int .i64 (d:Int)] st (RfR ts o st VP (fstm k d (ts.drop a))) (fun _ _=>False)
def RbR {α:Type} (ts:List Tk) (o:Nat) (st:St) (r:QR α) (x:α) (f:List Tk→QR (List Sp)) (v:AV) (st':St):Prop :=
 ∃ l ln a lnn e tk,v=.tuple [.view 13 (spRows l) (.own tk 41),.int .i64 ((ln:Nat):Int)]∧a < ts.length∧st.tok tk=false∧st'=(st.set o (rsC (ts.map tokRow) a lnn e)).addTok tk∧l.length≤ts.length + 1∧Rm ts (qp r f) (x,l) a lnn e∧(e=0→0 < a∧ln=(hd (ts.drop (a - 1))).line)
def RbOk (ts:List Tk) (K:Nat):Prop:=∀ k,k≤K→∀ (d a o:Nat) (st:St),d≤9→a < ts.length→3 * (ts.length - a) < k + 1→st.obj o=some (rsC (ts.map tokRow) a 0 0) →
 ACalls Tryz.prog 53 [.cptr o 4 0 0,.int .i64 (d:Int)] st (RbR ts o st (.ok ((),ts.drop a)) () (fblk k d)) (fun _ _=>False)
theorem rblock_err {ts:List Tk} {a ln e o:Nat} {st:St} (ho:st.obj o=some (rsC (ts.map tokRow) a ln e)) (he:e=5∨e=7) (d:Nat) :
  ACalls Tryz.prog 53 [.cptr o 4 0 0,.int .i64 (d:Int)] st (fun v st'=>∃ tk,v=.tuple [.view 13 (spRows []) (.own tk 41),.int .i64 0]∧st.tok tk=false∧st'=st.addTok tk) (fun _ _=>False):=by
 refine ACalls.ofBody Tryz.func53 rfl Tryz.ntmps53 rfl ?_;have he0:¬ (e:Int)=0:=by omega
 have ho':=ho;unfold rsC at ho;refine goD ?_;refine cl rfl rfl (rtake_err ho' he [123]) fun v st' ⟨_,hst⟩=>?_;subst hst;refine goD ?_;refine AWP.nilTok 6 41 13 rfl fun tk htk=>?_;have hM:(st'.addTok tk).obj o=some (.cells 69 4 [[.view 4 (ts.map tokRow) .shared,.int .i64 (a:Int),.int .i64 (ln:Int),.int .i64 (e:Int)]]):=ho;refine AWP.loop (α:=Unit) (fun _=>[(6,.view 13 [] (.own tk 41)),(1,.int .i64 (d:Int)),(0,.cptr o 4 0 0)]) (fun _=>st'.addTok tk) (fun _=>True) (fun _=>0) () trivial (tl3 rfl rfl rfl) (.refl _) ?_;intro _ _;refine AWP.weaken (T':=[(6,.view 13 [] (.own tk 41)),(1,.int .i64 (d:Int)),(0,.cptr o 4 0 0)]) (st':=st'.addTok tk) (tl3 rfl rfl rfl) (.refl _) ?_;refine goD ?_;refine AWP.exit (blk_hit ?_);refine goD ?_;have hM2:(st'.addTok tk).obj o=some (rsC (ts.map tokRow) a ln e):=ho';refine cl rfl rfl (rtake_err hM2 he [125]) fun v st2 ⟨_,hst⟩=>?_;subst hst;refine goD ?_;exact AWP.ret (rets rfl (.refl _) (.refl _) ⟨tk,rfl,htk,rfl⟩)
set_option maxHeartbeats 2000000 in
theorem rblock_step {ts:List Tk} (H:RdT ts) {K:Nat} (hS:RsOk ts K):RbOk ts (K + 1):=by
 intro k0 hk0 d a0 o st hd9 ha0 hk ho;obtain ⟨k,rfl⟩:∃ k,k0=k + 1:=⟨k0 - 1,by omega⟩;refine ACalls.inSet ho (ACalls.ofBody Tryz.func53 rfl Tryz.ntmps53 rfl ?_);have hlen:=H.len
 have hP:qp (.ok ((),ts.drop a0)) (fblk (k + 1) d)=qb (qp (fneed [123] (ts.drop a0)) fun r=>fsts k d [] r) fun p r=>.ok (((),p.2),r):=by
  simp only [qp,qb_qb,qb_ret,fblk]
 have hset:∀ tk c r,((st.set o c).addTok tk).set o r=(st.set o r).addTok tk:=fun tk _ _=>by
  show ((st.addTok tk).set o _).set o _=(st.addTok tk).set o _;rw [St.set_set]
 refine goD ?_;refine cl rfl rfl (rtake_ok H (St.obj_set _ _ _) ha0 [123]) fun v st' ⟨_,b,ln,e,_,hb,hst,hr⟩=>?_;subst hst;rw [St.set_set];rw [ftake_sg H ha0 rfl] at hr;refine goD ?_;refine AWP.nilTok 6 41 13 rfl fun tk htk=>?_;generalize hR:qp (.ok ((),ts.drop a0)) (fblk (k + 1) d)=R at hP;refine AWP.loop (α:=List Sp × Nat × Nat × Nat × Nat × Nat) (fun y=>[(6,.view 13 (spRows y.1) (.own y.2.2.2.2.1 41)),(1,.int .i64 (d:Int)),(0,.cptr o 4 0 0)]) (fun y=>(st.set o (rsC (ts.map tokRow) y.2.1 y.2.2.1 y.2.2.2.1)).addTok y.2.2.2.2.1)
  (fun y=>y.2.1 < ts.length∧st.tok y.2.2.2.2.1=false∧y.1.length≤ts.length + 1∧((y.2.2.2.1=0∧y.2.2.1=0∧y.1.length≤y.2.1∧a0 < y.2.1∧y.2.2.2.2.2≤k∧3 * (ts.length - y.2.1) + 1 < y.2.2.2.2.2∧R=qb (fsts y.2.2.2.2.2 d y.1 (ts.drop y.2.1)) fun l r=>.ok (((),l),r))∨((y.2.2.2.1=5∨y.2.2.2.1=7)∧∃ t,R=.error (y.2.2.2.1,t)∧y.2.2.1=(hd t).line)))
  (fun y=>if y.2.2.2.1=0 then ts.length - y.2.1 + 1 else 0) ([],b,ln,e,tk,k) ⟨hb,htk,Nat.zero_le _,?_⟩ (tl3 rfl rfl rfl) (.refl _) ?_
 ·rcases hr with ⟨k1,k2,k3⟩|⟨k1,t,k3,k4⟩
  ·have:=drop_lt ha0 (fneed_lt k3 (drop_ne ha0));exact .inl ⟨k1,k2,Nat.zero_le _,this,Nat.le_refl _,by simp only; omega,by rw [hP,k3,qp,qb_ok rfl]; simp only [qb_qb,qb_ret]⟩
  ·exact .inr ⟨k1,t,by rw [hP,k3] <;> rfl,k4⟩
 rintro ⟨l,c,ln2,e2,tk3,fu⟩ ⟨h2,h3,h4,h6⟩;simp only at h2 h3 h4 h6;refine AWP.weaken (T':=[(6,.view 13 (spRows l) (.own tk3 41)),(1,.int .i64 (d:Int)),(0,.cptr o 4 0 0)]) (st':=(st.set o (rsC (ts.map tokRow) c ln2 e2)).addTok tk3) (tl3 rfl rfl rfl) (.refl _) ?_;have hok:∀ a ln e,((st.set o (rsC (ts.map tokRow) a ln e)).addTok tk3).obj o=some (rsC (ts.map tokRow) a ln e):=fun _ _ _=>St.obj_set _ _ _
 have hM3:((st.set o (rsC (ts.map tokRow) c ln2 e2)).addTok tk3).obj o=some (.cells 69 4 [[.view 4 (ts.map tokRow) .shared,.int .i64 (c:Int),.int .i64 (ln2:Int),.int .i64 (e2:Int)]]):=hok _ _ _;rcases h6 with ⟨rfl,rfl,k3,kab,kfk,k4,k5⟩|⟨he,u,k3,k4⟩
 ·obtain ⟨t,A⟩:=at_of H h2;obtain ⟨fu,rfl⟩:∃ f,fu=f + 1:=⟨fu - 1,by omega⟩;rw [fsts,A.hd_,A.tl] at k5;refine goD ?_;cases hs:wk t [125] with
  | true =>
   rw [if_pos (by rw [← wk_sg A.ok rfl]; exact hs)] at k5;have hk1:=A.more (wk_kind hs);refine cle rfl rfl (A.is (hok c 0 0) [125] true hs) ?_;refine goD ?_;refine AWP.exit (blk_hit ?_);obtain ⟨t',w1,w2,w3,w4,w5⟩:=map_at h2;have hw:=A.at_;rw [w1] at hw;cases hw;refine goD ?_;refine AWP.draw rfl 12 12 (fun _ _=>False) rfl ?_;refine goF ?_;refine dn ⟨fun _=>?_,fun h=>absurd h (by decide)⟩;refine goD ?_;refine cl rfl rfl (rtake_t H A (hok c 0 0) h2 hs) fun v st' hst=>?_;subst hst;rw [hset];refine goD ?_;refine AWP.ret (rets rfl (.refl _) (.refl _) ⟨l,t.line,c + 1,0,0,tk3,rfl,hk1,h3,rfl,h4,.ok ?_,fun _=>⟨Nat.succ_pos _,?_⟩⟩)
   ·rw [hR,k5] <;> rfl
   ·rw [Nat.add_sub_cancel,A.hd_]
  | false =>
   rw [if_neg (by rw [← wk_sg A.ok rfl,hs]; decide)] at k5;obtain ⟨fu,rfl⟩:∃ f,fu=f + 1:=⟨fu - 1,by omega⟩;refine cle rfl rfl (A.is (hok c 0 0) [125] false hs) ?_;refine goD ?_;by_cases hb:begS t=true
   rotate_left
   ·refine cle rfl rfl (rbegins_ok A (hok c 0 0) false (by rw [Bool.not_eq_true] at hb; exact hb)) ?_;refine goD ?_;refine cl rfl rfl (A.fail (hok c 0 0) 7) fun v st' hst=>?_;subst hst;rw [hset];refine goD ?_;exact ⟨(l,c,t.line,7,tk3,0),⟨h2,h3,h4,.inr ⟨.inr rfl,ts.drop c,by rw [k5,fstm,A.hd_,if_neg hb] <;> rfl,by rw [A.hd_]⟩⟩,by simp only [if_pos]; rw [if_neg (by decide)]; omega,(tl3 rfl rfl rfl),.refl _⟩
   refine cle rfl rfl (rbegins_ok A (hok c 0 0) true hb) ?_;refine goD ?_;by_cases h8:8 < d
   ·refine goD ?_;refine cl rfl rfl (A.fail (hok c 0 0) 5) fun v st' hst=>?_;subst hst;rw [hset];refine goD ?_;exact ⟨(l,c,t.line,5,tk3,0),⟨h2,h3,h4,.inr ⟨.inl rfl,ts.drop c,by rw [k5,fstm,A.hd_,if_pos hb,if_pos h8] <;> rfl,by rw [A.hd_]⟩⟩,by simp only [if_pos]; rw [if_neg (by decide)]; omega,(tl3 rfl rfl rfl),.refl _⟩
   refine goD ?_;refine cl rfl rfl (hS (fu + 1) (by omega) d c o _ (by omega) h2 (by rw [A.hd_]; exact hb) (by omega) (hok c 0 0)) fun v st' ⟨s,b2,ln3,e3,hv,hb2,hst,hr2⟩=>?_;subst hv;subst hst;rw [hset];refine bs1 (v:=spv s) rfl rfl rfl rfl (by exact spRow_len s) (by rfl) ?_;refine ap rfl rfl rfl (St.tok_addTok _ _) rfl (by simp only [List.length_cons,List.length_nil,spRows_len]; omega) (by simp only [List.length_cons,List.length_nil,spRows_len,maxLen]; omega) fun tk' htk'=>?_;have hm:spRows l++[(spv s).cells]=spRows (l++[s]):=by rw [spRows_append,spRows,spRows] <;> rfl
   rw [hm];refine goD ?_;refine ⟨(l++[s],b2,ln3,e3,tk',fu + 1),⟨hb2,St.tok_of_add htk',by simp only [List.length_append,List.length_cons,List.length_nil]; omega,?_⟩,?_,(tl3 rfl rfl rfl),StLe.reTok (st:=st.set o (rsC (ts.map tokRow) b2 ln3 e3)) h3 tk'⟩
   ·simp only;rcases hr2 with ⟨q1,q2,q3⟩|⟨q1,u,q3,q4⟩
    ·have:=fstm_lt h2 q3;exact .inl ⟨q1,q2,by simp only [List.length_append,List.length_cons,List.length_nil]; omega,by omega,by omega,by omega,by rw [k5,q3] <;> rfl⟩
    ·exact .inr ⟨q1,u,by rw [k5,q3] <;> rfl,q4⟩
   ·simp only [if_pos];rcases hr2 with ⟨q1,q2,q3⟩|⟨q1,u,q3,q4⟩
    ·have:=fstm_lt h2 q3;rw [if_pos q1];omega
    ·rw [if_neg (by omega)];omega
 ·have he0:¬ (e2:Int)=0:=by omega
  refine goD ?_;refine AWP.exit (blk_hit ?_);refine goD ?_;refine cl rfl rfl (rtake_err (hok c ln2 e2) he [125]) fun v st' ⟨_,hst⟩=>?_;subst hst;refine goD ?_;exact AWP.ret (rets rfl (.refl _) (.refl _) ⟨l,0,c,ln2,e2,tk3,rfl,h2,h3,rfl,h4,.inr ⟨he,u,by rw [hR,k3],k4⟩,fun h=>absurd h (by omega)⟩)
theorem rblock_u {α:Type} {ts:List Tk} {K:Nat} (hB:RbOk ts K) {r:QR α} {x:α} {a ln e k d o:Nat} {st:St} (hm:Rm ts r x a ln e) (hk0:k≤K) (hd9:d≤9) (ha:a < ts.length) (hk:e=0→3 * (ts.length - a) < k + 1) (ho:st.obj o=some (rsC (ts.map tokRow) a ln e)) :
  ACalls Tryz.prog 53 [.cptr o 4 0 0,.int .i64 (d:Int)] st (RbR ts o st r x (fblk k d)) (fun _ _=>False):=by
 rcases hm with ⟨rfl,rfl,hr⟩|⟨he,t,hr,hl⟩
 ·refine Go.Proofs.ACalls.toQ (hB k hk0 d a o st hd9 ha (hk rfl) ho) fun v st' ⟨l,ln,a',lnn,e,tk,h1,h2,h3,h4,h5,h6,h7⟩=>⟨l,ln,a',lnn,e,tk,h1,h2,h3,h4,h5,?_,h7⟩;refine (h6.map fun p=>(x,p.2)).to (fun h=>?_) (fun z h=>?_)
  ·rw [← h,hr];simp only [qp,qb_qb,qb_ret]
  ·rw [← h,hr];simp only [qp,qb_qb,qb_ret]
 ·refine Go.Proofs.ACalls.toQ (rblock_err ho he d) fun v st' ⟨tk,h1,h2,h3⟩=>⟨[],0,a,ln,e,tk,h1,ha,h2,by rw [h3,St.set_same ho],Nat.zero_le _,?_,fun h=>absurd h (by omega)⟩;exact .inr ⟨he,t,by rw [qp,qb_err hr],hl⟩
def VB (v:AV) (l:List Sp):Prop:=∃ ln:Nat,v=.tuple [.view 13 (spRows l) .shared,.int .i64 (ln:Int)]
theorem rblock_sh {α:Type} {ts:List Tk} {K:Nat} (hB:RbOk ts K) {r:QR α} {x:α} {a ln e k d o:Nat} {st:St} (hm:Rm ts r x a ln e) (hk0:k≤K) (hd9:d≤9) (ha:a < ts.length) (hk:e=0→3 * (ts.length - a) < k + 1) (ho:st.obj o=some (rsC (ts.map tokRow) a ln e)) :
  ACalls Tryz.prog 53 [.cptr o 4 0 0,.int .i64 (d:Int)] st (RuR ts o st VB r x (fblk k d)) (fun _ _=>False) :=
 Go.Proofs.ACalls.leP (rblock_u hB hm hk0 hd9 ha hk ho) fun v st' ⟨l,ln,a',lnn,e,tk,h1,h2,h3,h4,h5,h6,h7⟩=>⟨_,st.set o (rsC (ts.map tokRow) a' lnn e),by rw [h1]; exact Le.pair (.shared _ _ _) (.refl _),by rw [h4]; exact StLe.addTok _ (.refl _),l,a',lnn,e,⟨ln,rfl⟩,h2,rfl,h6⟩
theorem ftake_kw {ts:List Tk} (H:RdT ts) {a:Nat} (ha:a < ts.length):ftake wCatch (ts.drop a)=fcatch (ts.drop a):=by
 unfold ftake fcatch;rw [wk_kw (hd_tk H ha) rfl]
theorem rcatch_u {α:Type} {ts:List Tk} (H:RdT ts) {r:QR α} {x:α} {a ln e o:Nat} {st:St} (hm:Rm ts r x a ln e) (ha:a < ts.length) (ho:st.obj o=some (rsC (ts.map tokRow) a ln e)) :
  ACalls Tryz.prog 51 [.cptr o 4 0 0,.str wCatch] st (RuR ts o st VU r x fcatch) (fun _ _=>False) :=
 RuR.of hm ha ho (fun h=>by rw [← ftake_kw H ha]; exact rtake_ok H h ha wCatch) (fun he=>rtake_err ho he wCatch)
set_option maxHeartbeats 4000000 in
theorem rstm_step {ts:List Tk} (H:RdT ts) {K:Nat} (hB:RbOk ts K):RsOk ts (K + 1):=by
 intro k0 hk0 d a o st hd8 ha hb hk ho;obtain ⟨k,rfl⟩:∃ k,k0=k + 1:=⟨k0 - 1,by omega⟩;have hkK:k≤K:=by omega
 have h8:¬ 8 < d:=by omega
 have e0:=fstm_pos (k:=k) hb h8;generalize hF:fstm (k + 1) d (ts.drop a)=F at e0 ⊢;refine ACalls.inSet ho (ACalls.ofBody Tryz.func86 rfl Tryz.ntmps86 rfl ?_);have hlen:=H.len;obtain ⟨t,A⟩:=at_of H ha;rw [A.hd_,A.tl] at e0;rw [A.hd_] at hb;obtain ⟨t',w1,w2,w3,w4,w5⟩:=map_at ha;have hw:=A.at_;rw [w1] at hw;cases hw;refine goC ?_;refine rg ?_;refine al rfl rfl fun o2 h2=>?_
 replace h2:=none_set h2
 have hM:((st.set o (rsC (ts.map tokRow) a 0 0)).set o2 (.cells 41 13 [sRow 0 0 [] [] 0 nilV [] nilV nilV nilV])).obj o=some (.cells 69 4 [[.view 4 (ts.map tokRow) .shared,.int .i64 (a:Int),.int .i64 0,.int .i64 0]]):=obj1 h2 _ _;refine goC ?_;refine AWP.draw rfl 13 12 (fun v s=>∃ o3,v=.cptr o3 13 0 0∧((st.set o (rsC (ts.map tokRow) a 0 0)).set o2 (.cells 41 13 [sRow 0 0 [] [] 0 nilV [] nilV nilV nilV])).obj o3=none∧s=((st.set o (rsC (ts.map tokRow) a 0 0)).set o2 (.cells 41 13 [sRow 0 0 [] [] 0 nilV [] nilV nilV nilV])).set o3 (.cells 41 13 [sRow 0 0 [] [] 0 nilV [] nilV nilV nilV])) rfl ?_;refine goF ?_;refine dp (h:=fun _ _=>bds (cs:=sRow 0 t.line [] [] 0 nilV [] nilV nilV nilV) rfl rfl rfl rfl nz) (z:=?_);refine de rfl rfl rfl ?_ ?_
 ·exact al rfl rfl fun o3 h3=>nl ⟨_,rfl,⟨o3,rfl,h3,rfl⟩,⟨fun x c hx=>St.obj_new h3 hx,fun _ h=>(by cases h),rfl⟩⟩
 refine dn ⟨fun h=>absurd h (by decide),fun _=>?_⟩;rintro v s1 d7 hd7 ⟨o3,rfl,h3,rfl⟩;cases hd7
 replace h3:=none_set2 h3
 refine soV rfl rfl rfl rfl rfl rfl ?_;have hM2:(((st.set o (rsC (ts.map tokRow) a 0 0)).set o2 (.cells 41 13 [sRow 0 0 [] [] 0 nilV [] nilV nilV nilV])).set o3 (.cells 41 13 [sRow 0 t.line [] [] 0 nilV [] nilV nilV nilV])).obj o=some (.cells 69 4 [[.view 4 (ts.map tokRow) .shared,.int .i64 (a:Int),.int .i64 0,.int .i64 0]]):=obj2 h2 h3 _ _ _;obtain ⟨w,a1,hw⟩:∃ w a1,(t.kind=3∧w=t.text∧a1=a + 1)∨(t.kind≠3∧w=[]∧a1=a):=by
  by_cases h:t.kind=3
  ·exact ⟨_,_,.inl ⟨h,rfl,rfl⟩⟩
  ·exact ⟨_,_,.inr ⟨h,rfl,rfl⟩⟩
 have hkw:∀ s,s≠[]→kw t s=decide (w=s):=fun s hs=>by
  unfold kw;rcases hw with ⟨q1,q2,_⟩|⟨q1,q2,_⟩
  ·rw [q2];exact decide_eq_decide.2 ⟨fun h=>h.2,fun h=>⟨q1,h⟩⟩
  ·rw [q2,decide_eq_false (fun h=>q1 h.1),decide_eq_false (fun h=>hs h.symm)]
 have ha1:a1 < ts.length:=by
  rcases hw with ⟨q1,_,q3⟩|⟨_,_,q3⟩
  ·rw [q3]; exact A.more (by rw [q1]; decide)
  ·rw [q3]; exact ha
 refine nl ?_;refine goC ?_;refine rg ?_;refine goE ?_;refine nl ?_;refine AWP.seq ?_;refine midk [(6,.str w),(5,.cptr o3 13 0 0),(4,.cptr o2 13 0 0),(1,.int .i64 (d:Int)),(0,.cptr o 4 0 0)] (((st.set o (rsC (ts.map tokRow) a1 0 0)).set o2 (.cells 41 13 [sRow 0 0 [] [] 0 nilV [] nilV nilV nilV])).set o3 (.cells 41 13 [sRow 0 t.line [] [] 0 nilV [] nilV nilV nilV])) ?_ ?_
 ·rcases hw with ⟨q1,rfl,rfl⟩|⟨q1,rfl,rfl⟩
  ·refine goD ?_;refine cle rfl rfl (A.kd (obj2 h2 h3 _ _ _) 3 true (decide_eq_true q1)) ?_;refine goD ?_;refine AWP.draw rfl 12 12 (fun _ _=>False) rfl ?_;refine goF ?_;refine dn ⟨fun _=>?_,fun h=>absurd h (by decide)⟩;refine goD ?_;refine so (rows':=[[.view 4 (ts.map tokRow) .shared,.int .i64 ((a + 1:Nat):Int),.int .i64 0,.int .i64 0]]) rfl rfl rfl hM2 rfl rfl rfl rfl rfl ?_;rw [push2 h2 h3];refine nl ⟨(tl5 rfl rfl rfl rfl rfl),.refl _⟩
  ·refine goD ?_;refine cle rfl rfl (A.kd (obj2 h2 h3 _ _ _) 3 false (decide_eq_false q1)) ?_;refine goD ?_;exact ⟨(tl5 rfl rfl rfl rfl rfl),.refl _⟩
 clear hM hM2 w2 w3 w4 w5;refine AWP.seq ?_;refine AWP.cutK (α:=Sp × Nat × Nat × Nat × List AV) (fun _=>[(5,.cptr o3 13 0 0),(4,.cptr o2 13 0 0)]) (fun y=>((st.set o (rsC (ts.map tokRow) y.2.1 y.2.2.1 y.2.2.2.1)).set o2 (.cells 41 13 [sRow 0 0 [] [] 0 nilV [] nilV nilV nilV])).set o3 (.cells 41 13 [y.2.2.2.2]))
  (fun y=>y.2.1 < ts.length∧Le (.agg y.2.2.2.2) (spv y.1)∧(∃ p1 p2 p3 p4 p5 p6 p7 p8 p9 p10,y.2.2.2.2=sRow p1 p2 p3 p4 p5 p6 p7 p8 p9 p10)∧Rm ts F y.1 y.2.1 y.2.2.1 y.2.2.2.1) ?_ ?_
 rotate_left
 ·rintro ⟨s,c,ln,e,row⟩ ⟨hc,hle,hrl,hR⟩;simp only at hc hle hrl hR;obtain ⟨p1,p2,p3,p4,p5,p6,p7,p8,p9,p10,rfl⟩:=hrl;show AWP _ _ _ _ _ _ (((st.set o (rsC (ts.map tokRow) c ln e)).set o2 (.cells 41 13 [sRow 0 0 [] [] 0 nilV [] nilV nilV nilV])).set o3 (.cells 41 13 [sRow p1 p2 p3 p4 p5 p6 p7 p8 p9 p10]));refine goD ?_;refine soU rfl (Ne.symm (set_ne_new (h3 ob0 ob0))) rfl rfl rfl rfl rfl ?_;refine goD ?_;exact AWP.ret (rets (resCW rfl (St.obj_under (Ne.symm (set_ne_new (h3 ob0 ob0))) _ _) rfl rfl rfl rfl) hle (drop2 h2 h3 _ _ _) ⟨s,c,ln,e,rfl,hc,rfl,hR⟩)
 have n3:o3≠o:=Ne.symm (ne_inner (h3 ob0 ob0));rw [hkw wVar (by decide),hkw wIf (by decide),hkw wWhile (by decide),hkw wTry (by decide),hkw wReturn (by decide),hkw wThrow (by decide),hkw wPrint (by decide)] at e0;have hsub:∀ s,s≠[]→w=s→a1=a + 1:=fun s hs h=>by
  rcases hw with ⟨_,_,q3⟩|⟨_,q2,_⟩
  ·exact q3
  ·rw [q2] at h; exact absurd h.symm hs
 by_cases c1:w=wVar
 ·obtain rfl:=hsub wVar (by decide) c1;rw [decide_eq_true c1,if_pos rfl,fdecl_eq] at e0;have c1':w=[118,97,114]:=c1;refine goD ?_;refine cl rfl rfl (rname_ok H (obj2 h2 h3 _ _ _) ha1) fun v st' ⟨n,b,ln,e,hv,hb2,hst,hr⟩=>?_;subst hv;subst hst;rw [push2 h2 h3];refine goE ?_;refine so1 (row':=sRow 1 t.line [] [] 0 nilV [] nilV nilV nilV) rfl rfl rfl rfl rfl (by exact Nat.le_of_ble_eq_true rfl) rfl ?_;refine goE ?_;refine so1 (row':=sRow 1 t.line n [] 0 nilV [] nilV nilV nilV) rfl rfl rfl rfl rfl (by exact Nat.le_of_ble_eq_true rfl) rfl ?_;refine goD ?_;refine cl rfl rfl (rtake_u H hr hb2 (obj2 h2 h3 _ _ _) [58] rfl) fun v st' ⟨_,b,ln,e,_,hb2,hst,hr⟩=>?_;subst hst;rw [push2 h2 h3];refine goD ?_;refine cl rfl rfl (rtyped_u H (line:=t.line) (n:=n) n3 hr (obj2 h2 h3 _ _ _) (St.obj_set _ _ _) hb2) fun v st' ⟨y,b,ln,e,hb2,hst,hr⟩=>?_;subst hst;rw [push2 h2 h3,St.set_set];refine goD ?_;refine cl rfl rfl (rtake_u H hr hb2 (obj2 h2 h3 _ _ _) [59] rfl) fun v st' ⟨_,b,ln,e,_,hb2,hst,hr⟩=>?_;subst hst;rw [push2 h2 h3];refine nl ⟨(.mk 1 t.line n y.1 y.2 [] [] [] [] [],b,ln,e,_),⟨hb2,?_,⟨_,_,_,_,_,_,_,_,_,_,rfl⟩,?_⟩,(tl2 rfl rfl),.refl _⟩
  ·rw [spv,spRow];exact sRow_le (.nilShared _ _) (.nilShared _ _) (.nilShared _ _) (.nilShared _ _) rfl rfl rfl rfl
  ·rw [e0];have:=hr.map fun p=>Sp.mk 1 t.line p.1.1.1 p.1.2.1 p.1.2.2 [] [] [] [] []
   simpa only [qp,qb_qb,qb_ret] using this
 rw [decide_eq_false c1,if_neg (by decide)] at e0;have c1':¬ w=[118,97,114]:=c1;by_cases c2:w=wIf
 ·obtain rfl:=hsub wIf (by decide) c2;rw [decide_eq_true c2,if_pos rfl] at e0;have c2':w=[105,102]:=c2;refine goD ?_;refine cl rfl rfl (rexpr_ok H (obj2 h2 h3 _ _ _) ha1) fun v st' ⟨x,b,ln,e,hv,hb2,hst,hr⟩=>?_;subst hst;rw [push2 h2 h3];obtain ⟨op,num,name,field,args,hx⟩:=xrow_ex x;unfold VX xv at hv;rw [hx] at hv;subst hv;have hx1:xrows [x]=[exRow op num name field (.view 6 args .shared)]:=by show [xrow x]=_; rw [hx] <;> rfl
  refine bsh (cs:=exRow op num name field (.view 6 args .shared)) rfl rfl rfl rfl rfl ?_;refine goE ?_;refine so1 (row':=sRow 4 t.line [] [] 0 nilV [] nilV nilV nilV) rfl rfl rfl rfl rfl (by exact Nat.le_of_ble_eq_true rfl) rfl ?_;refine goE ?_;refine so1 (row':=sRow 4 t.line [] [] 0 nilV [] (.view 6 [exRow op num name field (.view 6 args .shared)] .shared) nilV nilV) rfl rfl rfl rfl rfl (by exact Nat.le_of_ble_eq_true rfl) rfl ?_;refine goD ?_;have hab:∀ y,qx (ts.drop (a + 1))=.ok (y,ts.drop b)→a + 1 < b:=fun y h=>drop_lt ha1 (qx_lt h)
  have hbk:e=0→3 * (ts.length - b) < k + 1:=fun h=>by
   rcases hr with ⟨_,_,q⟩|⟨q,_⟩
   ·have:=hab _ q; omega
   ·omega
  refine cl rfl rfl (rblock_sh hB hr hkK (by omega:d + 1≤9) hb2 hbk (obj2 h2 h3 _ _ _)) fun v st' ⟨bd,c,ln2,e2,⟨lx,hv⟩,hc2,hst,hr2⟩=>?_;subst hv;subst hst;rw [push2 h2 h3];refine goD ?_;refine so1 (row':=sRow 4 t.line [] [] 0 nilV [] (.view 6 [exRow op num name field (.view 6 args .shared)] .shared) (.view 13 (spRows bd) .shared) nilV) rfl rfl rfl rfl rfl (by exact Nat.le_of_ble_eq_true rfl) rfl ?_;refine goD ?_;have hM4:(((st.set o (rsC (ts.map tokRow) c ln2 e2)).set o2 (.cells 41 13 [sRow 0 0 [] [] 0 nilV [] nilV nilV nilV])).set o3 (.cells 41 13 [sRow 4 t.line [] [] 0 nilV [] (.view 6 [exRow op num name field (.view 6 args .shared)] .shared) (.view 13 (spRows bd) .shared) nilV])).obj o=some (.cells 69 4 [[.view 4 (ts.map tokRow) .shared,.int .i64 (c:Int),.int .i64 (ln2:Int),.int .i64 (e2:Int)]]):=obj2 h2 h3 _ _ _
  have e1:F=qb (qp (qx (ts.drop (a + 1))) (fblk k (d + 1))) fun p r2=>if kw (hd r2) wElse then qb (fblk k (d + 1) r2.tail) fun e r3=>.ok (.mk 4 t.line [] [] 0 [] [] [p.1] p.2 e,r3) else .ok (.mk 4 t.line [] [] 0 [] [] [p.1] p.2 [],r2):=by
   rw [e0];simp only [qp,qb_qb,qb_ret]
  rcases hr2 with ⟨rfl,rfl,q3⟩|⟨q1,z,q3,q4⟩
  ·rw [q3,qb_ok rfl] at e1;have hbc:a + 1≤c:=by
    rcases hr with ⟨_,_,q⟩|⟨_,_,q,_⟩
    ·have h1:=hab _ q;rw [q,qp,qb_ok rfl] at q3;cases hq:fblk k (d + 1) (ts.drop b) with
     | error e=>rw [hq] at q3; cases q3
     | ok p =>
      rw [hq] at q3;have h5:p.2=ts.drop c:=congrArg Prod.snd (Except.ok.inj q3)
      have:=blk_le hb2 (show fblk k (d + 1) (ts.drop b)=.ok (p.1,ts.drop c) by rw [hq,← h5]);omega
    ·rw [q] at q3; cases q3
   obtain ⟨u,B⟩:=at_of H hc2;rw [B.hd_,B.tl] at e1;refine goD ?_;cases c9:wk u wElse with
   | true =>
    rw [if_pos (by rw [← wk_kw B.ok rfl]; exact c9)] at e1;have hc3:=B.more (wk_kind c9);refine cle rfl rfl (B.is (obj2 h2 h3 _ _ _) wElse true c9) ?_;refine goD ?_;refine so (rows':=[[.view 4 (ts.map tokRow) .shared,.int .i64 ((c + 1:Nat):Int),.int .i64 0,.int .i64 0]]) rfl rfl rfl hM4 rfl rfl rfl rfl rfl ?_;rw [push2 h2 h3];refine goD ?_;refine cl rfl rfl (rblock_sh hB (.ok rfl:Rm ts (.ok ((),ts.drop (c + 1))) () (c + 1) 0 0) hkK (by omega:d + 1≤9) hc3 (fun _=>by omega) (obj2 h2 h3 _ _ _)) fun v st' ⟨el,c4,ln4,e4,⟨lx,hv⟩,hc4,hst,hr4⟩=>?_;subst hv;subst hst;rw [push2 h2 h3];refine goD ?_;refine so1 (row':=sRow 4 t.line [] [] 0 nilV [] (.view 6 [exRow op num name field (.view 6 args .shared)] .shared) (.view 13 (spRows bd) .shared) (.view 13 (spRows el) .shared)) rfl rfl rfl rfl rfl (by exact Nat.le_of_ble_eq_true rfl) rfl ?_;refine nl ⟨(.mk 4 t.line [] [] 0 [] [] [x] bd el,c4,ln4,e4,_),⟨hc4,?_,⟨_,_,_,_,_,_,_,_,_,_,rfl⟩,?_⟩,(tl2 rfl rfl),.refl _⟩
    ·rw [spv,spRow];exact sRow_le (.nilShared _ _) (by rw [hx1]; exact .refl _) (.refl _) (.refl _) rfl rfl rfl rfl
    ·rw [e1];have:=hr4.map fun p=>Sp.mk 4 t.line [] [] 0 [] [] [x] bd p.2
     simpa only [qp,qb_qb,qb_ret] using this
   | false =>
    rw [if_neg (by rw [← wk_kw B.ok rfl,c9]; decide)] at e1;refine cle rfl rfl (B.is (obj2 h2 h3 _ _ _) wElse false c9) ?_;refine goD ?_;refine ⟨(.mk 4 t.line [] [] 0 [] [] [x] bd [],c,0,0,_),⟨hc2,?_,⟨_,_,_,_,_,_,_,_,_,_,rfl⟩,.ok e1⟩,(tl2 rfl rfl),.refl _⟩;rw [spv,spRow];exact sRow_le (.nilShared _ _) (by rw [hx1]; exact .refl _) (.refl _) (.nilShared _ _) rfl rfl rfl rfl
  ·have q0:¬ (e2:Int)=0:=by omega
   refine goD ?_;refine ⟨(.mk 4 t.line [] [] 0 [] [] [x] bd [],c,ln2,e2,_),⟨hc2,?_,⟨_,_,_,_,_,_,_,_,_,_,rfl⟩,.inr ⟨q1,z,by rw [e1,qb_err q3],q4⟩⟩,(tl2 rfl rfl),.refl _⟩;rw [spv,spRow];exact sRow_le (.nilShared _ _) (by rw [hx1]; exact .refl _) (.refl _) (.nilShared _ _) rfl rfl rfl rfl
 rw [decide_eq_false c2,if_neg (by decide)] at e0;have c2':¬ w=[105,102]:=c2;by_cases c3:w=wWhile
 ·obtain rfl:=hsub wWhile (by decide) c3;rw [decide_eq_true c3,if_pos rfl] at e0;have c3':w=[119,104,105,108,101]:=c3;refine goD ?_;refine cl rfl rfl (rexpr_ok H (obj2 h2 h3 _ _ _) ha1) fun v st' ⟨x,b,ln,e,hv,hb2,hst,hr⟩=>?_;subst hst;rw [push2 h2 h3];obtain ⟨op,num,name,field,args,hx⟩:=xrow_ex x;unfold VX xv at hv;rw [hx] at hv;subst hv;have hx1:xrows [x]=[exRow op num name field (.view 6 args .shared)]:=by show [xrow x]=_; rw [hx] <;> rfl
  refine bsh (cs:=exRow op num name field (.view 6 args .shared)) rfl rfl rfl rfl rfl ?_;refine goE ?_;refine so1 (row':=sRow 5 t.line [] [] 0 nilV [] nilV nilV nilV) rfl rfl rfl rfl rfl (by exact Nat.le_of_ble_eq_true rfl) rfl ?_;refine goE ?_;refine so1 (row':=sRow 5 t.line [] [] 0 nilV [] (.view 6 [exRow op num name field (.view 6 args .shared)] .shared) nilV nilV) rfl rfl rfl rfl rfl (by exact Nat.le_of_ble_eq_true rfl) rfl ?_;refine goD ?_;have hab:∀ y,qx (ts.drop (a + 1))=.ok (y,ts.drop b)→a + 1 < b:=fun y h=>drop_lt ha1 (qx_lt h)
  have hbk:e=0→3 * (ts.length - b) < k + 1:=fun h=>by
   rcases hr with ⟨_,_,q⟩|⟨q,_⟩
   ·have:=hab _ q; omega
   ·omega
  refine cl rfl rfl (rblock_sh hB hr hkK (by omega:d + 1≤9) hb2 hbk (obj2 h2 h3 _ _ _)) fun v st' ⟨bd,c,ln2,e2,⟨lx,hv⟩,hc2,hst,hr2⟩=>?_;subst hv;subst hst;rw [push2 h2 h3];refine goD ?_;refine so1 (row':=sRow 5 t.line [] [] 0 nilV [] (.view 6 [exRow op num name field (.view 6 args .shared)] .shared) (.view 13 (spRows bd) .shared) nilV) rfl rfl rfl rfl rfl (by exact Nat.le_of_ble_eq_true rfl) rfl ?_;refine goD ?_;refine ⟨(.mk 5 t.line [] [] 0 [] [] [x] bd [],c,ln2,e2,_),⟨hc2,?_,⟨_,_,_,_,_,_,_,_,_,_,rfl⟩,?_⟩,(tl2 rfl rfl),.refl _⟩
  ·rw [spv,spRow];exact sRow_le (.nilShared _ _) (by rw [hx1]; exact .refl _) (.refl _) (.nilShared _ _) rfl rfl rfl rfl
  ·rw [e0];have:=hr2.map fun p=>Sp.mk 5 t.line [] [] 0 [] [] [p.1] p.2 []
   simpa only [qp,qb_qb,qb_ret] using this
 rw [decide_eq_false c3,if_neg (by decide)] at e0;have c3':¬ w=[119,104,105,108,101]:=c3;by_cases c4:w=wTry
 ·obtain rfl:=hsub wTry (by decide) c4;rw [decide_eq_true c4,if_pos rfl] at e0;have c4':w=[116,114,121]:=c4;refine goD ?_;refine so1 (row':=sRow 8 t.line [] [] 0 nilV [] nilV nilV nilV) rfl rfl rfl rfl rfl (by exact Nat.le_of_ble_eq_true rfl) rfl ?_;refine goD ?_;refine cl rfl rfl (rblock_sh hB (.ok rfl:Rm ts (.ok ((),ts.drop (a + 1))) () (a + 1) 0 0) hkK (by omega:d + 1≤9) ha1 (fun _=>by omega) (obj2 h2 h3 _ _ _)) fun v st' ⟨bd,b,ln,e,⟨lx,hv⟩,hb2,hst,hr⟩=>?_;subst hv;subst hst;rw [push2 h2 h3];refine goD ?_;refine so1 (row':=sRow 8 t.line [] [] 0 nilV [] nilV (.view 13 (spRows bd) .shared) nilV) rfl rfl rfl rfl rfl (by exact Nat.le_of_ble_eq_true rfl) rfl ?_;refine goD ?_;refine cl rfl rfl (rcatch_u H hr hb2 (obj2 h2 h3 _ _ _)) fun v st' ⟨_,c,ln2,e2,_,hc2,hst,hr2⟩=>?_;subst hst;rw [push2 h2 h3];refine goD ?_;refine cl rfl rfl (rname_u H hr2 hc2 (obj2 h2 h3 _ _ _)) fun v st' ⟨n,c3,ln3,e3,hv,hc3,hst,hr3⟩=>?_;subst hv;subst hst;rw [push2 h2 h3];refine goD ?_;refine so1 (row':=sRow 8 t.line n [] 0 nilV [] nilV (.view 13 (spRows bd) .shared) nilV) rfl rfl rfl rfl rfl (by exact Nat.le_of_ble_eq_true rfl) rfl ?_;refine goD ?_;have hbk:e3=0→3 * (ts.length - c3) < k + 1:=fun h=>by
   rcases hr3 with ⟨_,_,q⟩|⟨q,_⟩
   ·have hl:(ts.drop c3).length≤(ts.drop (a + 1)).length:=by
     have hq:QLe (ts.drop (a + 1)).length (qp (qp (qp (.ok ((),ts.drop (a + 1))) (fblk k (d + 1))) fcatch) fname):=by
      unfold qp;simp only [qb_qb,qb_ret];refine ((fstm_all k).2.1 (d + 1) _).qb fun y r h=>?_;refine QLe.qb (n:=(ts.drop (a + 1)).length) ?_ fun _ r h=>((fname_le r).mono h).qb fun _ r h=>.ok h;unfold fcatch;split
      ·exact .ok (Nat.le_trans (tail_le r) h)
      ·exact .err
     exact hq _ _ q
    simp only [List.length_drop] at hl;omega
   ·omega
  refine cl rfl rfl (rblock_sh hB hr3 hkK (by omega:d + 1≤9) hc3 hbk (obj2 h2 h3 _ _ _)) fun v st' ⟨el,c4,ln4,e4,⟨ly,hv⟩,hc4,hst,hr4⟩=>?_;subst hv;subst hst;rw [push2 h2 h3];refine goD ?_;refine so1 (row':=sRow 8 t.line n [] 0 nilV [] nilV (.view 13 (spRows bd) .shared) (.view 13 (spRows el) .shared)) rfl rfl rfl rfl rfl (by exact Nat.le_of_ble_eq_true rfl) rfl ?_;refine nl ⟨(.mk 8 t.line n [] 0 [] [] [] bd el,c4,ln4,e4,_),⟨hc4,?_,⟨_,_,_,_,_,_,_,_,_,_,rfl⟩,?_⟩,(tl2 rfl rfl),.refl _⟩
  ·rw [spv,spRow];exact sRow_le (.nilShared _ _) (.nilShared _ _) (.refl _) (.refl _) rfl rfl rfl rfl
  ·rw [e0];have:=hr4.map fun p=>Sp.mk 8 t.line p.1.2 [] 0 [] [] [] p.1.1.1.2 p.2
   simpa only [qp,qb_qb,qb_ret] using this
 rw [decide_eq_false c4,if_neg (by decide)] at e0;have c4':¬ w=[116,114,121]:=c4;by_cases c5:w=wReturn
 ·obtain rfl:=hsub wReturn (by decide) c5;rw [decide_eq_true c5,if_pos rfl] at e0;have c5':w=[114,101,116,117,114,110]:=c5;refine goD ?_;refine so1 (row':=sRow 6 t.line [] [] 0 nilV [] nilV nilV nilV) rfl rfl rfl rfl rfl (by exact Nat.le_of_ble_eq_true rfl) rfl ?_;refine goD ?_;refine cl rfl rfl (rvalue_ok H (kind:=6) (line:=t.line) (tgt:=nilV) true n3 (obj2 h2 h3 _ _ _) (St.obj_set _ _ _) ha1) fun v st' ⟨x,b,ln,e,hb2,hst,hr⟩=>?_;subst hst;rw [push2 h2 h3,St.set_set];refine goD ?_;refine cl rfl rfl (rtake_u H hr hb2 (obj2 h2 h3 _ _ _) [59] rfl) fun v st' ⟨_,c,ln2,e2,_,hc2,hst,hr2⟩=>?_;subst hst;rw [push2 h2 h3];refine nl ⟨(.mk 6 t.line [] [] 0 [] x.1 x.2 [] [],c,ln2,e2,_),⟨hc2,?_,⟨_,_,_,_,_,_,_,_,_,_,rfl⟩,?_⟩,(tl2 rfl rfl),.refl _⟩
  ·rw [spv,spRow];exact sRow_le (.nilShared _ _) (nlv_le _) (.nilShared _ _) (.nilShared _ _) rfl rfl rfl rfl
  ·rw [e0];have:=hr2.map fun p=>Sp.mk 6 t.line [] [] 0 [] p.1.1 p.1.2 [] []
   simpa only [qp,qb_qb,qb_ret] using this
 rw [decide_eq_false c5,if_neg (by decide)] at e0;have c5':¬ w=[114,101,116,117,114,110]:=c5;by_cases c6:w=wThrow
 ·obtain rfl:=hsub wThrow (by decide) c6;rw [decide_eq_true c6,if_pos rfl] at e0;have c6':w=[116,104,114,111,119]:=c6;refine goD ?_;refine so1 (row':=sRow 7 t.line [] [] 0 nilV [] nilV nilV nilV) rfl rfl rfl rfl rfl (by exact Nat.le_of_ble_eq_true rfl) rfl ?_;refine goD ?_;refine cl rfl rfl (rvalue_ok H (kind:=7) (line:=t.line) (tgt:=nilV) false n3 (obj2 h2 h3 _ _ _) (St.obj_set _ _ _) ha1) fun v st' ⟨x,b,ln,e,hb2,hst,hr⟩=>?_;subst hst;rw [push2 h2 h3,St.set_set];refine goD ?_;refine cl rfl rfl (rtake_u H hr hb2 (obj2 h2 h3 _ _ _) [59] rfl) fun v st' ⟨_,c,ln2,e2,_,hc2,hst,hr2⟩=>?_;subst hst;rw [push2 h2 h3];refine nl ⟨(.mk 7 t.line [] [] 0 [] x.1 x.2 [] [],c,ln2,e2,_),⟨hc2,?_,⟨_,_,_,_,_,_,_,_,_,_,rfl⟩,?_⟩,(tl2 rfl rfl),.refl _⟩
  ·rw [spv,spRow];exact sRow_le (.nilShared _ _) (nlv_le _) (.nilShared _ _) (.nilShared _ _) rfl rfl rfl rfl
  ·rw [e0];have:=hr2.map fun p=>Sp.mk 7 t.line [] [] 0 [] p.1.1 p.1.2 [] []
   simpa only [qp,qb_qb,qb_ret] using this
 rw [decide_eq_false c6,if_neg (by decide)] at e0;have c6':¬ w=[116,104,114,111,119]:=c6;by_cases c7:w=wPrint
 ·obtain rfl:=hsub wPrint (by decide) c7;rw [decide_eq_true c7,if_pos rfl] at e0;have c7':w=[112,114,105,110,116]:=c7;refine goD ?_;refine so1 (row':=sRow 9 t.line [] [] 0 nilV [] nilV nilV nilV) rfl rfl rfl rfl rfl (by exact Nat.le_of_ble_eq_true rfl) rfl ?_;refine goD ?_;refine cl rfl rfl (rvalue_ok H (kind:=9) (line:=t.line) (tgt:=nilV) false n3 (obj2 h2 h3 _ _ _) (St.obj_set _ _ _) ha1) fun v st' ⟨x,b,ln,e,hb2,hst,hr⟩=>?_;subst hst;rw [push2 h2 h3,St.set_set];refine goD ?_;refine cl rfl rfl (rtake_u H hr hb2 (obj2 h2 h3 _ _ _) [59] rfl) fun v st' ⟨_,c,ln2,e2,_,hc2,hst,hr2⟩=>?_;subst hst;rw [push2 h2 h3];refine nl ⟨(.mk 9 t.line [] [] 0 [] x.1 x.2 [] [],c,ln2,e2,_),⟨hc2,?_,⟨_,_,_,_,_,_,_,_,_,_,rfl⟩,?_⟩,(tl2 rfl rfl),.refl _⟩
  ·rw [spv,spRow];exact sRow_le (.nilShared _ _) (nlv_le _) (.nilShared _ _) (.nilShared _ _) rfl rfl rfl rfl
  ·rw [e0];have:=hr2.map fun p=>Sp.mk 9 t.line [] [] 0 [] p.1.1 p.1.2 [] []
   simpa only [qp,qb_qb,qb_ret] using this
 rw [decide_eq_false c7,if_neg (by decide)] at e0;have c7':¬ w=[112,114,105,110,116]:=c7;obtain rfl:a1=a:=by
  rcases hw with ⟨q1,q2,_⟩|⟨_,_,q3⟩
  ·exfalso;unfold begS at hb;rw [q1,← q2] at hb;have hm:w ∈ stWords:=List.contains_iff_mem.1 (by simpa using hb);simp only [stWords,List.mem_cons,List.not_mem_nil,or_false] at hm;rcases hm with h|h|h|h|h|h|h
   ·exact c1 h
   ·exact c2 h
   ·exact c3 h
   ·exact c5 h
   ·exact c6 h
   ·exact c4 h
   ·exact c7 h
  ·exact q3
 refine goD ?_;refine cl rfl rfl (reffect_ok H (line:=t.line) n3 (obj2 h2 h3 _ _ _) (St.obj_set _ _ _) ha) fun v st' ⟨m,b,ln,e,hb2,hst,hr⟩=>?_;subst hst;rw [push2 h2 h3,St.set_set];refine goD ?_;refine cl rfl rfl (rtake_u H hr hb2 (obj2 h2 h3 _ _ _) [59] rfl) fun v st' ⟨_,c,ln2,e2,_,hc2,hst,hr2⟩=>?_;subst hst;rw [push2 h2 h3];refine nl ⟨(.mk m.kind t.line [] [] 0 m.target m.fn m.args [] [],c,ln2,e2,_),⟨hc2,?_,⟨_,_,_,_,_,_,_,_,_,_,rfl⟩,?_⟩,(tl2 rfl rfl),.refl _⟩
 ·rw [spv,spRow];exact sRow_le (nlv_le _) (nlv_le _) (.nilShared _ _) (.nilShared _ _) rfl rfl rfl rfl
 ·rw [e0];have:=hr2.map fun p=>Sp.mk p.1.kind t.line [] [] 0 p.1.target p.1.fn p.1.args [] []
  simpa only [qp,qb_qb,qb_ret] using this
end Go.Proofs
namespace Go.Proofs
def bl (x:Xp):Nat:=(xby x).length
def tl (x:Xp):Nat:=(xtk x).length

theorem tw_tail (ts:List Tk):tw ts.tail + (wordOf (hd ts)).length=tw ts:=by
 cases ts with
 | nil=>rfl
 | cons t r =>
  rw [tw_cons];show tw r + (wordOf t).length=_;omega
theorem len_tail {ts:List Tk} (h:(hd ts).kind≠0):ts.tail.length + 1=ts.length:=by
 cases ts with
 | nil=>exact absurd rfl h
 | cons t r=>rfl
theorem sg_word {t:Tk} {s:List UInt8} (h:sg t s=true):(wordOf t).length=s.length∧t.kind≠0:=by
 have h:t.kind=4∧t.text=s:=of_decide_eq_true h;unfold wordOf;rw [if_neg (by omega),h.2];exact ⟨rfl,by omega⟩
theorem bin_text {t:Tk} (h:(bin t).1≠0):(wordOf t).length=(sgO (bin t).2).length∧1≤(sgO (bin t).2).length∧t.kind≠0:=by
 unfold bin at *;cases hf:binL.find? fun o=>sg t o.1 with
 | none=>rw [hf] at h; exact absurd rfl h
 | some o =>
  have h1:=List.mem_of_find?_eq_some hf
  have h2:=List.find?_some hf
  have h3:∀ o ∈ binL,sgO o.2.2=o.1∧1≤o.1.length:=by decide
  obtain ⟨a1,a2⟩:=h3 o h1;obtain ⟨w1,w2⟩:=sg_word h2;show _=(sgO o.2.2).length∧1≤(sgO o.2.2).length∧_;rw [a1];exact ⟨w1,a2,w2⟩

theorem bl_pby (b:Bool) (l:List UInt8):(pby b l).length=l.length + 2 * b1 b:=by
 cases b <;> simp [pby,b1]
theorem tl_par (b:Bool) (l:List Tk):(par b l).length=l.length + 2 * b1 b:=by
 cases b <;> simp [par,b1]
theorem bl_bin (op:Nat) (a b:Xp):bl (.bin op a b)=bl a + 2 * b1 (lpar op a) + 2 + (sgO op).length + bl b + 2 * b1 (rpar op b):=by
 unfold bl;simp only [xby,List.length_append,List.length_cons,bl_pby];omega
theorem tl_bin (op:Nat) (a b:Xp):tl (.bin op a b)=tl a + 2 * b1 (lpar op a) + 1 + tl b + 2 * b1 (rpar op b):=by
 unfold tl;simp only [xtk,List.length_append,List.length_cons,tl_par];omega
theorem bl_una (op:Nat) (a:Xp):bl (.una op a)=1 + bl a + 2 * pen 5 a∧tl (.una op a)=1 + tl a + 2 * pen 5 a:=by
 have h1:bl (.una op a)=(pby (decide (lvX a < 5)) (xby a)).length + 1:=rfl
 have h2:tl (.una op a)=(par (decide (lvX a < 5)) (xtk a)).length + 1:=rfl;rw [bl_pby] at h1;rw [tl_par] at h2;have e1:bl a=(xby a).length:=rfl
 have e2:tl a=(xtk a).length:=rfl
 have e3:pen 5 a=b1 (decide (lvX a < 5)):=rfl;exact ⟨by omega,by omega⟩
theorem bl_elt (s:List UInt8) (a:Xp):bl (.elt s a)=s.length + bl a + 2∧tl (.elt s a)=tl a + 3:=by
 have h1:bl (.elt s a)=(s++91::(xby a++[93])).length:=rfl
 have h2:tl (.elt s a)=(xtk a++[tS [93]]).length + 1 + 1:=rfl;rw [List.length_append,List.length_cons,List.length_append,List.length_cons,List.length_nil] at h1;rw [List.length_append,List.length_cons,List.length_nil] at h2;have e1:bl a=(xby a).length:=rfl
 have e2:tl a=(xtk a).length:=rfl;exact ⟨by omega,by omega⟩

def WL (ts:List Tk) (x:Xp) (r:List Tk) (p:Nat):Prop:=3 * tw r + bl x + 2 * p≤3 * tw ts∧r.length + tl x + 2 * p≤ts.length

theorem wl:∀ k:Nat,(∀ lv d ts x r,1≤lv→lv≤5→pe k lv d ts=.ok (x,r)→WL ts x r (pen lv x)) ∧
  (∀ lv d a ts x r,1≤lv→lv≤4→pl k lv d a ts=.ok (x,r) →
   3 * tw r + bl x + 2 * pen lv x≤3 * tw ts + bl a + 2 * penL lv a∧r.length + tl x + 2 * pen lv x≤ts.length + tl a + 2 * penL lv a) ∧
  (∀ d ts x r,po k d ts=.ok (x,r)→WL ts x r (pen 5 x))
 | 0=>⟨fun _ _ _ _ _ _ _ h=>(by rw [pe] at h; cases h),fun _ _ _ _ _ _ _ _ h=>(by rw [pl] at h; cases h),fun _ _ _ _ h=>(by rw [po] at h; cases h)⟩
 | k + 1=>by
  obtain ⟨i1,i2,i3⟩:=wl k;refine ⟨fun lv d ts x r h1 h5 h=>?_,fun lv d a ts x r h1 h4 h=>?_,fun d ts x r h=>?_⟩
  ·rw [pe_succ] at h;split at h
   ·have:lv=5:=by omega
    subst this;exact i3 d ts x r h
   ·cases hp:pe k (lv + 1) d ts with
    | error e=>rw [hp] at h; cases h
    | ok p =>
     obtain ⟨a,r1⟩:=p;rw [hp] at h;simp only at h;obtain ⟨a1,a2⟩:=i1 (lv + 1) d ts a r1 (by omega) (by omega) hp;have hu:=pen_up lv a h1;obtain ⟨c1,c2⟩:=i2 lv d a r1 x r h1 (by omega) h;exact ⟨by omega,by omega⟩
  ·rw [pl_succ] at h;split at h
   ·rename_i hb;obtain ⟨o1,o2,o3,o4⟩:=bin_op (t:=hd ts) (by omega);obtain ⟨q1,q2,q3⟩:=bin_text (t:=hd ts) (by omega);have ot:=tw_tail ts
    have ol:=len_tail q3;cases hp:pe k (lv + 1) d ts.tail with
    | error e=>rw [hp] at h; cases h
    | ok p =>
     obtain ⟨b,r1⟩:=p;rw [hp] at h;simp only at h;obtain ⟨a1,a2⟩:=i1 (lv + 1) d ts.tail b r1 (by omega) (by omega) hp;have hl:lvX (.bin (bin (hd ts)).2 a b)=lv:=by rw [← hb,← o1]; rfl
     have elp:b1 (lpar (bin (hd ts)).2 a)=penL lv a:=by unfold lpar penL; rw [o1,hb]
     have erp:b1 (rpar (bin (hd ts)).2 b)=pen (lv + 1) b:=by
      unfold rpar pen;rw [o1,hb]
      congr 1
      exact decide_eq_decide.2 (by omega)
     have hbl:=bl_bin (bin (hd ts)).2 a b
     have htl:=tl_bin (bin (hd ts)).2 a b;rw [elp,erp] at hbl htl;have hp0:pen lv (.bin (bin (hd ts)).2 a b)=0:=by
      unfold pen;rw [hl,decide_eq_false (by omega)];rfl
     split at h
     ·cases h;rw [hp0];exact ⟨by omega,by omega⟩
     ·rename_i hl1;have hp1:penL lv (.bin (bin (hd ts)).2 a b)=0:=by
       unfold penL;rw [hl,decide_eq_false (by omega)];rfl
      obtain ⟨c1,c2⟩:=i2 lv d _ r1 x r h1 h4 h;rw [hp1] at c1 c2;exact ⟨by omega,by omega⟩
   ·cases h;have hp:=pen_le lv a;exact ⟨by omega,by omega⟩
  ·rw [po_succ] at h;have ot:=tw_tail ts
   have ot2:=tw_tail ts.tail
   have ot3:=tw_tail ts.tail.tail;split at h
   ·rename_i hb;have h0:(hd ts).kind≠0:=by
     intro e;simp [beg,sg,e] at hb
    have ol:=len_tail h0;split at h
    ·cases h
    split at h
    ·rename_i c;cases h;have e:pen 5 (.lit (hd ts).num)=0:=rfl
     have w:(wordOf (hd ts)).length=bl (.lit (hd ts).num):=by unfold wordOf bl; rw [if_pos c]; rfl
     rw [e];refine ⟨by omega,?_⟩;show _ + 1 + _≤_;omega
    split at h
    ·rename_i c0 c1;have w:(wordOf (hd ts)).length=(hd ts).text.length:=by unfold wordOf; rw [if_neg (by omega)]
     split at h
     ·rename_i c2;obtain ⟨w2,k2⟩:=sg_word c2;have ol2:=len_tail k2;split at h
      ·rename_i c3;cases h;have w3:(wordOf (hd ts.tail.tail)).length=(hd ts.tail.tail).text.length:=by unfold wordOf; rw [if_neg (by omega)]
       have ol3:=len_tail (ts:=ts.tail.tail) (by omega)
       have e:pen 5 (.fld (hd ts).text (hd ts.tail.tail).text)=0:=rfl
       have e2:bl (.fld (hd ts).text (hd ts.tail.tail).text)=(hd ts).text.length + 1 + (hd ts.tail.tail).text.length:=by
        unfold bl;simp only [xby,List.length_append,List.length_cons];omega
       have e3:tl (.fld (hd ts).text (hd ts.tail.tail).text)=3:=rfl;simp only [List.length_cons,List.length_nil] at w2;rw [e];exact ⟨by omega,by omega⟩
      ·cases h
     split at h
     ·rename_i c2 c3;obtain ⟨w2,k2⟩:=sg_word c3;have ol2:=len_tail k2;cases hp:pe k 1 (d + 1) ts.tail.tail with
      | error e=>rw [hp] at h; cases h
      | ok p =>
       obtain ⟨a,r1⟩:=p;rw [hp] at h;simp only at h;obtain ⟨a1,a2⟩:=i1 1 (d + 1) ts.tail.tail a r1 (by omega) (by omega) hp;have or:=tw_tail r1;split at h
       ·rename_i c4;obtain ⟨w4,k4⟩:=sg_word c4;have ol4:=len_tail k4;cases h;have e:pen 5 (.elt (hd ts).text a)=0:=rfl;obtain ⟨e2,e3⟩:=bl_elt (hd ts).text a;simp only [List.length_cons,List.length_nil] at w2 w4;rw [e];exact ⟨by omega,by omega⟩
       ·cases h
     ·cases h;have e:pen 5 (.var (hd ts).text)=0:=rfl
      have e2:bl (.var (hd ts).text)=(hd ts).text.length:=rfl
      have e3:tl (.var (hd ts).text)=1:=rfl;rw [e];exact ⟨by omega,by omega⟩
    rename_i c1 c2;have h4:(hd ts).kind=4:=by
     simp only [beg,Bool.or_eq_true,sg,decide_eq_true_eq] at hb;omega
    have wt:(wordOf (hd ts)).length=1:=by
     simp only [beg,Bool.or_eq_true,sg,decide_eq_true_eq] at hb;unfold wordOf;rw [if_neg c1];rcases hb with ((((h|h)|h)|h)|h)
     ·omega
     ·omega
     ·rw [h.2]; rfl
     ·rw [h.2]; rfl
     ·rw [h.2]; rfl
    split at h
    ·cases hp:pe k 1 (d + 1) ts.tail with
     | error e=>rw [hp] at h; cases h
     | ok p =>
      obtain ⟨a,r1⟩:=p;rw [hp] at h;simp only at h;obtain ⟨a1,a2⟩:=i1 1 (d + 1) ts.tail a r1 (by omega) (by omega) hp;have or:=tw_tail r1;split at h
      ·rename_i c4;obtain ⟨w4,k4⟩:=sg_word c4;have ol4:=len_tail k4;cases h;have hb1:pen 5 x≤1:=b1_le _;simp only [List.length_cons,List.length_nil] at w4;exact ⟨by omega,by omega⟩
      ·cases h
    ·cases hp:po k (d + 1) ts.tail with
     | error e=>rw [hp] at h; cases h
     | ok p =>
      obtain ⟨a,r1⟩:=p;rw [hp] at h;simp only at h;obtain ⟨a1,a2⟩:=i3 (d + 1) ts.tail a r1 hp;cases h;obtain ⟨e2,e3⟩:=bl_una (if (hd ts).text=[45] then 4 else 5) a;have e:pen 5 (.una (if (hd ts).text=[45] then 4 else 5) a)=0:=rfl;rw [e];exact ⟨by omega,by omega⟩
   ·cases h
end Go.Proofs
namespace Go.Proofs
open Go.AM
def er {α:Type}:Except (Nat × List Tk) α→Except Nat α
 | .error e=>.error e.1
 | .ok x=>.ok x
theorem er_fe:∀ k:Nat,(∀ lv d ts,er (fe k lv d ts)=pe k lv d ts)∧(∀ lv d x ts,er (fl k lv d x ts)=pl k lv d x ts)∧(∀ d ts,er (fo k d ts)=po k d ts)
 | 0=>⟨fun _ _ _=>by rw [fe,pe]; rfl,fun _ _ _ _=>by rw [fl,pl]; rfl,fun _ _=>by rw [fo,po]; rfl⟩
 | k + 1=>by
  obtain ⟨i1,i2,i3⟩:=er_fe k;refine ⟨fun lv d ts=>?_,fun lv d x ts=>?_,fun d ts=>?_⟩
  ·rw [fe,pe];split
   ·exact i3 d ts
   ·rw [← i1];cases fe k (lv + 1) d ts with
    | error e=>rfl
    | ok p=>exact i2 lv d p.1 p.2
  ·rw [fl,pl];split
   ·rw [← i1];cases fe k (lv + 1) d ts.tail with
    | error e=>rfl
    | ok p =>
     obtain ⟨y,r⟩:=p;show er (if lv=1 then _ else _)=if lv=1 then _ else _
     split
     ·rfl
     ·exact i2 ..
   ·rfl
  ·rw [fo,po];split
   ·split
    ·rfl
    ·split
     ·rfl
     ·split
      ·split
       ·split <;> rfl
       ·split
        ·rw [← i1];cases fe k 1 (d + 1) ts.tail.tail with
         | error e=>rfl
         | ok p =>
          obtain ⟨x,r⟩:=p;show er (if _ then _ else _)=if _ then _ else _
          split <;> rfl
        ·rfl
      ·split
       ·rw [← i1];cases fe k 1 (d + 1) ts.tail with
        | error e=>rfl
        | ok p =>
         obtain ⟨x,r⟩:=p;show er (if _ then _ else _)=if _ then _ else _
         split <;> rfl
       ·rw [← i3];cases fo k (d + 1) ts.tail with
        | error e=>rfl
        | ok p=>rfl
   ·rfl
theorem er_ok {α:Type} {r:Except (Nat × List Tk) α} {x:α}:er r=.ok x ↔ r=.ok x:=by
 cases r with
 | error e=>exact ⟨fun h=>(by cases h),fun h=>(by cases h)⟩
 | ok y=>exact ⟨fun h=>(by cases h; rfl),fun h=>(by cases h; rfl)⟩
theorem qx_qe {ts:List Tk} {x:Xp} {r:List Tk}:Go.Proofs.qx ts=.ok (x,r) ↔ qe 1 0 ts=.ok (x,r):=by
 rw [← er_ok,Go.Proofs.qx,(er_fe _).1];rfl
end Go.Proofs
namespace Go.Proofs
open Go.AM
section
variable {ta tb tc:List Tk} {A B C:Xp} {n d:Nat} {rest:List Tk} {x y:Nat}
end
end Go.Proofs
namespace Go.Proofs
open Go.AM
def tK (s:List UInt8):Tk:=⟨3,1,s,0⟩
def EX (x:Xp):Prop:=Wop x∧WX Nm Nu x∧nd x≤8
def isTg:Xp→Prop
 | .var _=>True
 | .fld _ _=>True
 | .elt _ _=>True
 | _=>False
inductive Shp:Nat→List UInt8→List UInt8→Nat→List Xp→List UInt8→List Xp→List Sp→List Sp→Prop where
 | dcl (nm:List UInt8) (h:Nm nm) (len:Nat) (h8:len≤8):Shp 1 nm [] len [] [] [] [] []
 | dct (nm:List UInt8) (h:Nm nm) (ty:List UInt8) (ht:Nm ty):Shp 1 nm ty 0 [] [] [] [] []
 | asg (y:Xp) (h:isTg y) (x:Xp):Shp 2 [] [] 0 [y] [] [x] [] []
 | cal (fn:List UInt8) (h:Nm fn) (ar:List Xp):Shp 3 [] [] 0 [] fn ar [] []
 | cat (y:Xp) (hy:isTg y) (fn:List UInt8) (h:Nm fn) (ar:List Xp):Shp 3 [] [] 0 [y] fn ar [] []
 | iff (x:Xp) (bd el:List Sp):Shp 4 [] [] 0 [] [] [x] bd el
 | whl (x:Xp) (bd:List Sp):Shp 5 [] [] 0 [] [] [x] bd []
 | ret (x:Xp):Shp 6 [] [] 0 [] [] [x] [] []
 | rtc (fn:List UInt8) (h:Nm fn) (ar:List Xp):Shp 6 [] [] 0 [] fn ar [] []
 | thr (x:Xp):Shp 7 [] [] 0 [] [] [x] [] []
 | prt (x:Xp):Shp 9 [] [] 0 [] [] [x] [] []
 | tri (nm:List UInt8) (h:Nm nm) (bd el:List Sp):Shp 8 nm [] 0 [] [] [] bd el
mutual
def PS (d:Nat):Sp→Prop
 | .mk k _ nm ty len tg fn ar bd el=>d≤8∧(∀ x ∈ tg,EX x)∧(∀ x ∈ ar,EX x)∧ar.length≤100000∧bd.length≤100000∧el.length≤100000∧Shp k nm ty len tg fn ar bd el∧PL (d + 1) bd∧PL (d + 1) el
def PL (d:Nat):List Sp→Prop
 | []=>True
 | s::r=>PS d s∧PL d r
end
def xstk:List Xp→List Tk
 | []=>[]
 | [x]=>xtk x
 | x::y::r=>xtk x++tS [44]::xstk (y::r)
def tytk (ty:List UInt8) (len:Nat):List Tk:=if ty=[] then if len=0 then [tK wInt] else [tK wInt,tS [91],⟨2,1,[],len⟩,tS [93]] else [tN ty]
def smhtk (k:Nat) (tg:List Xp):List Tk:=if k=6 then [tK wReturn] else if k=7 then [tK wThrow] else if k=9 then [tK wPrint] else if tg=[] then [] else xstk tg++[tS [61]]
def smvtk (fn:List UInt8) (ar:List Xp):List Tk:=if fn=[] then xstk ar else tN fn::tS [40]::(xstk ar++[tS [41]])
mutual
def stk:Sp→List Tk
 | .mk k _ nm ty len tg fn ar bd el =>
  if k=4 then tK wIf::(xstk ar++tS [123]::(stks bd++tS [125]::(if el.isEmpty then [] else tK wElse::tS [123]::(stks el++[tS [125]]))))
  else if k=5 then tK wWhile::(xstk ar++tS [123]::(stks bd++[tS [125]]))
  else if k=8 then tK wTry::tS [123]::(stks bd++tS [125]::tK wCatch::tN nm::tS [123]::(stks el++[tS [125]]))
  else if k=1 then tK wVar::tN nm::tS [58]::(tytk ty len++[tS [59]])
  else smhtk k tg++(smvtk fn ar++[tS [59]])
def stks:List Sp→List Tk
 | []=>[]
 | s::r=>stk s++stks r
end
theorem stks_append:∀ (l m:List Sp),stks (l++m)=stks l++stks m
 | [],m=>by rw [stks]; rfl
 | s::l,m=>by rw [List.cons_append,stks,stks,stks_append l m,List.append_assoc]
theorem PL_append {d:Nat}:∀ {l m:List Sp},PL d l→PL d m→PL d (l++m)
 | [],m,_,h=>h
 | s::l,m,h1,h2=>by
  rw [PL] at h1;rw [List.cons_append,PL];exact ⟨h1.1,PL_append h1.2 h2⟩
abbrev GTn:=GT Nm Nu
theorem qx_wf {ts r:List Tk} {x:Xp} (G:GTn ts) (h:qx ts=.ok (x,r)):EX x∧GTn r∧(xtk x).length + r.length≤ts.length:=by
 have hq:=qx_qe.1 h
 have p:PX Nm Nu 0 ts x r (pen 1 x):=qxE hq;obtain ⟨w1,w2⟩:=p.wx G;have n1:=p.nd
 have l:=((wl _).1 1 0 ts x r (by decide) (by decide) hq).2;refine ⟨⟨p.op,w1,by omega⟩,w2,?_⟩;unfold tl at l;omega
theorem GT_name {ts:List Tk} (G:GTn ts) {n:List UInt8} {r:List Tk} (h:fname ts=.ok (n,r)):Nm n∧GTn r∧1 + r.length≤ts.length:=by
 unfold fname at h;split at h
 ·rename_i hk;cases h;refine ⟨(GT_hd G (by rw [hk]; decide)).1 hk,GT_tail G,?_⟩;have:=len_tail (ts:=ts) (by rw [hk]; decide);omega
 ·cases h
theorem GT_need {ts:List Tk} (G:GTn ts) {s:List UInt8} {r:List Tk} (h:fneed s ts=.ok ((),r)):GTn r∧1 + r.length≤ts.length:=by
 unfold fneed at h;split at h
 ·rename_i hk;cases h;refine ⟨GT_tail G,?_⟩;have:=len_tail (ts:=ts) (sg_kind hk);omega
 ·cases h
theorem qb_inv {α β:Type} {r:QR α} {f:α→List Tk→QR β} {y:β} {t:List Tk} (h:qb r f=.ok (y,t)):∃ x r',r=.ok (x,r')∧f x r'=.ok (y,t):=by
 cases r with
 | error e=>cases h
 | ok p=>exact ⟨p.1,p.2,rfl,h⟩
theorem ftg_wf {k:Nat} {ts r:List Tk} {y:Xp} (G:GTn ts) (h:ftg k 0 ts=.ok (y,r)):EX y∧isTg y∧GTn r∧(xtk y).length + r.length≤ts.length:=by
 unfold ftg at h;obtain ⟨n,r1,h1,h⟩:=qb_inv h;obtain ⟨g1,g2,g3⟩:=GT_name G h1;split at h
 ·rename_i hs;obtain ⟨f,r2,h2,h⟩:=qb_inv h;obtain ⟨k1,k2,k3⟩:=GT_name (GT_tail g2) h2;cases h;have:=len_tail (ts:=r1) (sg_kind hs);refine ⟨⟨trivial,⟨g1,k1⟩,Nat.zero_le _⟩,trivial,k2,?_⟩;show 3 + _≤_;omega
 ·split at h
  ·rename_i hs;obtain ⟨x,r2,h2,h⟩:=qb_inv h;obtain ⟨_,r3,h3,h⟩:=qb_inv h;cases h;have hp:pe k 1 1 r1.tail=.ok (x,r2):=by rw [← (er_fe k).1,h2]; rfl
   have p:PX Nm Nu 1 r1.tail x r2 (pen 1 x):=(px k).1 1 1 _ _ _ (by decide) (by decide) hp
   have l:=((wl k).1 1 1 _ _ _ (by decide) (by decide) hp).2;obtain ⟨w1,w2⟩:=p.wx (GT_tail g2);have n1:=p.nd;obtain ⟨k1,k2⟩:=GT_need w2 h3;have:=len_tail (ts:=r1) (sg_kind hs);unfold tl at l;refine ⟨⟨p.op,⟨g1,w1⟩,?_⟩,trivial,k1,?_⟩
   ·show nd x + 1≤8;omega
   ·show (tN n::tS [91]::(xtk x++[tS [93]])).length + _≤_;simp only [List.length_cons,List.length_append,List.length_nil];omega
  ·cases h;exact ⟨⟨trivial,g1,Nat.zero_le _⟩,trivial,g2,g3⟩
theorem xstk_snoc:∀ (l:List Xp) (x:Xp),l≠[]→xstk (l++[x])=xstk l++tS [44]::xtk x
 | [],x,h=>absurd rfl h
 | [a],x,_=>rfl
 | a::b::r,x,_=>by
  rw [List.cons_append,List.cons_append,xstk,xstk,← List.cons_append,xstk_snoc (b::r) x (by simp)];simp
theorem fargs_wf:∀ (k:Nat) (l:List Xp) (ts:List Tk) (m:List Xp) (r:List Tk),GTn ts→(∀ x ∈ l,EX x)→l≠[]→fargs k l ts=.ok (m,r)→(∀ x ∈ m,EX x)∧m≠[]∧GTn r∧(xstk m).length + r.length≤(xstk l).length + ts.length∧m.length + r.length≤l.length + ts.length
 | 0,l,ts,m,r,_,_,_,h=>by rw [fargs] at h; cases h
 | k + 1,l,ts,m,r,G,hl,h0,h=>by
  rw [fargs] at h;split at h
  ·rename_i hs;obtain ⟨x,r1,h1,h⟩:=qb_inv h;obtain ⟨e1,e2,e3⟩:=qx_wf (GT_tail G) h1;have h9:=len_tail (ts:=ts) (sg_kind hs);obtain ⟨q1,q2,q3,q4,q5⟩:=fargs_wf k (l++[x]) r1 m r e2 (fun z hz=>by
    rcases List.mem_append.1 hz with hz|hz
    ·exact hl z hz
    ·rw [List.mem_singleton.1 hz]; exact e1) (by simp) h
   refine ⟨q1,q2,q3,?_,?_⟩
   ·rw [xstk_snoc l x h0] at q4;simp only [List.length_append,List.length_cons] at q4;omega
   ·simp only [List.length_append,List.length_cons,List.length_nil] at q5;omega
  ·cases h;exact ⟨hl,h0,G,Nat.le_refl _,Nat.le_refl _⟩
theorem fcall_wf {ts r:List Tk} {c:List UInt8 × List Xp} (G:GTn ts) (h:fcall ts=.ok (c,r)):Nm c.1∧(∀ x ∈ c.2,EX x)∧GTn r∧(smvtk c.1 c.2).length + r.length≤ts.length∧c.2.length + r.length≤ts.length:=by
 unfold fcall at h;obtain ⟨n,r1,h1,h⟩:=qb_inv h;obtain ⟨g1,g2,g3⟩:=GT_name G h1;obtain ⟨_,r2,h2,h⟩:=qb_inv h;obtain ⟨k2,k3⟩:=GT_need g2 h2;have hne:n≠[]:=by
  obtain ⟨c,r,e,_⟩:=g1;rw [e];simp
 split at h
 ·rename_i hs;cases h;have h9:=len_tail (ts:=r2) (sg_kind hs);refine ⟨g1,fun x h=>(by cases h),GT_tail k2,?_,?_⟩
  ·unfold smvtk;rw [if_neg hne];simp only [xstk,List.length_cons,List.length_append,List.length_nil];omega
  ·simp only [List.length_nil];omega
 ·obtain ⟨x,r3,h3,h⟩:=qb_inv h;obtain ⟨e1,e2,e3⟩:=qx_wf k2 h3;obtain ⟨l,r4,h4,h⟩:=qb_inv h;obtain ⟨q1,q2,q3,q4,q5⟩:=fargs_wf _ _ _ _ _ e2 (fun z hz=>by rw [List.mem_singleton.1 hz]; exact e1) (by simp) h4;obtain ⟨_,r5,h5,h⟩:=qb_inv h;obtain ⟨k5,k6⟩:=GT_need q3 h5;cases h;have hx1:xstk [x]=xtk x:=rfl;rw [hx1] at q4;simp only [List.length_cons,List.length_nil] at q5;have hxl:=qx_lt h3;refine ⟨g1,q1,k5,?_,?_⟩
  ·unfold smvtk;rw [if_neg hne];simp only [List.length_cons,List.length_append,List.length_nil];omega
  ·simp only;omega
theorem fval_wf {c:Bool} {ts r:List Tk} {v:List UInt8 × List Xp} (G:GTn ts) (h:fval c ts=.ok (v,r)):((c=true∧Nm v.1)∨(v.1=[]∧∃ x,v.2=[x]))∧(∀ x ∈ v.2,EX x)∧GTn r∧(smvtk v.1 v.2).length + r.length≤ts.length∧v.2.length + r.length≤ts.length:=by
 unfold fval at h;split at h
 ·rename_i hc;rw [Bool.and_eq_true] at hc;obtain ⟨q1,q2,q3,q4,q5⟩:=fcall_wf G h;exact ⟨.inl ⟨hc.1,q1⟩,q2,q3,q4,q5⟩
 ·obtain ⟨x,r1,h1,h⟩:=qb_inv h;obtain ⟨e1,e2,e3⟩:=qx_wf G h1;cases h;have hxl:=qx_lt h1;refine ⟨.inr ⟨rfl,x,rfl⟩,fun z hz=>by rw [List.mem_singleton.1 hz]; exact e1,e2,?_,?_⟩
  ·unfold smvtk;rw [if_pos rfl];exact e3
  ·simp only [List.length_cons,List.length_nil];omega
theorem xstk_one (x:Xp):xstk [x]=xtk x:=rfl
theorem Nm_ne {s:List UInt8} (h:Nm s):s≠[]:=by
 obtain ⟨c,r,e,_⟩:=h;rw [e];simp
theorem feff_wf {ts r:List Tk} {m:Sm} (G:GTn ts) (h:feff ts=.ok (m,r)):Shp m.kind [] [] 0 m.target m.fn m.args [] []∧(m.kind=2∨m.kind=3)∧(∀ x ∈ m.target,EX x)∧(∀ x ∈ m.args,EX x)∧GTn r∧(smhtk m.kind m.target++smvtk m.fn m.args).length + r.length≤ts.length∧m.args.length + r.length≤ts.length:=by
 unfold feff at h;split at h
 ·obtain ⟨c,r1,h1,h⟩:=qb_inv h;obtain ⟨q1,q2,q3,q4,q5⟩:=fcall_wf G h1;cases h;exact ⟨.cal _ q1 _,.inr rfl,fun x h=>(by cases h),q2,q3,by simpa [smhtk] using q4,q5⟩
 ·obtain ⟨y,r1,h1,h⟩:=qb_inv h;obtain ⟨t1,t2,t3,t4⟩:=ftg_wf G h1;obtain ⟨_,r2,h2,h⟩:=qb_inv h;obtain ⟨k1,k2⟩:=GT_need t3 h2;have ty:∀ x ∈ [y],EX x:=fun z hz=>by rw [List.mem_singleton.1 hz]; exact t1
  split at h
  ·obtain ⟨c,r3,h3,h⟩:=qb_inv h;obtain ⟨q1,q2,q3,q4,q5⟩:=fcall_wf k1 h3;cases h;refine ⟨.cat y t2 _ q1 _,.inr rfl,ty,q2,q3,?_,?_⟩
   ·show ((xstk [y]++[tS [61]])++smvtk c.1 c.2).length + _≤_;rw [xstk_one];simp only [List.length_append,List.length_cons,List.length_nil];omega
   ·show c.2.length + _≤_;omega
  ·obtain ⟨x,r3,h3,h⟩:=qb_inv h;obtain ⟨e1,e2,e3⟩:=qx_wf k1 h3;have hxl:=qx_lt h3;cases h;refine ⟨.asg y t2 x,.inl rfl,ty,fun z hz=>by rw [List.mem_singleton.1 hz]; exact e1,e2,?_,?_⟩
   ·show ((xstk [y]++[tS [61]])++xstk [x]).length + _≤_;rw [xstk_one,xstk_one];simp only [List.length_append,List.length_cons,List.length_nil];omega
   ·show 1 + _≤_;omega
theorem fty_wf {ts r:List Tk} {p:List UInt8 × Nat} (G:GTn ts) (h:fty ts=.ok (p,r)):((p.1=[]∧p.2≤8)∨(Nm p.1∧p.2=0))∧GTn r∧(tytk p.1 p.2).length + r.length≤ts.length:=by
 unfold fty at h;split at h
 ·rename_i h1;have l1:=len_tail (ts:=ts) (kw_kind h1);split at h
  ·rename_i h2;have l2:=len_tail (ts:=ts.tail) (sg_kind h2);split at h
   ·rename_i h3;have l3:=len_tail (ts:=ts.tail.tail) (by rw [h3]; decide);split at h
    ·cases h
    ·rename_i h4;obtain ⟨_,r3,h5,h⟩:=qb_inv h;obtain ⟨k1,k2⟩:=GT_need (GT_tail (GT_tail (GT_tail G))) h5;cases h;refine ⟨.inl ⟨rfl,by omega⟩,k1,?_⟩;unfold tytk;rw [if_pos rfl,if_neg (by omega)];simp only [List.length_cons,List.length_nil];omega
   ·cases h
  ·cases h;refine ⟨.inl ⟨rfl,Nat.zero_le _⟩,GT_tail G,?_⟩;show 1 + _≤_;omega
 ·obtain ⟨ty,r3,h5,h⟩:=qb_inv h;obtain ⟨g1,g2,g3⟩:=GT_name G h5;cases h;refine ⟨.inr ⟨g1,rfl⟩,g2,?_⟩;unfold tytk;rw [if_neg (Nm_ne g1)];exact g3
theorem PL_nil (d:Nat):PL d []:=by rw [PL]; trivial
theorem wf_all:∀ k:Nat,(∀ d ts s r,GTn ts→ts.length≤100000→fstm k d ts=.ok (s,r)→PS d s∧GTn r∧(stk s).length + r.length≤ts.length∧r.length < ts.length) ∧
  (∀ d ts l r,GTn ts→ts.length≤100000→fblk k d ts=.ok (l,r)→PL d l∧GTn r∧(stks l).length + 2 + r.length≤ts.length∧l.length + r.length≤ts.length) ∧
  (∀ d l0 ts l r,PL d l0→GTn ts→ts.length≤100000→fsts k d l0 ts=.ok (l,r)→PL d l∧GTn r∧(stks l).length + 1 + r.length≤(stks l0).length + ts.length∧l.length + r.length≤l0.length + ts.length)
 | 0=>⟨fun _ _ _ _ _ _ h=>(by rw [fstm] at h; cases h),fun _ _ _ _ _ _ h=>(by rw [fblk] at h; cases h),fun _ _ _ _ _ _ _ _ h=>(by rw [fsts] at h; cases h)⟩
 | k + 1=>by
  obtain ⟨i1,i2,i3⟩:=wf_all k;refine ⟨fun d ts s r G hn h=>?_,fun d ts l r G hn h=>?_,fun d l0 ts l r hl G hn h=>?_⟩
  ·by_cases hb:begS (hd ts)=true
   rotate_left
   ·rw [fstm,if_neg hb] at h;cases h
   by_cases h8:8 < d
   ·rw [fstm,if_pos hb,if_pos h8] at h;cases h
   rw [fstm_pos hb h8] at h;have hd8:d≤8:=by omega
   have nox:∀ x ∈ ([]:List Xp),EX x:=fun x h=>by cases h
   have one:∀ {x:Xp},EX x→∀ y ∈ [x],EX y:=fun h z hz=>by rw [List.mem_singleton.1 hz]; exact h
   by_cases c1:kw (hd ts) wVar=true
   ·rw [if_pos c1,fdecl_eq] at h;have l1:=len_tail (ts:=ts) (kw_kind c1);obtain ⟨x,r1,h1,h⟩:=qb_inv h;obtain ⟨n,r2,h2,h1⟩:=qb_inv h1;obtain ⟨g1,g2,g3⟩:=GT_name (GT_tail G) h2;obtain ⟨_,r3,h3,h1⟩:=qb_inv h1;obtain ⟨k1,k2⟩:=GT_need g2 h3;obtain ⟨p,r4,h4,h1⟩:=qb_inv h1;obtain ⟨t1,t2,t3⟩:=fty_wf k1 h4;obtain ⟨_,r5,h5,h1⟩:=qb_inv h1;obtain ⟨k3,k4⟩:=GT_need t2 h5;cases h1;cases h;refine ⟨?_,k3,?_,by omega⟩
    ·rw [PS];refine ⟨hd8,nox,nox,by decide,by decide,by decide,?_,PL_nil _,PL_nil _⟩;obtain ⟨ty,len⟩:=p;rcases t1 with ⟨q1,q2⟩|⟨q1,q2⟩
     ·simp only at q1 q2;subst q1;exact .dcl n g1 len q2
     ·simp only at q1 q2;subst q2;exact .dct n g1 ty q1
    ·rw [stk,if_neg (by decide),if_neg (by decide),if_neg (by decide),if_pos rfl];simp only [List.length_cons,List.length_append,List.length_nil];omega
   rw [if_neg c1] at h;by_cases c2:kw (hd ts) wIf=true
   ·rw [if_pos c2] at h;have l1:=len_tail (ts:=ts) (kw_kind c2);obtain ⟨x,r1,h1,h⟩:=qb_inv h;obtain ⟨e1,e2,e3⟩:=qx_wf (GT_tail G) h1;obtain ⟨b,r2,h2,h⟩:=qb_inv h;obtain ⟨b1,b2,b3,b4⟩:=i2 _ _ _ _ e2 (by omega) h2;split at h
    ·rename_i h9;have l2:=len_tail (ts:=r2) (kw_kind h9);obtain ⟨e,r3,h3,h⟩:=qb_inv h;obtain ⟨d1,d2,d3,d4⟩:=i2 _ _ _ _ (GT_tail b2) (by omega) h3;cases h;refine ⟨?_,d2,?_,by omega⟩
     ·rw [PS];exact ⟨hd8,nox,one e1,by simp,by omega,by omega,.iff x b e,b1,d1⟩
     ·rw [stk,if_pos rfl,xstk_one];cases e with
      | nil =>
       simp only [List.length_cons,List.length_append,List.length_nil,List.isEmpty_nil,if_true];omega
      | cons a q =>
       simp only [List.length_cons,List.length_append,List.length_nil,List.isEmpty_cons,Bool.false_eq_true,if_false];omega
    ·cases h;refine ⟨?_,b2,?_,by omega⟩
     ·rw [PS];exact ⟨hd8,nox,one e1,by simp,by omega,by simp,.iff x b [],b1,PL_nil _⟩
     ·rw [stk,if_pos rfl,xstk_one];simp only [List.length_cons,List.length_append,List.length_nil,List.isEmpty_nil,if_true];omega
   rw [if_neg c2] at h;by_cases c3:kw (hd ts) wWhile=true
   ·rw [if_pos c3] at h;have l1:=len_tail (ts:=ts) (kw_kind c3);obtain ⟨x,r1,h1,h⟩:=qb_inv h;obtain ⟨e1,e2,e3⟩:=qx_wf (GT_tail G) h1;obtain ⟨b,r2,h2,h⟩:=qb_inv h;obtain ⟨b1,b2,b3,b4⟩:=i2 _ _ _ _ e2 (by omega) h2;cases h;refine ⟨?_,b2,?_,by omega⟩
    ·rw [PS];exact ⟨hd8,nox,one e1,by simp,by omega,by simp,.whl x b,b1,PL_nil _⟩
    ·rw [stk,if_neg (by decide),if_pos rfl,xstk_one];simp only [List.length_cons,List.length_append,List.length_nil];omega
   rw [if_neg c3] at h;by_cases c4:kw (hd ts) wTry=true
   ·rw [if_pos c4] at h;have l1:=len_tail (ts:=ts) (kw_kind c4);obtain ⟨b,r1,h1,h⟩:=qb_inv h;obtain ⟨b1,b2,b3,b4⟩:=i2 _ _ _ _ (GT_tail G) (by omega) h1;obtain ⟨_,r2,h2,h⟩:=qb_inv h;have hc:GTn r2∧1 + r2.length≤r1.length:=by
     unfold fcatch at h2;split at h2
     ·rename_i hq;have:=len_tail (ts:=r1) (kw_kind hq);cases h2;exact ⟨GT_tail b2,by omega⟩
     ·cases h2
    obtain ⟨n,r3,h3,h⟩:=qb_inv h;obtain ⟨g1,g2,g3⟩:=GT_name hc.1 h3;obtain ⟨e,r4,h4,h⟩:=qb_inv h;obtain ⟨d1,d2,d3,d4⟩:=i2 _ _ _ _ g2 (by omega) h4;cases h;refine ⟨?_,d2,?_,by omega⟩
    ·rw [PS];exact ⟨hd8,nox,nox,by simp,by omega,by omega,.tri n g1 b e,b1,d1⟩
    ·rw [stk,if_neg (by decide),if_neg (by decide),if_pos rfl];simp only [List.length_cons,List.length_append,List.length_nil];omega
   rw [if_neg c4] at h;by_cases c5:kw (hd ts) wReturn=true
   ·rw [if_pos c5] at h;have l1:=len_tail (ts:=ts) (kw_kind c5);obtain ⟨c,r1,h1,h⟩:=qb_inv h;obtain ⟨v1,v2,v3,v4,v5⟩:=fval_wf (GT_tail G) h1;obtain ⟨_,r2,h2,h⟩:=qb_inv h;obtain ⟨k1,k2⟩:=GT_need v3 h2;cases h;refine ⟨?_,k1,?_,by omega⟩
    ·rw [PS];refine ⟨hd8,nox,v2,by omega,by decide,by decide,?_,PL_nil _,PL_nil _⟩;obtain ⟨fn,ar⟩:=c;rcases v1 with ⟨_,q⟩|⟨q1,x,q2⟩
     ·exact .rtc fn q ar
     ·simp only at q1 q2;subst q1 q2;exact .ret x
    ·rw [stk,if_neg (by decide),if_neg (by decide),if_neg (by decide),if_neg (by decide),smhtk,if_pos rfl];simp only [List.length_cons,List.length_append,List.length_nil];omega
   rw [if_neg c5] at h;by_cases c6:kw (hd ts) wThrow=true
   ·rw [if_pos c6] at h;have l1:=len_tail (ts:=ts) (kw_kind c6);obtain ⟨c,r1,h1,h⟩:=qb_inv h;obtain ⟨v1,v2,v3,v4,v5⟩:=fval_wf (GT_tail G) h1;obtain ⟨_,r2,h2,h⟩:=qb_inv h;obtain ⟨k1,k2⟩:=GT_need v3 h2;cases h;refine ⟨?_,k1,?_,by omega⟩
    ·rw [PS];refine ⟨hd8,nox,v2,by omega,by decide,by decide,?_,PL_nil _,PL_nil _⟩;obtain ⟨fn,ar⟩:=c;rcases v1 with ⟨q,_⟩|⟨q1,x,q2⟩
     ·cases q
     ·simp only at q1 q2;subst q1 q2;exact .thr x
    ·rw [stk,if_neg (by decide),if_neg (by decide),if_neg (by decide),if_neg (by decide),smhtk,if_neg (by decide),if_pos rfl];simp only [List.length_cons,List.length_append,List.length_nil];omega
   rw [if_neg c6] at h;by_cases c7:kw (hd ts) wPrint=true
   ·rw [if_pos c7] at h;have l1:=len_tail (ts:=ts) (kw_kind c7);obtain ⟨c,r1,h1,h⟩:=qb_inv h;obtain ⟨v1,v2,v3,v4,v5⟩:=fval_wf (GT_tail G) h1;obtain ⟨_,r2,h2,h⟩:=qb_inv h;obtain ⟨k1,k2⟩:=GT_need v3 h2;cases h;refine ⟨?_,k1,?_,by omega⟩
    ·rw [PS];refine ⟨hd8,nox,v2,by omega,by decide,by decide,?_,PL_nil _,PL_nil _⟩;obtain ⟨fn,ar⟩:=c;rcases v1 with ⟨q,_⟩|⟨q1,x,q2⟩
     ·cases q
     ·simp only at q1 q2;subst q1 q2;exact .prt x
    ·rw [stk,if_neg (by decide),if_neg (by decide),if_neg (by decide),if_neg (by decide),smhtk,if_neg (by decide),if_neg (by decide),if_pos rfl];simp only [List.length_cons,List.length_append,List.length_nil];omega
   rw [if_neg c7] at h;obtain ⟨m,r1,h1,h⟩:=qb_inv h;obtain ⟨v1,v2,v3,v4,v5,v6,v7⟩:=feff_wf G h1;obtain ⟨_,r2,h2,h⟩:=qb_inv h;obtain ⟨k1,k2⟩:=GT_need v5 h2;cases h;simp only [List.length_append] at v6;refine ⟨?_,k1,?_,by omega⟩
   ·rw [PS];exact ⟨hd8,v3,v4,by omega,by decide,by decide,v1,PL_nil _,PL_nil _⟩
   ·rw [stk,if_neg (by omega),if_neg (by omega),if_neg (by omega),if_neg (by omega)];simp only [List.length_cons,List.length_append,List.length_nil];omega
  ·rw [fblk] at h;obtain ⟨_,r1,h1,h⟩:=qb_inv h;obtain ⟨k1,k2⟩:=GT_need G h1;obtain ⟨q1,q2,q3,q4⟩:=i3 d [] r1 l r (PL_nil d) k1 (by omega) h;rw [stks] at q3;simp only [List.length_nil] at q3 q4;exact ⟨q1,q2,by omega,by omega⟩
  ·rw [fsts] at h;split at h
   ·rename_i hs;have l1:=len_tail (ts:=ts) (sg_kind hs);cases h;exact ⟨hl,GT_tail G,by omega,by omega⟩
   ·obtain ⟨s,r1,h1,h⟩:=qb_inv h;obtain ⟨s1,s2,s3,s4⟩:=i1 d ts s r1 G hn h1;obtain ⟨q1,q2,q3,q4⟩:=i3 d (l0++[s]) r1 l r (PL_append hl (by rw [PL]; exact ⟨s1,PL_nil d⟩)) s2 (by omega) h;rw [stks_append,stks,stks] at q3;simp only [List.length_append,List.length_nil,List.length_cons] at q3 q4;exact ⟨q1,q2,by omega,by omega⟩
end Go.Proofs
