/- The reference's printer: statements. No conditions: definitions and lemmas only. -/
import Derived.Shelf.Strings.OnBuilder
import Derived.Test.YthjcphjabiajbaaGreatDoorProg
import Derived.Test.YthjcphjabiajbaaGreatDoorB5
namespace Go.Proofs
open Go.AM
attribute [local irreducible] AWP AOps ACalls AAny
set_option linter.unusedSimpArgs false
def RB (l:List Sp):Prop:=∀ (d:Nat),(prL d l).length≤1000000→∀ st,ACalls Tryz.prog 34 [.view 13 (spRows l) .shared,.str (List.replicate d 9)] st (fun v st'=>v=.str (prL d l)∧st'=st) (fun _ _=>False)
theorem WX_WN:∀ x:Xp,WX Nm Nu x→WN x
 | .lit _,h=>h
 | .var _,_=>trivial
 | .fld _ _,_=>⟨trivial,trivial⟩
 | .elt _ a,h=>⟨trivial,WX_WN a h.2⟩
 | .una _ a,h=>WX_WN a h
 | .bin _ a b,h=>⟨WX_WN a h.1,WX_WN b h.2⟩
theorem EX.wn {x:Xp} (h:EX x):Wop x∧WN x:=⟨h.1,WX_WN x h.2.1⟩
theorem PL_get:∀ {e:Nat} {l:List Sp},PL e l→∀ s ∈ l,PS e s
 | _,[],_,_,h=>by cases h
 | _,a::l,h,s,hs=>by
  rw [PL] at h;rcases List.mem_cons.1 hs with hs|hs
  ·rw [hs]; exact h.1
  ·exact PL_get h.2 s hs
def bdSp:Sp→List Sp
 | .mk _ _ _ _ _ _ _ _ bd _=>bd
def elSp:Sp→List Sp
 | .mk _ _ _ _ _ _ _ _ _ el=>el
set_option maxHeartbeats 16000000 in
theorem yblock_of {l:List Sp} {e:Nat} (hw:∀ s ∈ l,PS e s∨∃ n,s=endSp n) (hl:l.length≤100000) (h:∀ s ∈ l,RB (bdSp s)∧RB (elSp s)):RB l:=by
 intro d hb st;refine ACalls.ofBody Tryz.func34 rfl Tryz.ntmps34 rfl ?_;have hnl:=spRows_len l;refine goD ?_;refine AWP.loop (α:=Nat) (fun i=>[(12,.int .i64 (i:Int)),(11,.int .i64 ((spRows l).length:Int)),(10,.view 13 (spRows l) .shared),(5,.str (prL d (l.take i))),(1,.str (List.replicate d 9))]) (fun _=>st) (fun i=>i≤l.length) (fun i=>l.length - i) 0 (Nat.zero_le _) (tl5 rfl rfl rfl rfl rfl) (.refl _) ?_;intro i hi;refine AWP.weaken (T':=[(12,.int .i64 (i:Int)),(11,.int .i64 ((spRows l).length:Int)),(10,.view 13 (spRows l) .shared),(5,.str (prL d (l.take i))),(1,.str (List.replicate d 9))]) (tl5 rfl rfl rfl rfl rfl) (.refl _) ?_;by_cases hlt:i < l.length
 rotate_left
 ·have hil:i=l.length:=by omega
  subst hil;rw [List.take_length];refine goD ?_;refine AWP.exit (blk_hit ?_);refine goD ?_;exact AWP.ret (rets rfl (.refl _) (.refl _) ⟨rfl,rfl⟩)
 ·obtain ⟨s,hs⟩:∃ s,l[i]?=some s:=⟨_,List.getElem?_eq_getElem hlt⟩;have hps:=hw s (List.mem_of_getElem? hs);obtain ⟨hbd,hel⟩:=h s (List.mem_of_getElem? hs);have hrow:=spRows_get l i s hs
  have hir:i < (spRows l).length:=by omega
  have hnext:prL d (l.take (i + 1))=prL d (l.take i)++prS d s:=by
   rw [ytake_snoc l i s hs,prL_append,prL,prL,List.append_nil]
  have hle:=prL_le d l (i + 1);rw [hnext,List.length_append] at hle;generalize prL d (l.take i)=acc at *;have hacc:acc.length + (prS d s).length≤1000000:=by omega
  clear hle hb h hw hs;rcases hps with hps|⟨n,rfl⟩
  rotate_left
  ·have hp:prS d (endSp n)=[]:=by rw [endSp,prS]; simp
   rw [hp,List.append_nil] at hnext
   replace hrow:(spRows l)[i]?=some (sRow 10 n [] [] 0 (.view 6 [] .shared) [] (.view 6 [] .shared) (.view 13 [] .shared) (.view 13 [] .shared)):=hrow
   clear hbd hel;refine goD ?_;refine ⟨i + 1,hlt,by omega,?_,.refl _⟩;rw [hnext];exact (tl5 rfl rfl rfl rfl rfl)
  obtain ⟨k,ln,nm,ty,len,tg,fn,ar,bd,el⟩:=s;rw [PS] at hps;obtain ⟨_,h2,h3,harl,_,_,h7,_,_⟩:=hps;have htg:∀ x ∈ tg,Wop x∧WN x:=fun x hx=>(h2 x hx).wn
  have har:∀ x ∈ ar,Wop x∧WN x:=fun x hx=>(h3 x hx).wn
  have hbd0:RB bd:=hbd
  have hel0:RB el:=hel;unfold RB at hbd0 hel0;rw [spRow] at hrow;clear h2 h3 hbd hel;cases h7 with
  | dcl nm hn len h8 =>
   by_cases h0:len=0
   ·subst h0;have hp:acc++prS d (.mk 1 ln nm [] 0 [] [] [] [] [])=acc++List.replicate d 9++[118,97,114,32]++nm++[58,32]++wInt++[59,10]:=by rw [prS]; simp [lnT,tyT]
    have hbound:(acc++prS d (.mk 1 ln nm [] 0 [] [] [] [] [])).length≤1000000:=by rw [List.length_append]; exact hacc
    rw [hp] at hbound;simp only [List.length_append,List.length_cons,List.length_nil] at hbound
    replace hrow:(spRows l)[i]?=some (sRow 1 ln nm [] 0 (.view 6 [] .shared) [] (.view 6 [] .shared) (.view 13 [] .shared) (.view 13 [] .shared)):=hrow
    have hwi:wInt.length=3:=rfl;generalize List.replicate d 9=tabs at *;refine goD ?_;refine sad rfl rfl rfl LL ?_;refine sad rfl rfl rfl LL ?_;refine goE ?_;refine sad rfl rfl rfl LL ?_;refine sad rfl rfl rfl LL ?_;refine goE ?_;refine sad rfl rfl rfl LL ?_;refine sad rfl rfl rfl LL ?_;refine goD ?_;refine ⟨i + 1,hlt,by omega,?_,.refl _⟩;rw [hnext,hp];exact (tl5 rfl rfl rfl rfl rfl)
   have h0':(len:Int) > 0:=by omega
   have hd:Lib.itoa (len:Int)=dec len:=itoa_dec (by omega)
   have hdl:(dec len).length≤18:=dec_len (by decide) (by decide) (by omega)
   have hp:acc++prS d (.mk 1 ln nm [] len [] [] [] [] [])=acc++List.replicate d 9++[118,97,114,32]++nm++[58,32]++([105,110,116,91]++dec len++[93])++[59,10]:=by rw [prS]; simp [lnT,tyT,h0]
   have hbound:(acc++prS d (.mk 1 ln nm [] len [] [] [] [] [])).length≤1000000:=by rw [List.length_append]; exact hacc
   rw [hp] at hbound;simp only [List.length_append,List.length_cons,List.length_nil] at hbound
   replace hrow:(spRows l)[i]?=some (sRow 1 ln nm [] len (.view 6 [] .shared) [] (.view 6 [] .shared) (.view 13 [] .shared) (.view 13 [] .shared)):=hrow
   generalize List.replicate d 9=tabs at *;refine goD ?_;refine cle rfl rfl (dig_ok len (by unfold w64; omega) _) ?_;rw [hd];refine sad rfl rfl rfl LL ?_;refine sad rfl rfl rfl LL ?_;refine goD ?_;refine sad rfl rfl rfl LL ?_;refine sad rfl rfl rfl LL ?_;refine goE ?_;refine sad rfl rfl rfl LL ?_;refine sad rfl rfl rfl LL ?_;refine goE ?_;refine sad rfl rfl rfl LL ?_;refine sad rfl rfl rfl LL ?_;refine goD ?_;refine ⟨i + 1,hlt,by omega,?_,.refl _⟩;rw [hnext,hp];exact (tl5 rfl rfl rfl rfl rfl)
  | dct nm hn ty ht =>
   have hne:=Nm_ne ht
   have hp:acc++prS d (.mk 1 ln nm ty 0 [] [] [] [] [])=acc++List.replicate d 9++[118,97,114,32]++nm++[58,32]++ty++[59,10]:=by rw [prS]; simp [lnT,tyT,hne]
   have hbound:(acc++prS d (.mk 1 ln nm ty 0 [] [] [] [] [])).length≤1000000:=by rw [List.length_append]; exact hacc
   rw [hp] at hbound;simp only [List.length_append,List.length_cons,List.length_nil] at hbound
   replace hrow:(spRows l)[i]?=some (sRow 1 ln nm ty 0 (.view 6 [] .shared) [] (.view 6 [] .shared) (.view 13 [] .shared) (.view 13 [] .shared)):=hrow
   generalize List.replicate d 9=tabs at *;refine goD ?_;refine sad rfl rfl rfl LL ?_;refine sad rfl rfl rfl LL ?_;refine goE ?_;refine sad rfl rfl rfl LL ?_;refine sad rfl rfl rfl LL ?_;refine goE ?_;refine sad rfl rfl rfl LL ?_;refine sad rfl rfl rfl LL ?_;refine goD ?_;refine ⟨i + 1,hlt,by omega,?_,.refl _⟩;rw [hnext,hp];exact (tl5 rfl rfl rfl rfl rfl)
  | asg y hy x =>
   obtain ⟨hyw,hyn⟩:=htg y (List.mem_cons_self ..);have hyl:=(lvX_le hyw).1
   have hp:acc++prS d (.mk 2 ln [] [] 0 [y] [] [x] [] [])=acc++List.replicate d 9++(xby y++[32,61,32])++smV [] [x]++[59,10]:=by rw [prS]; simp [smT,smH,xsT]
   have hbound:(acc++prS d (.mk 2 ln [] [] 0 [y] [] [x] [] [])).length≤1000000:=by rw [List.length_append]; exact hacc
   rw [hp] at hbound;simp only [List.length_append,List.length_cons,List.length_nil] at hbound;have hY:∀ st,ACalls Tryz.prog 61 [.agg (xrow y),.int .i64 1] st (fun v st'=>v=.str (xby y)∧st'=st) (fun _ _=>False):=fun st=>by
    have:=yexpr_ok y hyw hyn (by omega) 1 st
    rwa [decide_eq_false (show ¬ (lvX y:Int) < 1 by omega),pby,if_neg (by decide)] at this
   have hv:=fun st=>yvalue_ok (k:=(2:Int)) (l:=(ln:Int)) (nm:=[]) (ty:=[]) (fn:=[]) (len:=0) (ar:=[x]) (a:=(.view 6 (xrows [y]) .shared)) (c:=(.view 13 [] .shared)) (d:=(.view 13 [] .shared)) har harl (by omega) st
   replace hrow:(spRows l)[i]?=some (sRow 2 ln [] [] 0 (.view 6 [xrow y] .shared) [] (.view 6 (xrows [x]) .shared) (.view 13 [] .shared) (.view 13 [] .shared)):=hrow
   rw [show xrows [y]=[xrow y] from rfl] at hv;obtain ⟨oy,ny,my,fy,ry,ey⟩:=xrow_ex y;rw [ey] at hY hv hrow;generalize smV [] [x]=tv at *;generalize xrows [x]=rar at *;generalize xby y=ty_ at *;generalize List.replicate d 9=tabs at *;refine goD ?_;refine cle rfl rfl (hY _) ?_;refine sad rfl rfl rfl LL ?_;refine goD ?_;refine sad rfl rfl rfl LL ?_;refine goE ?_;refine sad rfl rfl rfl LL ?_;refine goE ?_;refine cle rfl rfl (hv _) ?_;refine sad rfl rfl rfl LL ?_;refine sad rfl rfl rfl LL ?_;refine goD ?_;refine ⟨i + 1,hlt,by omega,?_,.refl _⟩;rw [hnext,hp];exact (tl5 rfl rfl rfl rfl rfl)
  | cal fn hn ar =>
   have hp:acc++prS d (.mk 3 ln [] [] 0 [] fn ar [] [])=acc++List.replicate d 9++[]++smV fn ar++[59,10]:=by rw [prS]; simp [smT,smH,xsT]
   have hbound:(acc++prS d (.mk 3 ln [] [] 0 [] fn ar [] [])).length≤1000000:=by rw [List.length_append]; exact hacc
   rw [hp] at hbound;simp only [List.length_append,List.length_cons,List.length_nil] at hbound;have hv:=fun st=>yvalue_ok (k:=(3:Int)) (l:=(ln:Int)) (nm:=[]) (ty:=[]) (fn:=fn) (len:=0) (ar:=ar) (a:=(.view 6 [] .shared)) (c:=(.view 13 [] .shared)) (d:=(.view 13 [] .shared)) har harl (by omega) st
   replace hrow:(spRows l)[i]?=some (sRow 3 ln [] [] 0 (.view 6 [] .shared) fn (.view 6 (xrows ar) .shared) (.view 13 [] .shared) (.view 13 [] .shared)):=hrow
   generalize smV fn ar=tv at *;generalize xrows ar=rar at *;generalize List.replicate d 9=tabs at *;refine goD ?_;refine sad rfl rfl rfl LL ?_;refine goE ?_;refine sad rfl rfl rfl LL ?_;refine goE ?_;refine cle rfl rfl (hv _) ?_;refine sad rfl rfl rfl LL ?_;refine sad rfl rfl rfl LL ?_;refine goD ?_;refine ⟨i + 1,hlt,by omega,?_,.refl _⟩;rw [hnext,hp];exact (tl5 rfl rfl rfl rfl rfl)
  | cat y hy fn hn ar =>
   obtain ⟨hyw,hyn⟩:=htg y (List.mem_cons_self ..);have hyl:=(lvX_le hyw).1
   have hp:acc++prS d (.mk 3 ln [] [] 0 [y] fn ar [] [])=acc++List.replicate d 9++(xby y++[32,61,32])++smV fn ar++[59,10]:=by rw [prS]; simp [smT,smH,xsT]
   have hbound:(acc++prS d (.mk 3 ln [] [] 0 [y] fn ar [] [])).length≤1000000:=by rw [List.length_append]; exact hacc
   rw [hp] at hbound;simp only [List.length_append,List.length_cons,List.length_nil] at hbound;have hY:∀ st,ACalls Tryz.prog 61 [.agg (xrow y),.int .i64 1] st (fun v st'=>v=.str (xby y)∧st'=st) (fun _ _=>False):=fun st=>by
    have:=yexpr_ok y hyw hyn (by omega) 1 st
    rwa [decide_eq_false (show ¬ (lvX y:Int) < 1 by omega),pby,if_neg (by decide)] at this
   have hv:=fun st=>yvalue_ok (k:=(3:Int)) (l:=(ln:Int)) (nm:=[]) (ty:=[]) (fn:=fn) (len:=0) (ar:=ar) (a:=(.view 6 (xrows [y]) .shared)) (c:=(.view 13 [] .shared)) (d:=(.view 13 [] .shared)) har harl (by omega) st
   replace hrow:(spRows l)[i]?=some (sRow 3 ln [] [] 0 (.view 6 [xrow y] .shared) fn (.view 6 (xrows ar) .shared) (.view 13 [] .shared) (.view 13 [] .shared)):=hrow
   rw [show xrows [y]=[xrow y] from rfl] at hv;obtain ⟨oy,ny,my,fy,ry,ey⟩:=xrow_ex y;rw [ey] at hY hv hrow;generalize smV fn ar=tv at *;generalize xrows ar=rar at *;generalize xby y=ty_ at *;generalize List.replicate d 9=tabs at *;refine goD ?_;refine cle rfl rfl (hY _) ?_;refine sad rfl rfl rfl LL ?_;refine goD ?_;refine sad rfl rfl rfl LL ?_;refine goE ?_;refine sad rfl rfl rfl LL ?_;refine goE ?_;refine cle rfl rfl (hv _) ?_;refine sad rfl rfl rfl LL ?_;refine sad rfl rfl rfl LL ?_;refine goD ?_;refine ⟨i + 1,hlt,by omega,?_,.refl _⟩;rw [hnext,hp];exact (tl5 rfl rfl rfl rfl rfl)
  | iff x bd el =>
   cases el with
   | nil =>
    have hp:acc++prS d (.mk 4 ln [] [] 0 [] [] [x] bd [])=acc++List.replicate d 9++[105,102,32]++smV [] [x]++[32,123,10]++prL (d + 1) bd++List.replicate d 9++[125,10]:=by rw [prS]; simp [lnT,hdT,smV]
    have hbound:(acc++prS d (.mk 4 ln [] [] 0 [] [] [x] bd [])).length≤1000000:=by rw [List.length_append]; exact hacc
    rw [hp] at hbound;simp only [List.length_append,List.length_cons,List.length_nil] at hbound;have hB:∀ st,ACalls Tryz.prog 34 [.view 13 (spRows bd) .shared,.str (List.replicate d 9++[9])] st (fun v st'=>v=.str (prL (d + 1) bd)∧st'=st) (fun _ _=>False):=fun st=>by
     have:=hbd0 (d + 1) (by omega) st
     rwa [List.replicate_succ'] at this
    have hv:=fun st=>yvalue_ok (k:=(4:Int)) (l:=(ln:Int)) (nm:=[]) (ty:=[]) (fn:=[]) (len:=0) (ar:=[x]) (a:=(.view 6 [] .shared)) (c:=(.view 13 (spRows bd) .shared)) (d:=(.view 13 [] .shared)) har harl (by omega) st
    replace hrow:(spRows l)[i]?=some (sRow 4 ln [] [] 0 (.view 6 [] .shared) [] (.view 6 (xrows [x]) .shared) (.view 13 (spRows bd) .shared) (.view 13 [] .shared)):=hrow
    generalize smV [] [x]=tv at *;generalize xrows [x]=rar at *;generalize prL (d + 1) bd=tb at *;generalize spRows bd=rbd at *;generalize List.replicate d 9=tabs at *;refine goD ?_;refine AWP.draw rfl 14 14 (fun _ _=>False) rfl ?_;refine goF ?_;refine dq rfl rfl rfl (fun st1 hle=>sad rfl rfl rfl LL (nl ⟨_,rfl,rfl,rfl⟩)) ?_;refine dq rfl rfl rfl (fun st1 hle=>sad rfl rfl rfl LL (nl ⟨_,rfl,rfl,rfl⟩)) ?_;refine goF ?_;refine dq rfl rfl rfl (fun st1 hle=>cle rfl rfl (hv st1) (nl ⟨_,rfl,rfl,rfl⟩)) ?_;refine dq rfl rfl rfl (fun st1 hle=>sad rfl rfl rfl LL (nl ⟨_,rfl,rfl,rfl⟩)) ?_;refine dq rfl rfl rfl (fun st1 hle=>sad rfl rfl rfl LL (nl ⟨_,rfl,rfl,rfl⟩)) ?_;refine goF ?_;refine dq rfl rfl rfl (fun st1 hle=>sad rfl rfl rfl LL (nl ⟨_,rfl,rfl,rfl⟩)) ?_;refine dq rfl rfl rfl (fun st1 hle=>cle rfl rfl (hB st1) (nl ⟨_,rfl,rfl,rfl⟩)) ?_;refine dq rfl rfl rfl (fun st1 hle=>sad rfl rfl rfl LL (nl ⟨_,rfl,rfl,rfl⟩)) ?_;refine dn ⟨fun _=>?_,fun h=>absurd h (by decide)⟩;refine goD ?_;refine sad rfl rfl rfl LL ?_;refine sad rfl rfl rfl LL ?_;refine goD ?_;refine ⟨i + 1,hlt,by omega,?_,.refl _⟩;rw [hnext,hp];exact (tl5 rfl rfl rfl rfl rfl)
   | cons a m =>
    have hp:acc++prS d (.mk 4 ln [] [] 0 [] [] [x] bd (a::m))=acc++List.replicate d 9++[105,102,32]++smV [] [x]++[32,123,10]++prL (d + 1) bd++List.replicate d 9++[125,32,101,108,115,101,32,123,10]++prL (d + 1) (a::m)++List.replicate d 9++[125,10]:=by rw [prS]; simp [lnT,hdT,smV]
    have hbound:(acc++prS d (.mk 4 ln [] [] 0 [] [] [x] bd (a::m))).length≤1000000:=by rw [List.length_append]; exact hacc
    rw [hp] at hbound;simp only [List.length_append,List.length_cons,List.length_nil] at hbound;have hB:∀ st,ACalls Tryz.prog 34 [.view 13 (spRows bd) .shared,.str (List.replicate d 9++[9])] st (fun v st'=>v=.str (prL (d + 1) bd)∧st'=st) (fun _ _=>False):=fun st=>by
     have:=hbd0 (d + 1) (by omega) st
     rwa [List.replicate_succ'] at this
    have hE:∀ st,ACalls Tryz.prog 34 [.view 13 (spRows (a::m)) .shared,.str (List.replicate d 9++[9])] st (fun v st'=>v=.str (prL (d + 1) (a::m))∧st'=st) (fun _ _=>False):=fun st=>by
     have:=hel0 (d + 1) (by omega) st
     rwa [List.replicate_succ'] at this
    have hv:=fun st=>yvalue_ok (k:=(4:Int)) (l:=(ln:Int)) (nm:=[]) (ty:=[]) (fn:=[]) (len:=0) (ar:=[x]) (a:=(.view 6 [] .shared)) (c:=(.view 13 (spRows bd) .shared)) (d:=(.view 13 (spRows (a::m)) .shared)) har harl (by omega) st
    replace hrow:(spRows l)[i]?=some (sRow 4 ln [] [] 0 (.view 6 [] .shared) [] (.view 6 (xrows [x]) .shared) (.view 13 (spRows bd) .shared) (.view 13 (spRows (a::m)) .shared)):=hrow
    have hml:((spRows (a::m)).length:Int) > 0:=by rw [spRows]; simp only [List.length_cons]; omega
    generalize smV [] [x]=tv at *;generalize xrows [x]=rar at *;generalize prL (d + 1) bd=tb at *;generalize spRows bd=rbd at *;generalize prL (d + 1) (a::m)=te at *;generalize spRows (a::m)=rel at *;generalize List.replicate d 9=tabs at *;refine goD ?_;refine AWP.draw rfl 14 14 (fun _ _=>False) rfl ?_;refine goF ?_;refine dq rfl rfl rfl (fun st1 hle=>sad rfl rfl rfl LL (nl ⟨_,rfl,rfl,rfl⟩)) ?_;refine dq rfl rfl rfl (fun st1 hle=>sad rfl rfl rfl LL (nl ⟨_,rfl,rfl,rfl⟩)) ?_;refine goF ?_;refine dq rfl rfl rfl (fun st1 hle=>cle rfl rfl (hv st1) (nl ⟨_,rfl,rfl,rfl⟩)) ?_;refine dq rfl rfl rfl (fun st1 hle=>sad rfl rfl rfl LL (nl ⟨_,rfl,rfl,rfl⟩)) ?_;refine dq rfl rfl rfl (fun st1 hle=>sad rfl rfl rfl LL (nl ⟨_,rfl,rfl,rfl⟩)) ?_;refine goF ?_;refine dq rfl rfl rfl (fun st1 hle=>sad rfl rfl rfl LL (nl ⟨_,rfl,rfl,rfl⟩)) ?_;refine dq rfl rfl rfl (fun st1 hle=>cle rfl rfl (hB st1) (nl ⟨_,rfl,rfl,rfl⟩)) ?_;refine dq rfl rfl rfl (fun st1 hle=>sad rfl rfl rfl LL (nl ⟨_,rfl,rfl,rfl⟩)) ?_;refine dn ⟨fun _=>?_,fun h=>absurd h (by decide)⟩;refine goD ?_;refine sad rfl rfl rfl LL ?_;refine sad rfl rfl rfl LL ?_;refine goE ?_;refine sad rfl rfl rfl LL ?_;refine cle rfl rfl (hE _) ?_;refine sad rfl rfl rfl LL ?_;refine goD ?_;refine sad rfl rfl rfl LL ?_;refine sad rfl rfl rfl LL ?_;refine goD ?_;refine ⟨i + 1,hlt,by omega,?_,.refl _⟩;rw [hnext,hp];exact (tl5 rfl rfl rfl rfl rfl)
  | whl x bd =>
   have hp:acc++prS d (.mk 5 ln [] [] 0 [] [] [x] bd [])=acc++List.replicate d 9++[119,104,105,108,101,32]++smV [] [x]++[32,123,10]++prL (d + 1) bd++List.replicate d 9++[125,10]:=by rw [prS]; simp [lnT,hdT,smV]
   have hbound:(acc++prS d (.mk 5 ln [] [] 0 [] [] [x] bd [])).length≤1000000:=by rw [List.length_append]; exact hacc
   rw [hp] at hbound;simp only [List.length_append,List.length_cons,List.length_nil] at hbound;have hB:∀ st,ACalls Tryz.prog 34 [.view 13 (spRows bd) .shared,.str (List.replicate d 9++[9])] st (fun v st'=>v=.str (prL (d + 1) bd)∧st'=st) (fun _ _=>False):=fun st=>by
    have:=hbd0 (d + 1) (by omega) st
    rwa [List.replicate_succ'] at this
   have hv:=fun st=>yvalue_ok (k:=(5:Int)) (l:=(ln:Int)) (nm:=[]) (ty:=[]) (fn:=[]) (len:=0) (ar:=[x]) (a:=(.view 6 [] .shared)) (c:=(.view 13 (spRows bd) .shared)) (d:=(.view 13 [] .shared)) har harl (by omega) st
   replace hrow:(spRows l)[i]?=some (sRow 5 ln [] [] 0 (.view 6 [] .shared) [] (.view 6 (xrows [x]) .shared) (.view 13 (spRows bd) .shared) (.view 13 [] .shared)):=hrow
   generalize smV [] [x]=tv at *;generalize xrows [x]=rar at *;generalize prL (d + 1) bd=tb at *;generalize spRows bd=rbd at *;generalize List.replicate d 9=tabs at *;refine goD ?_;refine AWP.draw rfl 17 17 (fun _ _=>False) rfl ?_;refine goF ?_;refine dq rfl rfl rfl (fun st1 hle=>sad rfl rfl rfl LL (nl ⟨_,rfl,rfl,rfl⟩)) ?_;refine dq rfl rfl rfl (fun st1 hle=>sad rfl rfl rfl LL (nl ⟨_,rfl,rfl,rfl⟩)) ?_;refine goF ?_;refine dq rfl rfl rfl (fun st1 hle=>cle rfl rfl (hv st1) (nl ⟨_,rfl,rfl,rfl⟩)) ?_;refine dq rfl rfl rfl (fun st1 hle=>sad rfl rfl rfl LL (nl ⟨_,rfl,rfl,rfl⟩)) ?_;refine dq rfl rfl rfl (fun st1 hle=>sad rfl rfl rfl LL (nl ⟨_,rfl,rfl,rfl⟩)) ?_;refine goF ?_;refine dq rfl rfl rfl (fun st1 hle=>sad rfl rfl rfl LL (nl ⟨_,rfl,rfl,rfl⟩)) ?_;refine dq rfl rfl rfl (fun st1 hle=>cle rfl rfl (hB st1) (nl ⟨_,rfl,rfl,rfl⟩)) ?_;refine dq rfl rfl rfl (fun st1 hle=>sad rfl rfl rfl LL (nl ⟨_,rfl,rfl,rfl⟩)) ?_;refine goF ?_;refine dq rfl rfl rfl (fun st1 hle=>sad rfl rfl rfl LL (nl ⟨_,rfl,rfl,rfl⟩)) ?_;refine dq rfl rfl rfl (fun st1 hle=>sad rfl rfl rfl LL (nl ⟨_,rfl,rfl,rfl⟩)) ?_;refine dn ⟨fun _=>?_,fun h=>absurd h (by decide)⟩;refine goD ?_;refine ⟨i + 1,hlt,by omega,?_,.refl _⟩;rw [hnext,hp];exact (tl5 rfl rfl rfl rfl rfl)
  | ret x =>
   have hp:acc++prS d (.mk 6 ln [] [] 0 [] [] [x] [] [])=acc++List.replicate d 9++[114,101,116,117,114,110,32]++smV [] [x]++[59,10]:=by rw [prS]; simp [smT,smH,xsT]
   have hbound:(acc++prS d (.mk 6 ln [] [] 0 [] [] [x] [] [])).length≤1000000:=by rw [List.length_append]; exact hacc
   rw [hp] at hbound;simp only [List.length_append,List.length_cons,List.length_nil] at hbound;have hv:=fun st=>yvalue_ok (k:=(6:Int)) (l:=(ln:Int)) (nm:=[]) (ty:=[]) (fn:=[]) (len:=0) (ar:=[x]) (a:=(.view 6 [] .shared)) (c:=(.view 13 [] .shared)) (d:=(.view 13 [] .shared)) har harl (by omega) st
   replace hrow:(spRows l)[i]?=some (sRow 6 ln [] [] 0 (.view 6 [] .shared) [] (.view 6 (xrows [x]) .shared) (.view 13 [] .shared) (.view 13 [] .shared)):=hrow
   generalize smV [] [x]=tv at *;generalize xrows [x]=rar at *;generalize List.replicate d 9=tabs at *;refine goD ?_;refine sad rfl rfl rfl LL ?_;refine sad rfl rfl rfl LL ?_;refine goE ?_;refine cle rfl rfl (hv _) ?_;refine sad rfl rfl rfl LL ?_;refine sad rfl rfl rfl LL ?_;refine goD ?_;refine ⟨i + 1,hlt,by omega,?_,.refl _⟩;rw [hnext,hp];exact (tl5 rfl rfl rfl rfl rfl)
  | rtc fn hn ar =>
   have hp:acc++prS d (.mk 6 ln [] [] 0 [] fn ar [] [])=acc++List.replicate d 9++[114,101,116,117,114,110,32]++smV fn ar++[59,10]:=by rw [prS]; simp [smT,smH,xsT]
   have hbound:(acc++prS d (.mk 6 ln [] [] 0 [] fn ar [] [])).length≤1000000:=by rw [List.length_append]; exact hacc
   rw [hp] at hbound;simp only [List.length_append,List.length_cons,List.length_nil] at hbound;have hv:=fun st=>yvalue_ok (k:=(6:Int)) (l:=(ln:Int)) (nm:=[]) (ty:=[]) (fn:=fn) (len:=0) (ar:=ar) (a:=(.view 6 [] .shared)) (c:=(.view 13 [] .shared)) (d:=(.view 13 [] .shared)) har harl (by omega) st
   replace hrow:(spRows l)[i]?=some (sRow 6 ln [] [] 0 (.view 6 [] .shared) fn (.view 6 (xrows ar) .shared) (.view 13 [] .shared) (.view 13 [] .shared)):=hrow
   generalize smV fn ar=tv at *;generalize xrows ar=rar at *;generalize List.replicate d 9=tabs at *;refine goD ?_;refine sad rfl rfl rfl LL ?_;refine sad rfl rfl rfl LL ?_;refine goE ?_;refine cle rfl rfl (hv _) ?_;refine sad rfl rfl rfl LL ?_;refine sad rfl rfl rfl LL ?_;refine goD ?_;refine ⟨i + 1,hlt,by omega,?_,.refl _⟩;rw [hnext,hp];exact (tl5 rfl rfl rfl rfl rfl)
  | thr x =>
   have hp:acc++prS d (.mk 7 ln [] [] 0 [] [] [x] [] [])=acc++List.replicate d 9++[116,104,114,111,119,32]++smV [] [x]++[59,10]:=by rw [prS]; simp [smT,smH,xsT]
   have hbound:(acc++prS d (.mk 7 ln [] [] 0 [] [] [x] [] [])).length≤1000000:=by rw [List.length_append]; exact hacc
   rw [hp] at hbound;simp only [List.length_append,List.length_cons,List.length_nil] at hbound;have hv:=fun st=>yvalue_ok (k:=(7:Int)) (l:=(ln:Int)) (nm:=[]) (ty:=[]) (fn:=[]) (len:=0) (ar:=[x]) (a:=(.view 6 [] .shared)) (c:=(.view 13 [] .shared)) (d:=(.view 13 [] .shared)) har harl (by omega) st
   replace hrow:(spRows l)[i]?=some (sRow 7 ln [] [] 0 (.view 6 [] .shared) [] (.view 6 (xrows [x]) .shared) (.view 13 [] .shared) (.view 13 [] .shared)):=hrow
   generalize smV [] [x]=tv at *;generalize xrows [x]=rar at *;generalize List.replicate d 9=tabs at *;refine goD ?_;refine sad rfl rfl rfl LL ?_;refine sad rfl rfl rfl LL ?_;refine goE ?_;refine cle rfl rfl (hv _) ?_;refine sad rfl rfl rfl LL ?_;refine sad rfl rfl rfl LL ?_;refine goD ?_;refine ⟨i + 1,hlt,by omega,?_,.refl _⟩;rw [hnext,hp];exact (tl5 rfl rfl rfl rfl rfl)
  | prt x =>
   have hp:acc++prS d (.mk 9 ln [] [] 0 [] [] [x] [] [])=acc++List.replicate d 9++[112,114,105,110,116,32]++smV [] [x]++[59,10]:=by rw [prS]; simp [smT,smH,xsT]
   have hbound:(acc++prS d (.mk 9 ln [] [] 0 [] [] [x] [] [])).length≤1000000:=by rw [List.length_append]; exact hacc
   rw [hp] at hbound;simp only [List.length_append,List.length_cons,List.length_nil] at hbound;have hv:=fun st=>yvalue_ok (k:=(9:Int)) (l:=(ln:Int)) (nm:=[]) (ty:=[]) (fn:=[]) (len:=0) (ar:=[x]) (a:=(.view 6 [] .shared)) (c:=(.view 13 [] .shared)) (d:=(.view 13 [] .shared)) har harl (by omega) st
   replace hrow:(spRows l)[i]?=some (sRow 9 ln [] [] 0 (.view 6 [] .shared) [] (.view 6 (xrows [x]) .shared) (.view 13 [] .shared) (.view 13 [] .shared)):=hrow
   generalize smV [] [x]=tv at *;generalize xrows [x]=rar at *;generalize List.replicate d 9=tabs at *;refine goD ?_;refine sad rfl rfl rfl LL ?_;refine sad rfl rfl rfl LL ?_;refine goE ?_;refine cle rfl rfl (hv _) ?_;refine sad rfl rfl rfl LL ?_;refine sad rfl rfl rfl LL ?_;refine goD ?_;refine ⟨i + 1,hlt,by omega,?_,.refl _⟩;rw [hnext,hp];exact (tl5 rfl rfl rfl rfl rfl)
  | tri nm hn bd el =>
   have hp:acc++prS d (.mk 8 ln nm [] 0 [] [] [] bd el)=acc++List.replicate d 9++[116,114,121,32,123,10]++prL (d + 1) bd++List.replicate d 9++[125,32,99,97,116,99,104,32]++nm++[32,123,10]++prL (d + 1) el++List.replicate d 9++[125,10]:=by rw [prS]; simp [lnT]
   have hbound:(acc++prS d (.mk 8 ln nm [] 0 [] [] [] bd el)).length≤1000000:=by rw [List.length_append]; exact hacc
   rw [hp] at hbound;simp only [List.length_append,List.length_cons,List.length_nil] at hbound;have hB:∀ st,ACalls Tryz.prog 34 [.view 13 (spRows bd) .shared,.str (List.replicate d 9++[9])] st (fun v st'=>v=.str (prL (d + 1) bd)∧st'=st) (fun _ _=>False):=fun st=>by
    have:=hbd0 (d + 1) (by omega) st
    rwa [List.replicate_succ'] at this
   have hE:∀ st,ACalls Tryz.prog 34 [.view 13 (spRows el) .shared,.str (List.replicate d 9++[9])] st (fun v st'=>v=.str (prL (d + 1) el)∧st'=st) (fun _ _=>False):=fun st=>by
    have:=hel0 (d + 1) (by omega) st
    rwa [List.replicate_succ'] at this
   replace hrow:(spRows l)[i]?=some (sRow 8 ln nm [] 0 (.view 6 [] .shared) [] (.view 6 [] .shared) (.view 13 (spRows bd) .shared) (.view 13 (spRows el) .shared)):=hrow
   generalize prL (d + 1) bd=tb at *;generalize spRows bd=rbd at *;generalize prL (d + 1) el=te at *;generalize spRows el=rel at *;generalize List.replicate d 9=tabs at *;refine goD ?_;refine AWP.draw rfl 26 26 (fun _ _=>False) rfl ?_;refine goF ?_;refine dq rfl rfl rfl (fun st1 hle=>sad rfl rfl rfl LL (nl ⟨_,rfl,rfl,rfl⟩)) ?_;refine dq rfl rfl rfl (fun st1 hle=>sad rfl rfl rfl LL (nl ⟨_,rfl,rfl,rfl⟩)) ?_;refine goF ?_;refine dq rfl rfl rfl (fun st1 hle=>sad rfl rfl rfl LL (nl ⟨_,rfl,rfl,rfl⟩)) ?_;refine dq rfl rfl rfl (fun st1 hle=>cle rfl rfl (hB st1) (nl ⟨_,rfl,rfl,rfl⟩)) ?_;refine dq rfl rfl rfl (fun st1 hle=>sad rfl rfl rfl LL (nl ⟨_,rfl,rfl,rfl⟩)) ?_;refine goF ?_;refine dq rfl rfl rfl (fun st1 hle=>sad rfl rfl rfl LL (nl ⟨_,rfl,rfl,rfl⟩)) ?_;refine dq rfl rfl rfl (fun st1 hle=>sad rfl rfl rfl LL (nl ⟨_,rfl,rfl,rfl⟩)) ?_;refine goF ?_;refine dq rfl rfl rfl (fun st1 hle=>sad rfl rfl rfl LL (nl ⟨_,rfl,rfl,rfl⟩)) ?_;refine dq rfl rfl rfl (fun st1 hle=>sad rfl rfl rfl LL (nl ⟨_,rfl,rfl,rfl⟩)) ?_;refine goF ?_;refine dq rfl rfl rfl (fun st1 hle=>sad rfl rfl rfl LL (nl ⟨_,rfl,rfl,rfl⟩)) ?_;refine dq rfl rfl rfl (fun st1 hle=>cle rfl rfl (hE st1) (nl ⟨_,rfl,rfl,rfl⟩)) ?_;refine dq rfl rfl rfl (fun st1 hle=>sad rfl rfl rfl LL (nl ⟨_,rfl,rfl,rfl⟩)) ?_;refine goF ?_;refine dq rfl rfl rfl (fun st1 hle=>sad rfl rfl rfl LL (nl ⟨_,rfl,rfl,rfl⟩)) ?_;refine dq rfl rfl rfl (fun st1 hle=>sad rfl rfl rfl LL (nl ⟨_,rfl,rfl,rfl⟩)) ?_;refine dn ⟨fun _=>?_,fun h=>absurd h (by decide)⟩;refine goD ?_;refine ⟨i + 1,hlt,by omega,?_,.refl _⟩;rw [hnext,hp];exact (tl5 rfl rfl rfl rfl rfl)
mutual
theorem ystm_ok:∀ (s:Sp) (e:Nat),PS e s→RB (bdSp s)∧RB (elSp s)
 | .mk k ln nm ty len tg fn ar bd el,e,h=>by
  rw [PS] at h;obtain ⟨_,_,_,_,hb,he,_,h8,h9⟩:=h;exact ⟨yblock_of (fun s hs=>.inl (PL_get h8 s hs)) hb (ystms_ok bd (e + 1) h8),yblock_of (fun s hs=>.inl (PL_get h9 s hs)) he (ystms_ok el (e + 1) h9)⟩
theorem ystms_ok:∀ (l:List Sp) (e:Nat),PL e l→∀ s ∈ l,RB (bdSp s)∧RB (elSp s)
 | [],_,_,s,h=>by cases h
 | a::r,e,h,s,hs=>by
  rw [PL] at h;rcases List.mem_cons.1 hs with hs|hs
  ·rw [hs]; exact ystm_ok a e h.1
  ·exact ystms_ok r e h.2 s hs
end
theorem RB_nil:RB []:=yblock_of (e:=0) (fun s hs=>by cases hs) (by decide) fun s hs=>by cases hs
theorem yblock_end {l:List Sp} {e:Nat} (h:PL e l) (hl:l.length < 100000) (n:Nat):RB (l++[endSp n]):=by
 refine yblock_of (e:=e) (fun s hs=>?_) (by rw [List.length_append]; simp only [List.length_cons,List.length_nil]; omega) fun s hs=>?_
 ·rcases List.mem_append.1 hs with hs|hs
  ·exact .inl (PL_get h s hs)
  ·exact .inr ⟨n,List.mem_singleton.1 hs⟩
 ·rcases List.mem_append.1 hs with hs|hs
  ·exact ystms_ok l e h s hs
  ·rw [List.mem_singleton.1 hs];exact ⟨RB_nil,RB_nil⟩
end Go.Proofs
namespace Go.Proofs
open Go.AM
section
variable {C:List Tk→Prop} (hC:∀ ts,C ts→(hd ts).kind≠0→C ts.tail)
include hC
theorem cl_fe:∀ k:Nat,(∀ lv d ts x r,1≤lv→C ts→fe k lv d ts=.ok (x,r)→C r)∧(∀ lv d a ts x r,1≤lv→C ts→fl k lv d a ts=.ok (x,r)→C r)∧(∀ d ts x r,C ts→fo k d ts=.ok (x,r)→C r)
 | 0=>⟨fun _ _ _ _ _ _ _ h=>(by rw [fe] at h; cases h),fun _ _ _ _ _ _ _ _ h=>(by rw [fl] at h; cases h),fun _ _ _ _ _ h=>(by rw [fo] at h; cases h)⟩
 | k + 1=>by
  obtain ⟨i1,i2,i3⟩:=cl_fe k;refine ⟨fun lv d ts x r h1 hc h=>?_,fun lv d a ts x r h1 hc h=>?_,fun d ts x r hc h=>?_⟩
  ·rw [fe] at h;split at h
   ·exact i3 d ts x r hc h
   ·cases hp:fe k (lv + 1) d ts with
    | error e=>rw [hp] at h; cases h
    | ok p =>
     rw [hp] at h;exact i2 lv d p.1 p.2 x r h1 (i1 (lv + 1) d ts p.1 p.2 (by omega) hc hp) h
  ·rw [fl] at h;split at h
   ·rename_i hb;obtain ⟨_,_,hk⟩:=bin_text (t:=hd ts) (by omega);have hc2:=hC ts hc hk;cases hp:fe k (lv + 1) d ts.tail with
    | error e=>rw [hp] at h; cases h
    | ok p =>
     rw [hp] at h;have hc3:=i1 (lv + 1) d ts.tail p.1 p.2 (by omega) hc2 hp;simp only at h;split at h
     ·cases h;exact hc3
     ·exact i2 lv d _ p.2 x r h1 hc3 h
   ·cases h;exact hc
  ·rw [fo] at h;split at h
   ·rename_i hb;have hk:(hd ts).kind≠0:=by
     rcases beg_cases hb with q|q|⟨q,_⟩ <;> rw [q] <;> decide
    have hc1:=hC ts hc hk;split at h
    ·cases h
    split at h
    ·cases h;exact hc1
    split at h
    ·split at h
     ·rename_i hs;have hc2:=hC _ hc1 (sg_kind hs);split at h
      ·rename_i hk2;cases h;exact hC _ hc2 (by rw [hk2]; decide)
      ·cases h
     split at h
     ·rename_i hs;have hc2:=hC _ hc1 (sg_kind hs);cases hp:fe k 1 (d + 1) ts.tail.tail with
      | error e=>rw [hp] at h; cases h
      | ok p =>
       rw [hp] at h;have hc3:=i1 1 (d + 1) _ p.1 p.2 (by decide) hc2 hp;simp only at h;split at h
       ·rename_i hq;cases h;exact hC _ hc3 (sg_kind hq)
       ·cases h
     ·cases h;exact hc1
    split at h
    ·cases hp:fe k 1 (d + 1) ts.tail with
     | error e=>rw [hp] at h; cases h
     | ok p =>
      rw [hp] at h;have hc3:=i1 1 (d + 1) _ p.1 p.2 (by decide) hc1 hp;simp only at h;split at h
      ·rename_i hq;cases h;exact hC _ hc3 (sg_kind hq)
      ·cases h
    ·cases hp:fo k (d + 1) ts.tail with
     | error e=>rw [hp] at h; cases h
     | ok p =>
      rw [hp] at h;have hc3:=i3 (d + 1) _ p.1 p.2 hc1 hp;cases h;exact hc3
   ·cases h
theorem cl_qx {ts r:List Tk} {x:Xp} (hc:C ts) (h:qx ts=.ok (x,r)):C r:=(cl_fe hC _).1 1 0 ts x r (by decide) hc h
theorem cl_name {ts r:List Tk} {n:List UInt8} (hc:C ts) (h:fname ts=.ok (n,r)):C r:=by
 unfold fname at h;split at h
 ·rename_i hk;cases h;exact hC _ hc (by rw [hk]; decide)
 ·cases h
theorem cl_need {ts r:List Tk} {s:List UInt8} (hc:C ts) (h:fneed s ts=.ok ((),r)):C r:=by
 unfold fneed at h;split at h
 ·rename_i hk;cases h;exact hC _ hc (sg_kind hk)
 ·cases h
theorem cl_qt {ts r:List Tk} {x:Xp} (hc:C ts) (h:qt ts=.ok (x,r)):C r:=by
 unfold qt ftg at h;obtain ⟨n,r1,h1,h⟩:=qb_inv h;have c1:=cl_name hC hc h1;split at h
 ·rename_i hs;obtain ⟨f,r2,h2,h⟩:=qb_inv h;have c2:=cl_name hC (hC _ c1 (sg_kind hs)) h2;cases h;exact c2
 ·split at h
  ·rename_i hs;obtain ⟨x,r2,h2,h⟩:=qb_inv h;have c2:=(cl_fe hC _).1 1 _ _ _ _ (by decide) (hC _ c1 (sg_kind hs)) h2;obtain ⟨_,r3,h3,h⟩:=qb_inv h;have c3:=cl_need hC c2 h3;cases h;exact c3
  ·cases h;exact c1
theorem cl_args:∀ (k:Nat) (l:List Xp) (ts:List Tk) (m:List Xp) (r:List Tk),C ts→fargs k l ts=.ok (m,r)→C r
 | 0,l,ts,m,r,_,h=>by rw [fargs] at h; cases h
 | k + 1,l,ts,m,r,hc,h=>by
  rw [fargs] at h;split at h
  ·rename_i hs;obtain ⟨x,r1,h1,h⟩:=qb_inv h;exact cl_args k _ r1 m r (cl_qx hC (hC _ hc (sg_kind hs)) h1) h
  ·cases h;exact hc
theorem cl_call {ts r:List Tk} {c:List UInt8 × List Xp} (hc:C ts) (h:fcall ts=.ok (c,r)):C r:=by
 unfold fcall at h;obtain ⟨n,r1,h1,h⟩:=qb_inv h;obtain ⟨_,r2,h2,h⟩:=qb_inv h;have c2:=cl_need hC (cl_name hC hc h1) h2;split at h
 ·rename_i hs;cases h;exact hC _ c2 (sg_kind hs)
 ·obtain ⟨x,r3,h3,h⟩:=qb_inv h;obtain ⟨l,r4,h4,h⟩:=qb_inv h;obtain ⟨_,r5,h5,h⟩:=qb_inv h;cases h;exact cl_need hC (cl_args hC _ _ _ _ _ (cl_qx hC c2 h3) h4) h5
theorem cl_val {b:Bool} {ts r:List Tk} {c:List UInt8 × List Xp} (hc:C ts) (h:fval b ts=.ok (c,r)):C r:=by
 unfold fval at h;split at h
 ·exact cl_call hC hc h
 ·obtain ⟨x,r1,h1,h⟩:=qb_inv h;cases h;exact cl_qx hC hc h1
theorem cl_eff {ts r:List Tk} {m:Sm} (hc:C ts) (h:feff ts=.ok (m,r)):C r:=by
 unfold feff at h;split at h
 ·obtain ⟨c,r1,h1,h⟩:=qb_inv h;cases h;exact cl_call hC hc h1
 ·obtain ⟨y,r1,h1,h⟩:=qb_inv h;obtain ⟨_,r2,h2,h⟩:=qb_inv h;have c2:=cl_need hC (cl_qt hC hc h1) h2;split at h
  ·obtain ⟨c,r3,h3,h⟩:=qb_inv h;cases h;exact cl_call hC c2 h3
  ·obtain ⟨x,r3,h3,h⟩:=qb_inv h;cases h;exact cl_qx hC c2 h3
theorem cl_ty {ts r:List Tk} {p:List UInt8 × Nat} (hc:C ts) (h:fty ts=.ok (p,r)):C r:=by
 unfold fty at h;split at h
 ·rename_i h1;have c1:=hC _ hc (kw_kind h1);split at h
  ·rename_i h2;have c2:=hC _ c1 (sg_kind h2);split at h
   ·rename_i h3;have c3:=hC _ c2 (by rw [h3]; decide);split at h
    ·cases h
    ·obtain ⟨_,r3,h5,h⟩:=qb_inv h;cases h;exact cl_need hC c3 h5
   ·cases h
  ·cases h;exact c1
 ·obtain ⟨ty,r3,h5,h⟩:=qb_inv h;cases h;exact cl_name hC hc h5
theorem cl_stm:∀ k:Nat,(∀ d ts s r,C ts→fstm k d ts=.ok (s,r)→C r)∧(∀ d ts l r,C ts→fblk k d ts=.ok (l,r)→C r)∧(∀ d l0 ts l r,C ts→fsts k d l0 ts=.ok (l,r)→C r)
 | 0=>⟨fun _ _ _ _ _ h=>(by rw [fstm] at h; cases h),fun _ _ _ _ _ h=>(by rw [fblk] at h; cases h),fun _ _ _ _ _ _ h=>(by rw [fsts] at h; cases h)⟩
 | k + 1=>by
  obtain ⟨i1,i2,i3⟩:=cl_stm k;refine ⟨fun d ts s r G h=>?_,fun d ts l r G h=>?_,fun d l0 ts l r G h=>?_⟩
  ·by_cases hb:begS (hd ts)=true
   rotate_left
   ·rw [fstm,if_neg hb] at h;cases h
   by_cases h8:8 < d
   ·rw [fstm,if_pos hb,if_pos h8] at h;cases h
   rw [fstm_pos hb h8] at h;split at h
   ·rename_i c1;rw [fdecl_eq] at h;have l1:=hC _ G (kw_kind c1);obtain ⟨x,r1,h1,h⟩:=qb_inv h;obtain ⟨n,r2,h2,h1⟩:=qb_inv h1;obtain ⟨_,r3,h3,h1⟩:=qb_inv h1;obtain ⟨p,r4,h4,h1⟩:=qb_inv h1;obtain ⟨_,r5,h5,h1⟩:=qb_inv h1;cases h1;cases h;exact cl_need hC (cl_ty hC (cl_need hC (cl_name hC l1 h2) h3) h4) h5
   split at h
   ·rename_i c1;have l1:=hC _ G (kw_kind c1);obtain ⟨x,r1,h1,h⟩:=qb_inv h;obtain ⟨b,r2,h2,h⟩:=qb_inv h;have l2:=i2 _ _ _ _ (cl_qx hC l1 h1) h2;split at h
    ·rename_i c2;obtain ⟨e,r3,h3,h⟩:=qb_inv h;cases h;exact i2 _ _ _ _ (hC _ l2 (kw_kind c2)) h3
    ·cases h;exact l2
   split at h
   ·rename_i c1;have l1:=hC _ G (kw_kind c1);obtain ⟨x,r1,h1,h⟩:=qb_inv h;obtain ⟨b,r2,h2,h⟩:=qb_inv h;cases h;exact i2 _ _ _ _ (cl_qx hC l1 h1) h2
   split at h
   ·rename_i c1;have l1:=hC _ G (kw_kind c1);obtain ⟨b,r1,h1,h⟩:=qb_inv h;have l2:=i2 _ _ _ _ l1 h1;obtain ⟨_,r2,h2,h⟩:=qb_inv h;have l3:C r2:=by
     unfold fcatch at h2;split at h2
     ·rename_i hq;cases h2;exact hC _ l2 (kw_kind hq)
     ·cases h2
    obtain ⟨n,r3,h3,h⟩:=qb_inv h;obtain ⟨e,r4,h4,h⟩:=qb_inv h;cases h;exact i2 _ _ _ _ (cl_name hC l3 h3) h4
   split at h
   ·rename_i c1;have l1:=hC _ G (kw_kind c1);obtain ⟨c,r1,h1,h⟩:=qb_inv h;obtain ⟨_,r2,h2,h⟩:=qb_inv h;cases h;exact cl_need hC (cl_val hC l1 h1) h2
   split at h
   ·rename_i c1;have l1:=hC _ G (kw_kind c1);obtain ⟨c,r1,h1,h⟩:=qb_inv h;obtain ⟨_,r2,h2,h⟩:=qb_inv h;cases h;exact cl_need hC (cl_val hC l1 h1) h2
   split at h
   ·rename_i c1;have l1:=hC _ G (kw_kind c1);obtain ⟨c,r1,h1,h⟩:=qb_inv h;obtain ⟨_,r2,h2,h⟩:=qb_inv h;cases h;exact cl_need hC (cl_val hC l1 h1) h2
   obtain ⟨m,r1,h1,h⟩:=qb_inv h;obtain ⟨_,r2,h2,h⟩:=qb_inv h;cases h;exact cl_need hC (cl_eff hC G h1) h2
  ·rw [fblk] at h;obtain ⟨_,r1,h1,h⟩:=qb_inv h;exact i3 d [] r1 l r (cl_need hC G h1) h
  ·rw [fsts] at h;split at h
   ·rename_i hs;cases h;exact hC _ G (sg_kind hs)
   ·obtain ⟨s,r1,h1,h⟩:=qb_inv h;exact i3 d _ r1 l r (i1 d ts s r1 G h1) h
theorem cl_more:∀ (k:Nat) (l:Names) (ts:List Tk) (m:Names) (r:List Tk),C ts→fmore k l ts=.ok (m,r)→C r
 | 0,l,ts,m,r,_,h=>by rw [fmore] at h; cases h
 | k + 1,l,ts,m,r,hc,h=>by
  rw [fmore_eq] at h;split at h
  ·rename_i hs;obtain ⟨x,r1,h1,h⟩:=qb_inv h;exact cl_more k _ r1 m r (cl_name hC (hC _ hc (sg_kind hs)) h1) h
  ·cases h;exact hc
theorem cl_names {ts r:List Tk} {m:Names} (hc:C ts) (h:fnames ts=.ok (m,r)):C r:=by
 rw [fnames_eq] at h;obtain ⟨n,r1,h1,h⟩:=qb_inv h;exact cl_more hC _ _ _ _ _ (cl_name hC hc h1) h
theorem cl_record {ts r:List Tk} {x:Rec} (hc:C ts) (h:frecord ts=.ok (x,r)):C r:=by
 unfold frecord at h;obtain ⟨n,r1,h1,h⟩:=qb_inv h;obtain ⟨_,r2,h2,h⟩:=qb_inv h;obtain ⟨l,r3,h3,h⟩:=qb_inv h;obtain ⟨_,r4,h4,h⟩:=qb_inv h;cases h;exact cl_need hC (cl_names hC (cl_need hC (cl_name hC hc h1) h2) h3) h4
theorem cl_func {ts r:List Tk} {x:Fn} (hc:C ts) (hk:(hd ts).kind≠0) (h:ffunc ts=.ok (x,r)):C r:=by
 unfold ffunc at h;obtain ⟨n,r1,h1,h⟩:=qb_inv h;obtain ⟨_,r2,h2,h⟩:=qb_inv h;obtain ⟨ps,r3,h3,h⟩:=qb_inv h;have c2:=cl_need hC (cl_name hC (hC _ hc hk) h1) h2
 have c3:C r3:=by
  unfold fpar at h3;split at h3
  ·cases h3;exact c2
  ·exact cl_names hC c2 h3
 obtain ⟨_,r4,h4,h⟩:=qb_inv h;obtain ⟨b,r5,h5,h⟩:=qb_inv h;cases h;exact (cl_stm hC _).2.1 _ _ _ _ (cl_need hC c3 h4) h5
theorem cl_recs:∀ (k:Nat) (l:List Rec) (ts:List Tk) (m:List Rec) (r:List Tk),C ts→frecs k l ts=.ok (m,r)→C r
 | 0,l,ts,m,r,_,h=>by rw [frecs] at h; cases h
 | k + 1,l,ts,m,r,hc,h=>by
  rw [frecs] at h;split at h
  ·rename_i hs;obtain ⟨x,r1,h1,h⟩:=qb_inv h;exact cl_recs k _ r1 m r (cl_record hC (hC _ hc (kw_kind hs)) h1) h
  ·cases h;exact hc
theorem cl_funs:∀ (k:Nat) (l:List Fn) (ts:List Tk) (m:List Fn) (r:List Tk),C ts→ffuns k l ts=.ok (m,r)→C r
 | 0,l,ts,m,r,_,h=>by rw [ffuns] at h; cases h
 | k + 1,l,ts,m,r,hc,h=>by
  rw [ffuns] at h;split at h
  ·rename_i hs;obtain ⟨x,r1,h1,h⟩:=qb_inv h;exact cl_funs k _ r1 m r (cl_func hC hc (kw_kind hs) h1) h
  ·cases h;exact hc
theorem cl_prog {ts r:List Tk} {p:Prg} (hc:C ts) (h:fprog ts=.ok (p,r)):C r:=by
 unfold fprog at h;obtain ⟨R,r1,h1,h⟩:=qb_inv h;obtain ⟨F,r2,h2,h⟩:=qb_inv h;have:=cl_funs hC _ _ _ _ _ (cl_recs hC _ _ _ _ _ hc h1) h2;split at h
 ·cases h;exact this
 ·cases h
end
def LastZ (ts:List Tk):Prop:=∃ l e,ts=l++[e]∧e.kind=0∧∀ t ∈ l,t.kind≠0
theorem LastZ.tail (ts:List Tk) (h:LastZ ts) (hk:(hd ts).kind≠0):LastZ ts.tail:=by
 obtain ⟨l,e,rfl,he,hl⟩:=h;cases l with
 | nil=>exact absurd he hk
 | cons a r=>exact ⟨r,e,rfl,he,fun t ht=>hl t (List.mem_cons_of_mem _ ht)⟩
theorem scan_LastZ {s:List UInt8} (he:(scan s).2.2=0):LastZ (scan s).1:=by
 obtain ⟨ts,l,e,_,_,_,hk⟩:=scan_tok s he;rw [e];exact ⟨ts,_,rfl,rfl,hk⟩
end Go.Proofs
namespace Go.Proofs
open Go.AM
structure PRc (r:Rec):Prop where
 name:Nm r.name
 some_:r.fields≠[]
 all:∀ n ∈ r.fields,Nm n
 len:r.fields.length≤100000
structure PF (f:Fn):Prop where
 name:Nm f.name
 all:∀ n ∈ f.params,Nm n
 len:f.params.length≤100000
 body:PL 1 f.body
 blen:f.body.length < 100000
structure PP (p:Prg):Prop where
 r:∀ r ∈ p.1,PRc r
 f:∀ f ∈ p.2,PF f
 rl:p.1.length≤100000
 fl:p.2.length≤100000
def ntk:Names→List Tk
 | []=>[]
 | [a]=>[tN a]
 | a::b::r=>tN a::tS [44]::ntk (b::r)
def rtk (r:Rec):List Tk:=tK wRecord::tN r.name::tS [123]::(ntk r.fields++[tS [125]])
def ftk (f:Fn):List Tk:=tK wFunc::tN f.name::tS [40]::(ntk f.params++tS [41]::tS [123]::(stks f.body++[tS [125]]))
def ptk (p:Prg):List Tk:=(p.1.map rtk).flatten++(p.2.map ftk).flatten
theorem ntk_snoc:∀ (l:Names) (x:List UInt8),l≠[]→ntk (l++[x])=ntk l++[tS [44],tN x]
 | [],x,h=>absurd rfl h
 | [a],x,_=>rfl
 | a::b::r,x,_=>by
  rw [List.cons_append,List.cons_append,ntk,ntk,← List.cons_append,ntk_snoc (b::r) x (by simp)];simp
theorem fmore_wf:∀ (k:Nat) (l:Names) (ts:List Tk) (m:Names) (r:List Tk),GTn ts→(∀ x ∈ l,Nm x)→l≠[]→fmore k l ts=.ok (m,r)→(∀ x ∈ m,Nm x)∧m≠[]∧GTn r∧(ntk m).length + r.length≤(ntk l).length + ts.length∧m.length + r.length≤l.length + ts.length
 | 0,l,ts,m,r,_,_,_,h=>by rw [fmore] at h; cases h
 | k + 1,l,ts,m,r,G,hl,h0,h=>by
  rw [fmore_eq] at h;split at h
  ·rename_i hs;obtain ⟨x,r1,h1,h⟩:=qb_inv h;obtain ⟨e1,e2,e3⟩:=GT_name (GT_tail G) h1;have h9:=len_tail (ts:=ts) (sg_kind hs);obtain ⟨q1,q2,q3,q4,q5⟩:=fmore_wf k (l++[x]) r1 m r e2 (fun z hz=>by
    rcases List.mem_append.1 hz with hz|hz
    ·exact hl z hz
    ·rw [List.mem_singleton.1 hz]; exact e1) (by simp) h
   refine ⟨q1,q2,q3,?_,?_⟩
   ·rw [ntk_snoc l x h0] at q4;simp only [List.length_append,List.length_cons,List.length_nil] at q4;omega
   ·simp only [List.length_append,List.length_cons,List.length_nil] at q5;omega
  ·cases h;exact ⟨hl,h0,G,Nat.le_refl _,Nat.le_refl _⟩
theorem fnames_wf {ts r:List Tk} {m:Names} (G:GTn ts) (h:fnames ts=.ok (m,r)):(∀ x ∈ m,Nm x)∧m≠[]∧GTn r∧(ntk m).length + r.length≤ts.length∧m.length + r.length≤ts.length:=by
 rw [fnames_eq] at h;obtain ⟨n,r1,h1,h⟩:=qb_inv h;obtain ⟨e1,e2,e3⟩:=GT_name G h1;obtain ⟨q1,q2,q3,q4,q5⟩:=fmore_wf _ _ _ _ _ e2 (fun z hz=>by rw [List.mem_singleton.1 hz]; exact e1) (by simp) h;have h1:(ntk [n]).length=1:=rfl;rw [h1] at q4;simp only [List.length_cons,List.length_nil] at q5;exact ⟨q1,q2,q3,by omega,by omega⟩
theorem frecord_wf {ts r:List Tk} {x:Rec} (G:GTn ts) (hn:ts.length≤100000) (h:frecord ts=.ok (x,r)):PRc x∧GTn r∧(rtk x).length + r.length≤1 + ts.length:=by
 unfold frecord at h;obtain ⟨n,r1,h1,h⟩:=qb_inv h;obtain ⟨g1,g2,g3⟩:=GT_name G h1;obtain ⟨_,r2,h2,h⟩:=qb_inv h;obtain ⟨k1,k2⟩:=GT_need g2 h2;obtain ⟨l,r3,h3,h⟩:=qb_inv h;obtain ⟨q1,q2,q3,q4,q5⟩:=fnames_wf k1 h3;obtain ⟨_,r4,h4,h⟩:=qb_inv h;obtain ⟨k3,k4⟩:=GT_need q3 h4;cases h;refine ⟨⟨g1,q2,q1,by simp only; omega⟩,k3,?_⟩;unfold rtk;simp only [List.length_cons,List.length_append,List.length_nil];omega
theorem ffunc_wf {ts r:List Tk} {x:Fn} (G:GTn ts) (hn:ts.length≤100000) (hk:(hd ts).kind≠0) (h:ffunc ts=.ok (x,r)):PF x∧GTn r∧(ftk x).length + r.length≤ts.length:=by
 unfold ffunc at h;have l1:=len_tail (ts:=ts) hk;obtain ⟨n,r1,h1,h⟩:=qb_inv h;obtain ⟨g1,g2,g3⟩:=GT_name (GT_tail G) h1;obtain ⟨_,r2,h2,h⟩:=qb_inv h;obtain ⟨k1,k2⟩:=GT_need g2 h2;obtain ⟨ps,r3,h3,h⟩:=qb_inv h;have hp:(∀ x ∈ ps,Nm x)∧GTn r3∧(ntk ps).length + r3.length≤r2.length∧ps.length≤r2.length:=by
  unfold fpar at h3;split at h3
  ·cases h3;exact ⟨fun x h=>(by cases h),k1,by show 0 + _≤_; omega,Nat.zero_le _⟩
  ·obtain ⟨q1,_,q3,q4,q5⟩:=fnames_wf k1 h3;exact ⟨q1,q3,q4,by omega⟩
 obtain ⟨p1,p2,p3,p4⟩:=hp;obtain ⟨_,r4,h4,h⟩:=qb_inv h;obtain ⟨k3,k4⟩:=GT_need p2 h4;obtain ⟨b,r5,h5,h⟩:=qb_inv h;obtain ⟨b1,b2,b3,b4⟩:=(wf_all _).2.1 _ _ _ _ k3 (by omega) h5;cases h;refine ⟨⟨g1,p1,by simp only; omega,b1,by simp only; omega⟩,b2,?_⟩;unfold ftk;simp only [List.length_cons,List.length_append,List.length_nil];omega
theorem frecs_wf:∀ (k:Nat) (l:List Rec) (ts:List Tk) (m:List Rec) (r:List Tk),GTn ts→ts.length≤100000→(∀ x ∈ l,PRc x)→frecs k l ts=.ok (m,r)→(∀ x ∈ m,PRc x)∧GTn r∧((m.map rtk).flatten).length + r.length≤((l.map rtk).flatten).length + ts.length∧m.length + r.length≤l.length + ts.length
 | 0,l,ts,m,r,_,_,_,h=>by rw [frecs] at h; cases h
 | k + 1,l,ts,m,r,G,hn,hl,h=>by
  rw [frecs] at h;split at h
  ·rename_i hs;obtain ⟨x,r1,h1,h⟩:=qb_inv h;have h9:=len_tail (ts:=ts) (kw_kind hs);obtain ⟨e1,e2,e3⟩:=frecord_wf (GT_tail G) (by omega) h1;have h8:1≤(rtk x).length:=by unfold rtk; simp
   obtain ⟨q1,q2,q3,q4⟩:=frecs_wf k (l++[x]) r1 m r e2 (by omega) (fun z hz=>by
    rcases List.mem_append.1 hz with hz|hz
    ·exact hl z hz
    ·rw [List.mem_singleton.1 hz]; exact e1) h
   simp only [List.map_append,List.map_cons,List.map_nil,List.flatten_append,List.flatten_cons,List.flatten_nil,List.append_nil,List.length_append,List.length_cons,List.length_nil] at q3 q4;exact ⟨q1,q2,by omega,by omega⟩
  ·cases h;exact ⟨hl,G,Nat.le_refl _,Nat.le_refl _⟩
theorem ffuns_wf:∀ (k:Nat) (l:List Fn) (ts:List Tk) (m:List Fn) (r:List Tk),GTn ts→ts.length≤100000→(∀ x ∈ l,PF x)→ffuns k l ts=.ok (m,r)→(∀ x ∈ m,PF x)∧GTn r∧((m.map ftk).flatten).length + r.length≤((l.map ftk).flatten).length + ts.length∧m.length + r.length≤l.length + ts.length
 | 0,l,ts,m,r,_,_,_,h=>by rw [ffuns] at h; cases h
 | k + 1,l,ts,m,r,G,hn,hl,h=>by
  rw [ffuns] at h;split at h
  ·rename_i hs;obtain ⟨x,r1,h1,h⟩:=qb_inv h;obtain ⟨e1,e2,e3⟩:=ffunc_wf G hn (kw_kind hs) h1;have h8:1≤(ftk x).length:=by unfold ftk; simp
   obtain ⟨q1,q2,q3,q4⟩:=ffuns_wf k (l++[x]) r1 m r e2 (by omega) (fun z hz=>by
    rcases List.mem_append.1 hz with hz|hz
    ·exact hl z hz
    ·rw [List.mem_singleton.1 hz]; exact e1) h
   simp only [List.map_append,List.map_cons,List.map_nil,List.flatten_append,List.flatten_cons,List.flatten_nil,List.append_nil,List.length_append,List.length_cons,List.length_nil] at q3 q4;exact ⟨q1,q2,by omega,by omega⟩
  ·cases h;exact ⟨hl,G,Nat.le_refl _,Nat.le_refl _⟩
theorem fprog_wf {ts r:List Tk} {p:Prg} (G:GTn ts) (hn:ts.length≤100000) (h:fprog ts=.ok (p,r)):PP p∧(ptk p).length + r.length≤ts.length∧(hd r).kind=0:=by
 unfold fprog at h;obtain ⟨R,r1,h1,h⟩:=qb_inv h;obtain ⟨a1,a2,a3,a4⟩:=frecs_wf _ _ _ _ _ G hn (fun x h=>by cases h) h1;obtain ⟨F,r2,h2,h⟩:=qb_inv h;simp only [List.map_nil,List.flatten_nil,List.length_nil] at a3 a4;obtain ⟨b1,b2,b3,b4⟩:=ffuns_wf _ _ _ _ _ a2 (by omega) (fun x h=>by cases h) h2;simp only [List.map_nil,List.flatten_nil,List.length_nil] at b3 b4;split at h
 ·rename_i hk;cases h;refine ⟨⟨a1,b1,by simp only; omega,by simp only; omega⟩,?_,hk⟩;unfold ptk;rw [List.length_append];show (R.map rtk).flatten.length + (F.map ftk).flatten.length + _≤_;omega
 ·cases h
theorem scan_GT {s:List UInt8} (he:(scan s).2.2=0):GTn (scan s).1:=by
 obtain ⟨ts,l,e,g,_,_,_⟩:=scan_tok s he;rw [e];intro t ht;rcases List.mem_append.1 ht with h|h
 ·exact g t h
 ·rw [List.mem_singleton.1 h];exact ⟨fun h=>(by cases h),fun h=>(by cases h)⟩
theorem pparse_wf {s:List UInt8} {p:Prg} (h:pparse s=.ok p):PP p∧(ptk p).length + 1≤(scan s).1.length:=by
 by_cases he:(scan s).2.2=0
 ·rw [pparse_of he] at h;obtain ⟨H,_⟩:=scan_RdH he;obtain ⟨ts,l,e,_,_,_,hk⟩:=scan_tok s he;cases hf:fprog (scan s).1 with
  | error e=>rw [hf] at h; cases h
  | ok q =>
   rw [hf] at h;cases h;obtain ⟨h1,h2,h3⟩:=fprog_wf (scan_GT he) H.len (show fprog (scan s).1=.ok (q.1,q.2) from hf);refine ⟨h1,?_⟩;obtain ⟨l,e,hq,_,_⟩:=cl_prog LastZ.tail (scan_LastZ he) (show fprog (scan s).1=.ok (q.1,q.2) from hf);have:1≤q.2.length:=by rw [hq]; simp
   omega
 ·rw [pparse_err he] at h;cases h
theorem WX_mono {P P':List UInt8→Prop} {Q Q':Nat→Prop} (hP:∀ s,P s→P' s) (hQ:∀ n,Q n→Q' n):∀ x:Xp,WX P Q x→WX P' Q' x
 | .lit _,h=>hQ _ h
 | .var _,h=>hP _ h
 | .fld _ _,h=>⟨hP _ h.1,hP _ h.2⟩
 | .elt _ a,h=>⟨hP _ h.1,WX_mono hP hQ a h.2⟩
 | .una _ a,h=>WX_mono hP hQ a h
 | .bin _ a b,h=>⟨WX_mono hP hQ a h.1,WX_mono hP hQ b h.2⟩
theorem EX.w1 {x:Xp} (h:EX x):WX1 x:=⟨h.1,WX_mono (fun _ _=>trivial) (fun _ h=>h) x h.2.1⟩
mutual
theorem PS_WS:∀ (d:Nat) (s:Sp),PS d s→WSp s
 | d,.mk k l nm ty len tg fn ar bd el,h=>by
  rw [PS] at h;obtain ⟨_,h2,h3,h4,h5,h6,h7,h8,h9⟩:=h;rw [WSp];refine ⟨fun x hx=>(h2 x hx).w1,fun x hx=>(h3 x hx).w1,?_,h4,?_,PL_WS _ bd h8,PL_WS _ el h9,h5,h6⟩
  ·cases h7 <;> simp
  ·cases h7 <;> omega
theorem PL_WS:∀ (d:Nat) (l:List Sp),PL d l→WSps l
 | d,[],_=>by rw [WSps]; trivial
 | d,s::r,h=>by
  rw [PL] at h;rw [WSps];exact ⟨PS_WS d s h.1,PL_WS d r h.2⟩
end
theorem PP.wp {p:Prg} (h:PP p):WP p:=⟨h.rl,h.fl,fun f hf=>⟨PL_WS _ _ (h.f f hf).body,(h.f f hf).blen⟩⟩
end Go.Proofs
namespace Go.Proofs
open Go.AM
attribute [local irreducible] AWP AOps ACalls AAny
set_option linter.unusedSimpArgs false
theorem recT_y (r:Rec) (acc:List UInt8):acc++recT r=acc++[114,101,99,111,114,100,32]++r.name++[32,123,32]++jnT r.fields++[32,125,10]:=by
 unfold recT recL;simp [lnT]
theorem fnT_y (f:Fn) (acc:List UInt8):acc++fnT f=acc++[102,117,110,99,32]++f.name++[40]++jnT f.params++[41,32,123,10]++prL 1 (f.body++[endSp f.stop])++[125,10]:=by
 unfold fnT fnL;simp [lnT]
set_option maxHeartbeats 4000000 in
theorem yprint_ok {p:Prg} (hw:PP p) (hb:(prT p).length≤1000000) (st:St) :
  ACalls Tryz.prog 17 [.agg (pgRow p)] st (fun v st'=>v=.str (prT p)∧st'=st) (fun _ _=>False):=by
 obtain ⟨R,F⟩:=p;obtain ⟨w1,w2,w3,w4⟩:=hw;simp only at w1 w2 w3 w4;unfold prT at hb ⊢;simp only [List.length_append] at hb ⊢;unfold pgRow;simp only;have hrl:(R.map recRow).length=R.length:=List.length_map ..
 have hfl:(F.map fnRow).length=F.length:=List.length_map ..;refine ACalls.ofBody Tryz.func17 rfl Tryz.ntmps17 rfl ?_;refine goD ?_;refine AWP.loop (α:=Nat) (fun i=>[(11,.int .i64 (i:Int)),(10,.int .i64 ((R.map recRow).length:Int)),(9,.view 2 (R.map recRow) .shared),(3,.str ((R.take i).map recT).flatten),(1,.eptr 2 [[.view 2 (R.map recRow) .shared,.view 4 (F.map fnRow) .shared]] 0 0)]) (fun _=>st) (fun i=>i≤R.length) (fun i=>R.length - i) 0
  (Nat.zero_le _) (tl5 rfl rfl rfl rfl rfl) (.refl _) ?_
 intro i hi;refine AWP.weaken (T':=[(11,.int .i64 (i:Int)),(10,.int .i64 ((R.map recRow).length:Int)),(9,.view 2 (R.map recRow) .shared),(3,.str ((R.take i).map recT).flatten),(1,.eptr 2 [[.view 2 (R.map recRow) .shared,.view 4 (F.map fnRow) .shared]] 0 0)]) (tl5 rfl rfl rfl rfl rfl) (.refl _) ?_;by_cases hlt:i < R.length
 ·obtain ⟨r,hr⟩:∃ r,R[i]?=some r:=⟨_,List.getElem?_eq_getElem hlt⟩;have hrr:=recRow_at R i r hr
  have hir:i < (R.map recRow).length:=by omega
  have hft:=map_take_succ recT R i r hr
  have hle:=map_take_le recT R (i + 1)
  have hmem:=w1 r (List.mem_of_getElem? hr);rw [hft,List.length_append] at hle;have hp:=recT_y r ((R.take i).map recT).flatten
  have hbd:(((R.take i).map recT).flatten++recT r).length≤1000000:=by rw [List.length_append]; omega
  rw [hp] at hbd;rw [hp] at hft;simp only [List.length_append,List.length_cons,List.length_nil] at hbd;have hW:=fun st=>ywords_ok (l:=r.fields) hmem.len (by omega) st;generalize ((R.take i).map recT).flatten=acc at *;generalize jnT r.fields=tf at *;generalize r.name=nm at *;refine goD ?_;refine AWP.draw rfl 11 11 (fun _ _=>False) rfl ?_;refine goF ?_;refine dq rfl rfl rfl (fun st1 hle=>sad rfl rfl rfl LL (nl ⟨_,rfl,rfl,rfl⟩)) ?_;refine goF ?_;refine dq rfl rfl rfl (fun st1 hle=>sad rfl rfl rfl LL (nl ⟨_,rfl,rfl,rfl⟩)) ?_;refine dq rfl rfl rfl (fun st1 hle=>sad rfl rfl rfl LL (nl ⟨_,rfl,rfl,rfl⟩)) ?_;refine goF ?_;refine dq rfl rfl rfl (fun st1 hle=>cle rfl rfl (hW st1) (nl ⟨_,rfl,rfl,rfl⟩)) ?_;refine dq rfl rfl rfl (fun st1 hle=>sad rfl rfl rfl LL (nl ⟨_,rfl,rfl,rfl⟩)) ?_;refine dq rfl rfl rfl (fun st1 hle=>sad rfl rfl rfl LL (nl ⟨_,rfl,rfl,rfl⟩)) ?_;refine dn ⟨fun _=>?_,fun h=>absurd h (by decide)⟩;refine goD ?_;refine ⟨i + 1,hlt,by omega,?_,.refl _⟩;rw [hft];exact (tl5 rfl rfl rfl rfl rfl)
 have hil:i=R.length:=by omega
 subst hil;rw [List.take_length];refine goD ?_;refine AWP.exit (blk_hit ?_);refine goD ?_;refine AWP.loop (α:=Nat) (fun i=>[(30,.int .i64 (i:Int)),(29,.int .i64 ((F.map fnRow).length:Int)),(28,.view 4 (F.map fnRow) .shared),(3,.str ((R.map recT).flatten++((F.take i).map fnT).flatten))]) (fun _=>st) (fun i=>i≤F.length) (fun i=>F.length - i) 0
  (Nat.zero_le _) (by simp only [List.take_zero,List.map_nil,List.flatten_nil,List.append_nil]; exact (tl4 rfl rfl rfl rfl)) (.refl _) ?_
 clear hi hlt;intro i hi;refine AWP.weaken (T':=[(30,.int .i64 (i:Int)),(29,.int .i64 ((F.map fnRow).length:Int)),(28,.view 4 (F.map fnRow) .shared),(3,.str ((R.map recT).flatten++((F.take i).map fnT).flatten))]) (tl4 rfl rfl rfl rfl) (.refl _) ?_;by_cases hlt:i < F.length
 ·obtain ⟨f,hf⟩:∃ f,F[i]?=some f:=⟨_,List.getElem?_eq_getElem hlt⟩;have hrr:=fnRow_at F i f hf
  have hir:i < (F.map fnRow).length:=by omega
  have hft:=map_take_succ fnT F i f hf
  have hle:=map_take_le fnT F (i + 1)
  have hmem:=w2 f (List.mem_of_getElem? hf)
  have hB0:=yblock_end hmem.body hmem.blen f.stop;rw [hft,List.length_append] at hle;have hp:=fnT_y f ((R.map recT).flatten++((F.take i).map fnT).flatten)
  have hbd:((R.map recT).flatten++((F.take i).map fnT).flatten++fnT f).length≤1000000:=by rw [List.length_append,List.length_append]; omega
  rw [hp] at hbd;have hft2:(R.map recT).flatten++((F.take (i + 1)).map fnT).flatten=(R.map recT).flatten++((F.take i).map fnT).flatten++fnT f:=by rw [hft,List.append_assoc]
  rw [hp] at hft2;clear hft hle;generalize (R.map recT).flatten++((F.take i).map fnT).flatten=acc at *;simp only [List.length_append,List.length_cons,List.length_nil] at hbd;have hW:=fun st=>ywords_ok (l:=f.params) hmem.len (by omega) st
  have hB:=fun st=>hB0 1 (by omega) st;rw [show List.replicate 1 (9:UInt8)=[9] from rfl] at hB;clear hB0;generalize prL 1 (f.body++[endSp f.stop])=tb at *;generalize spRows (f.body++[endSp f.stop])=rb at *;generalize jnT f.params=tf at *;generalize f.name=nm at *;refine goD ?_;refine AWP.draw rfl 16 16 (fun _ _=>False) rfl ?_;refine goF ?_;refine dq rfl rfl rfl (fun st1 hle=>sad rfl rfl rfl LL (nl ⟨_,rfl,rfl,rfl⟩)) ?_;refine goF ?_;refine dq rfl rfl rfl (fun st1 hle=>sad rfl rfl rfl LL (nl ⟨_,rfl,rfl,rfl⟩)) ?_;refine dq rfl rfl rfl (fun st1 hle=>sad rfl rfl rfl LL (nl ⟨_,rfl,rfl,rfl⟩)) ?_;refine goF ?_;refine dq rfl rfl rfl (fun st1 hle=>cle rfl rfl (hW st1) (nl ⟨_,rfl,rfl,rfl⟩)) ?_;refine dq rfl rfl rfl (fun st1 hle=>sad rfl rfl rfl LL (nl ⟨_,rfl,rfl,rfl⟩)) ?_;refine dq rfl rfl rfl (fun st1 hle=>sad rfl rfl rfl LL (nl ⟨_,rfl,rfl,rfl⟩)) ?_;refine goF ?_;refine dq rfl rfl rfl (fun st1 hle=>cle rfl rfl (hB st1) (nl ⟨_,rfl,rfl,rfl⟩)) ?_;refine dq rfl rfl rfl (fun st1 hle=>sad rfl rfl rfl LL (nl ⟨_,rfl,rfl,rfl⟩)) ?_;refine dq rfl rfl rfl (fun st1 hle=>sad rfl rfl rfl LL (nl ⟨_,rfl,rfl,rfl⟩)) ?_;refine dn ⟨fun _=>?_,fun h=>absurd h (by decide)⟩;refine goD ?_;refine ⟨i + 1,hlt,by omega,?_,.refl _⟩;rw [hft2];exact (tl4 rfl rfl rfl rfl)
 have hil:i=F.length:=by omega
 subst hil;rw [List.take_length];refine goD ?_;refine AWP.exit (blk_hit ?_);refine goD ?_;exact AWP.ret (rets rfl (.refl _) (.refl _) ⟨rfl,rfl⟩)
end Go.Proofs
namespace Go.Proofs
open Go.AM
end Go.Proofs
namespace Go.Proofs
open Go.AM
attribute [local irreducible] AWP AOps ACalls AAny
end Go.Proofs
namespace Go.Proofs
open Go.AM
end Go.Proofs
namespace Go.Proofs
open Go.AM
attribute [local irreducible] AWP AOps ACalls AAny
end Go.Proofs
namespace Go.Proofs
theorem scanL_good:∀ (k:Nat) (s:List UInt8) (line:Nat) (out:List Tk),s.length < k→(∀ t ∈ out,Good t)→out.length≤2000→(scanL k s line out).2.2=0 →
  ∃ ts l,scanL k s line out=(ts++[⟨0,l,[],0⟩],0,0)∧(∀ t ∈ ts,Good t)∧ts.length≤2000
 | k + 1,[],line,out,_,h,hl,_=>⟨out,line,rfl,h,hl⟩
 | k + 1,c::r,line,out,hk,h,hl,he=>by
  cases ho:one (c::r) line with
  | error e =>
   have h1:=one_err ho;rw [scanL,ho] at he;simp only at he;omega
  | ok p =>
   obtain ⟨t,m⟩:=p;have hr:=rest_lt ho line;rw [scanL,ho] at he ⊢;simp only at he ⊢;split
   ·rename_i h2;rw [if_pos h2] at he;cases he
   ·rename_i h2;rw [if_neg h2] at he;exact scanL_good k _ _ _ (by omega) (fun u hu=>by
     rcases List.mem_append.1 hu with hu|hu
     ·exact h u hu
     ·rw [List.mem_singleton.1 hu];exact good_of_one ho) (by simp; omega) he

theorem scan_good (s:List UInt8) (he:(scan s).2.2=0):∃ ts l,scan s=(ts++[⟨0,l,[],0⟩],0,0)∧(∀ t ∈ ts,Good t)∧ts.length≤2000:=by
 unfold scan at he ⊢;split at he
 ·cases he
 ·rename_i h;rw [if_neg h];have h1:=skip_len s 1;exact scanL_good _ _ _ _ (by omega) (fun t h=>by cases h) (by decide) he

end Go.Proofs
namespace Go.Proofs
open Go.AM
theorem prL_end (l:List Sp) (n:Nat):prL 1 (l++[endSp n])=prL 1 l:=by
 rw [prL_append,prL,prL,endSp,prS];simp
end Go.Proofs
namespace Go.Proofs
open Go.Shelf
def Tryz.laysJoin_ren:Go.Shelf.Ren:=⟨fun|156=>30|165=>58|166=>59|169=>32|240=>88|241=>89|276=>107|277=>108|n=>n,fun|31=>33|9=>9|3=>3|4=>4|0=>0|20=>20|72=>75|76=>118|70=>72|37=>73|75=>117|127=>121|164=>148|5=>5|80=>81|n=>n,fun|n=>n⟩
theorem Tryz.laysJoin:Go.Proofs.Lays.n156 Tryz.prog Tryz.laysJoin_ren:={
 mixed:=by kernel_rfl
 f156:=Tryz.func30.trans (congrArg some (by kernel_rfl))
 f165:=Tryz.func58.trans (congrArg some (by kernel_rfl))
 f166:=Tryz.func59.trans (congrArg some (by kernel_rfl))
 f169:=Tryz.func32.trans (congrArg some (by kernel_rfl))
 f240:=Tryz.func88.trans (congrArg some (by kernel_rfl))
 f241:=Tryz.func89.trans (congrArg some (by kernel_rfl))
 f276:=Tryz.func107.trans (congrArg some (by kernel_rfl))
 f277:=Tryz.func108.trans (congrArg some (by kernel_rfl))
 t0:=Tryz.underlying0
 a0:=Tryz.isAgg0
 z0:=Tryz.sizeOf0
 v0:=Tryz.zeroValue0
 t3:=Tryz.underlying3
 a3:=Tryz.isAgg3
 z3:=Tryz.sizeOf3
 v3:=Tryz.zeroValue3
 t4:=Tryz.underlying4
 a4:=Tryz.isAgg4
 z4:=Tryz.sizeOf4
 v4:=Tryz.zeroValue4
 t9:=Tryz.underlying9
 a9:=Tryz.isAgg9
 z9:=Tryz.sizeOf9
 v9:=Tryz.zeroValue9
 t20:=Tryz.underlying20
 a20:=Tryz.isAgg20
 z20:=Tryz.sizeOf20
 v20:=Tryz.zeroValue20
 t31:=Tryz.underlying33
 a31:=Tryz.isAgg33
 z31:=Tryz.sizeOf33
 v31:=Tryz.zeroValue33
 t37:=Tryz.underlying73
 a37:=Tryz.isAgg73
 z37:=Tryz.sizeOf73
 v37:=Tryz.zeroValue73
 t70:=Tryz.underlying72
 a70:=Tryz.isAgg72
 z70:=Tryz.sizeOf72
 v70:=Tryz.zeroValue72
 t72:=Tryz.underlying75
 a72:=Tryz.isAgg75
 z72:=Tryz.sizeOf75
 v72:=Tryz.zeroValue75
 t75:=Tryz.underlying117
 a75:=Tryz.isAgg117
 z75:=Tryz.sizeOf117
 v75:=Tryz.zeroValue117
 t76:=Tryz.underlying118
 a76:=Tryz.isAgg118
 z76:=Tryz.sizeOf118
 v76:=Tryz.zeroValue118
 t127:=Tryz.underlying121
 a127:=Tryz.isAgg121
 z127:=Tryz.sizeOf121
 v127:=Tryz.zeroValue121
 t164:=Tryz.underlying148
 a164:=Tryz.isAgg148
 z164:=Tryz.sizeOf148
 v164:=Tryz.zeroValue148 }
theorem Tryz.laysJoinX:Builder.Extra Tryz.prog Tryz.laysJoin_ren:={
 sizeBuilder:=by kernel_rfl
 liesBuilder:=by kernel_rfl
 t5:=Tryz.underlying5
 a5:=Tryz.isAgg5
 z5:=Tryz.sizeOf5
 v5:=Tryz.zeroValue5
 infoByte:=by kernel_rfl
 cellsByte:=by kernel_rfl
 sizeByte:=by kernel_rfl
 neB5:=by decide }
theorem joinC (bk o c:Nat) (xs:List ByteArray) (sep:ByteArray) (w:World) (hcells:∀ (j:Nat) x,xs[j]?=some x→w.cell? ⟨bk,o + j,none⟩=some (.string x)) (hbk:bk < w.heap.size) (hN:xs.length≤140737488355328) (hcap:xs.length≤c) (hlen:(Lib.join (xs.map (·.data.toList)) sep.data.toList).length≤140737488355328) :
  Calls Tryz.prog 30 #[.slice (some ⟨bk,o,none⟩) xs.length c,.string sep] w fun e w'=>e=.returned (.string ⟨(Lib.join (xs.map (·.data.toList)) sep.data.toList).toArray⟩)∧Go.RowKit.Below w.heap.size w w':=Any.strings_Join Tryz.laysJoin Tryz.laysJoinX bk o c xs sep w hcells hbk hN hcap hlen
end Go.Proofs
namespace Go.Proofs
open Go.AM
open Go.RowKit (Below)
attribute [local irreducible] AWP AOps ACalls AAny
theorem below_new {w w':World} (h:Below w.heap.size w w'):∃ os,w'.heap=w.heap++os:=by
 refine ⟨w'.heap.extract w.heap.size w'.heap.size,?_⟩;apply Array.ext_getElem?;intro k;by_cases hk:k < w.heap.size
 ·rw [h.block k hk,Array.getElem?_append_left hk]
 ·rw [Array.getElem?_append_right (by omega),Array.getElem?_extract];have:=h.size;by_cases h2:k < w'.heap.size
  ·rw [if_pos (by omega)]
   congr 1
   omega
  ·rw [if_neg (by omega)];exact Array.getElem?_eq_none (by omega)
theorem join_jnT:∀ l:Names,Lib.join l [44,32]=jnT l
 | []=>rfl
 | [a]=>by simp [Lib.join,jnT]
 | a::b::l=>by
  rw [jnT,← join_jnT (b::l)];simp [Lib.join]
theorem join_ok (l:Names) (hl:l.length≤100000) (hb:(jnT l).length≤140737488355328):JoinOk l:=by
 by_cases h1:l.length≤1
 ·exact join_one h1
 intro st;refine ACalls.grown fun g w rargs hs hlen hr=>?_;obtain ⟨v0,v1,rfl⟩:∃ v0 v1,rargs=#[v0,v1]:=by
  obtain ⟨a⟩:=rargs
  match a,hlen with
  | [v0,v1],_=>exact ⟨v0,v1,rfl⟩
 have r0:=hr 0 _ v0 rfl rfl
 have r1:=hr 1 _ v1 rfl rfl;cases r1;have hnl:=nrow_len l;generalize hrows:nrow l=rows at r0 hnl;cases r0 with
 | vnil=>simp only [List.length_nil] at hnl; omega
 | vemp=>simp only [List.length_nil] at hnl; omega
 | view _ _ _ b off cap f hc hm hsz ho ht himm hh =>
  subst hrows;have hbk:b < w.heap.size:=hs.immlt b _ (himm 0 0 (by omega) (by decide)).1
  have hcell:∀ (j:Nat) x,(l.map fun s=>(⟨⟨s⟩⟩:ByteArray))[j]?=some x→w.cell? ⟨b,off + j,none⟩=some (.string x):=fun j x hx=>by
   rw [List.getElem?_map] at hx;cases hlj:l[j]? with
   | none=>rw [hlj] at hx; cases hx
   | some s =>
    rw [hlj] at hx;cases hx;have hj:j < l.length:=(List.getElem?_eq_some_iff.1 hlj).1
    have hrj:(nrow l)[j]?=some [.str s]:=by unfold nrow; rw [List.getElem?_map,hlj]; rfl
    have h3:=(himm j 0 (by omega) (by decide)).2
    have h4:=hh j 0 _ _ hrj rfl;rw [show off + (j * 1 + 0)=off + j by omega] at h3;rw [h3];generalize f j 0=fv at h4;cases h4;rfl
  have hmap:(l.map fun s=>(⟨⟨s⟩⟩:ByteArray)).map (·.data.toList)=l:=by
   rw [List.map_map];exact List.map_id'' (fun _=>rfl) l
  have hC:=joinC b off cap (l.map fun s=>(⟨⟨s⟩⟩:ByteArray)) ⟨⟨[44,32]⟩⟩ w hcell hbk (by rw [List.length_map]; omega) (by rw [List.length_map]; omega) (by rw [hmap,join_jnT]; exact hb);rw [hmap,join_jnT,List.length_map] at hC;rw [hnl];refine hC.mono fun e w' ⟨he,hB⟩=>?_;obtain ⟨os,hos⟩:=below_new hB;exact ⟨_,he,fun _ _=>.str _,os,hos,hB.os,hB.tape,hB.output⟩
end Go.Proofs
namespace Go.Proofs
open Go.AM
theorem Nm_len {s:List UInt8} (h:Nm s):s.length≤12:=by obtain ⟨_,_,_,_,_,h,_⟩:=h; exact h
theorem sgO_len {op:Nat} (h6:6≤op) (h17:op≤17):(sgO op).length≤2:=by
 have:op=6∨op=7∨op=8∨op=9∨op=10∨op=11∨op=12∨op=13∨op=14∨op=15∨op=16∨op=17:=by omega
 rcases this with rfl|rfl|rfl|rfl|rfl|rfl|rfl|rfl|rfl|rfl|rfl|rfl <;> decide
theorem bl_tl:∀ x:Xp,Wop x→WX Nm Nu x→bl x≤18 * tl x
 | .lit n,_,h=>by
  have h:(dec n).length≤18:=dec_len (by decide) (by decide) h;exact h
 | .var s,_,h=>by
  have h:s.length≤12:=Nm_len h
  show s.length≤18;omega
 | .fld s f,_,h=>by
  have h1:=Nm_len h.1
  have h2:=Nm_len h.2
  show (s++46::f).length≤18 * 3;rw [List.length_append,List.length_cons];omega
 | .elt s a,w,h=>by
  have h1:=Nm_len h.1
  have ih:=bl_tl a w h.2;obtain ⟨e1,e2⟩:=bl_elt s a;omega
 | .una op a,w,h=>by
  have ih:=bl_tl a w.2 h;obtain ⟨e1,e2⟩:=bl_una op a;omega
 | .bin op a b,w,h=>by
  have i1:=bl_tl a w.2.2.1 h.1
  have i2:=bl_tl b w.2.2.2 h.2
  have h2:=sgO_len w.1 w.2.1;rw [bl_bin,tl_bin];omega
theorem xs_len:∀ l:List Xp,(∀ x ∈ l,EX x)→(xsT l).length≤18 * (xstk l).length
 | [],_=>Nat.le_refl _
 | [x],h=>bl_tl x (h x (List.mem_cons_self ..)).1 (h x (List.mem_cons_self ..)).2.1
 | x::y::l,h=>by
  have h1:(xby x).length≤18 * (xtk x).length:=bl_tl x (h x (List.mem_cons_self ..)).1 (h x (List.mem_cons_self ..)).2.1
  have h2:=xs_len (y::l) fun z hz=>h z (List.mem_cons_of_mem _ hz);rw [xsT,xstk];simp only [List.length_append,List.length_cons,List.length_nil];omega
theorem jn_len:∀ l:Names,(∀ x ∈ l,Nm x)→(jnT l).length≤14 * l.length∧l.length≤(ntk l).length
 | [],_=>⟨Nat.le_refl _,Nat.le_refl _⟩
 | [x],h=>by
  have h1:=Nm_len (h x (List.mem_cons_self ..));exact ⟨by show x.length≤14; omega,Nat.le_refl _⟩
 | x::y::l,h=>by
  have h1:=Nm_len (h x (List.mem_cons_self ..))
  have h2:=jn_len (y::l) fun z hz=>h z (List.mem_cons_of_mem _ hz);rw [jnT,ntk];simp only [List.length_append,List.length_cons,List.length_nil] at h2 ⊢;omega
theorem ty_len {ty:List UInt8} {len:Nat} (h:(ty=[]∧len≤8)∨(Nm ty∧len=0)):(tyT ty len).length≤18 * (tytk ty len).length:=by
 unfold tyT tytk;rcases h with ⟨rfl,h8⟩|⟨hn,rfl⟩
 ·rw [if_pos rfl,if_pos rfl];by_cases h0:len=0
  ·rw [if_pos h0,if_pos h0];decide
  ·rw [if_neg h0,if_neg h0];have:(dec len).length≤18:=dec_len (by decide) (by decide) (by omega);simp only [List.length_append,List.length_cons,List.length_nil];omega
 ·rw [if_neg (Nm_ne hn),if_neg (Nm_ne hn)];have:=Nm_len hn;simp only [List.length_cons,List.length_nil];omega
theorem v_len {fn:List UInt8} {ar:List Xp} (h:∀ x ∈ ar,EX x) (hf:fn=[]∨Nm fn):(smV fn ar).length≤18 * (smvtk fn ar).length:=by
 have h1:=xs_len ar h;unfold smV smvtk;rcases hf with rfl|hf
 ·rw [if_pos rfl,if_pos rfl];exact h1
 ·rw [if_neg (Nm_ne hf),if_neg (Nm_ne hf)];have:=Nm_len hf;simp only [List.length_append,List.length_cons,List.length_nil];omega
theorem h_len {k:Nat} {tg:List Xp} (h:∀ x ∈ tg,EX x):(smH k tg).length≤18 * (smhtk k tg).length:=by
 have h1:=xs_len tg h;unfold smH smhtk;split
 ·decide
 split
 ·decide
 split
 ·decide
 split
 ·rename_i ht;subst ht;decide
 ·simp only [List.length_append,List.length_cons,List.length_nil];omega
mutual
theorem prS_len:∀ (s:Sp) (d:Nat),PS d s→(prS d s).length≤60 * (stk s).length
 | .mk k l nm ty len tg fn ar bd el,d,h=>by
  rw [PS] at h;obtain ⟨h8,h2,h3,_,_,_,h7,hbd,hel⟩:=h;have hB:=prL_len bd (d + 1) hbd
  have hE:=prL_len el (d + 1) hel
  have hx:=xs_len ar h3
  have hsm:(k=2∨k=3∨k=6∨k=7∨k=9)→(fn=[]∨Nm fn)→(prS d (.mk k l nm ty len tg fn ar bd el)).length≤60 * (stk (.mk k l nm ty len tg fn ar bd el)).length:=fun hk hf=>by
   have e1:=h_len (k:=k) h2
   have e2:=v_len h3 hf;rw [prS,stk,if_neg (by omega),if_neg (by omega),if_neg (by omega),if_neg (by omega),if_pos hk,if_neg (by omega),if_neg (by omega),if_neg (by omega),if_neg (by omega)];unfold smT;simp only [List.length_append,List.length_cons,List.length_nil,List.length_replicate];omega
  have hvar:k=1→Nm nm→((ty=[]∧len≤8)∨(Nm ty∧len=0))→(prS d (.mk k l nm ty len tg fn ar bd el)).length≤60 * (stk (.mk k l nm ty len tg fn ar bd el)).length:=fun hk hn ht=>by
   have e1:=ty_len ht
   have e2:=Nm_len hn;rw [prS,stk,if_neg (by omega),if_neg (by omega),if_neg (by omega),if_pos hk,if_neg (by omega),if_neg (by omega),if_neg (by omega),if_pos hk];simp only [lnT,List.flatten_cons,List.flatten_nil,List.length_append,List.length_cons,List.length_nil,List.length_replicate];omega
  cases h7 with
  | dcl nm hn len h8=>exact hvar rfl hn (.inl ⟨rfl,h8⟩)
  | dct nm hn ty ht=>exact hvar rfl hn (.inr ⟨ht,rfl⟩)
  | asg y hy x=>exact hsm (by simp) (.inl rfl)
  | cal fn hn ar=>exact hsm (by simp) (.inr hn)
  | cat y hy fn hn ar=>exact hsm (by simp) (.inr hn)
  | ret x=>exact hsm (by simp) (.inl rfl)
  | rtc fn hn ar=>exact hsm (by simp) (.inr hn)
  | thr x=>exact hsm (by simp) (.inl rfl)
  | prt x=>exact hsm (by simp) (.inl rfl)
  | iff x bd el =>
   rw [prS,stk,if_pos rfl,if_pos rfl];cases el with
   | nil =>
    simp only [hdT,lnT,List.isEmpty_nil,if_true,List.flatten_cons,List.flatten_nil,List.length_append,List.length_cons,List.length_nil,List.length_replicate];omega
   | cons a m =>
    simp only [hdT,lnT,List.isEmpty_cons,Bool.false_eq_true,if_false,List.flatten_cons,List.flatten_nil,List.length_append,List.length_cons,List.length_nil,List.length_replicate];omega
  | whl x bd =>
   rw [prS,stk,if_neg (by decide),if_pos rfl,if_neg (by decide),if_pos rfl];simp only [hdT,lnT,List.flatten_cons,List.flatten_nil,List.length_append,List.length_cons,List.length_nil,List.length_replicate];omega
  | tri nm hn bd el =>
   have e2:=Nm_len hn;rw [prS,stk,if_neg (by decide),if_neg (by decide),if_pos rfl,if_neg (by decide),if_neg (by decide),if_pos rfl];simp only [lnT,List.flatten_cons,List.flatten_nil,List.length_append,List.length_cons,List.length_nil,List.length_replicate];omega
theorem prL_len:∀ (l:List Sp) (d:Nat),PL d l→(prL d l).length≤60 * (stks l).length
 | [],d,_=>by rw [prL,stks]; exact Nat.le_refl _
 | s::r,d,h=>by
  rw [PL] at h;have h1:=prS_len s d h.1
  have h2:=prL_len r d h.2;rw [prL,stks,List.length_append,List.length_append];omega
end
theorem flat_len {α:Type} {f:α→List UInt8} {g:α→List Tk}:∀ l:List α,(∀ x ∈ l,(f x).length≤60 * (g x).length)→((l.map f).flatten).length≤60 * ((l.map g).flatten).length
 | [],_=>Nat.le_refl _
 | x::l,h=>by
  have h1:=h x (List.mem_cons_self ..)
  have h2:=flat_len l fun y hy=>h y (List.mem_cons_of_mem _ hy);simp only [List.map_cons,List.flatten_cons,List.length_append];omega
theorem prT_len {p:Prg} (h:PP p):(prT p).length≤60 * (ptk p).length:=by
 have h1:=flat_len (f:=recT) (g:=rtk) p.1 fun r hr=>by
  have hn:=Nm_len (h.r r hr).name
  have hj:=jn_len r.fields (h.r r hr).all;unfold rtk recT recL;simp only [lnT,List.flatten_cons,List.flatten_nil,List.length_append,List.length_cons,List.length_nil,List.length_replicate];omega
 have h2:=flat_len (f:=fnT) (g:=ftk) p.2 fun f hf=>by
  have hn:=Nm_len (h.f f hf).name
  have hj:=jn_len f.params (h.f f hf).all
  have hb:=prL_len f.body 1 (h.f f hf).body;unfold ftk fnT fnL;rw [prL_end];simp only [lnT,List.flatten_cons,List.flatten_nil,List.length_append,List.length_cons,List.length_nil,List.length_replicate];omega
 unfold prT ptk;rw [List.length_append,List.length_append];omega
theorem scan_2001 (s:List UInt8):(scan s).1.length≤2001:=by
 by_cases he:(scan s).2.2=0
 ·obtain ⟨ts,l,e,_,hl⟩:=scan_good s he;rw [e];simp only [List.length_append,List.length_cons,List.length_nil];omega
 ·rw [((scan_lines s).1 he).1];exact Nat.zero_le _
theorem pprt_ok {s:List UInt8} {p:Prg} (h:pparse s=.ok p) (st:St) (hg:GSt st):(prT p).length≤120000∧ACalls Tryz.prog 16 [.agg (pgRow p)] st (fun v st'=>v=.str (prT p)∧st'=st) (fun _ _=>False):=by
 obtain ⟨hp,hn⟩:=pparse_wf h;have h1:=prT_len hp
 have h2:=scan_2001 s;refine ⟨by omega,pprint_ok hp.wp (fun r hr=>?_) (fun f hf=>?_) (by unfold wMax; omega) st hg⟩
 ·have hj:=jn_len r.fields (hp.r r hr).all
  have hl:=(hp.r r hr).len;exact join_ok _ hl (by omega)
 ·have hj:=jn_len f.params (hp.f f hf).all
  have hl:=(hp.f f hf).len;exact join_ok _ hl (by omega)
def NE {α:Type} (r:QR α):Prop:=∀ e t,r=.error (e,t)→e≠0
theorem NE.qb {α β:Type} {r:QR α} {f:α→List Tk→QR β} (h:NE r) (hf:∀ x t,NE (f x t)):NE (qb r f):=by
 rcases r with ⟨e,t⟩|⟨x,t⟩
 ·intro e' t' he;cases he;exact h e t rfl
 ·exact hf x t
theorem NE.ok {α:Type} {x:α} {t:List Tk}:NE (.ok (x,t)):=fun _ _ h=>by cases h
theorem NE.err {α:Type} {e:Nat} {t:List Tk} (h:e≠0):NE (.error (e,t):QR α):=fun _ _ h'=>by cases h'; exact h
theorem NE.ite {α:Type} {c:Prop} [Decidable c] {a b:QR α} (h1:NE a) (h2:NE b):NE (if c then a else b):=by split <;> assumption
theorem ne_fe:∀ k:Nat,(∀ lv d ts,NE (fe k lv d ts))∧(∀ lv d x ts,NE (fl k lv d x ts))∧(∀ d ts,NE (fo k d ts))
 | 0=>⟨fun _ _ _=>by rw [fe]; exact .err (by decide),fun _ _ _ _=>by rw [fl]; exact .err (by decide),fun _ _=>by rw [fo]; exact .err (by decide)⟩
 | k + 1=>by
  obtain ⟨i1,i2,i3⟩:=ne_fe k;refine ⟨fun lv d ts=>?_,fun lv d x ts=>?_,fun d ts=>?_⟩
  ·rw [fe];refine .ite (i3 d ts) ?_;have h:=i1 (lv + 1) d ts;rcases hp:fe k (lv + 1) d ts with ⟨e,t⟩|⟨x,t⟩
   ·rw [hp] at h; exact .err (h e t rfl)
   ·exact i2 lv d x t
  ·rw [fl];refine .ite ?_ .ok;have h:=i1 (lv + 1) d ts.tail;rcases hp:fe k (lv + 1) d ts.tail with ⟨e,t⟩|⟨y,t⟩
   ·rw [hp] at h; exact .err (h e t rfl)
   ·exact .ite .ok (i2 lv d _ t)
  ·rw [fo];refine .ite (.ite (.err (by decide)) (.ite .ok (.ite (.ite (.ite .ok (.err (by decide))) (.ite ?_ .ok)) (.ite ?_ ?_)))) (.err (by decide))
   ·have h:=i1 1 (d + 1) ts.tail.tail;rcases hp:fe k 1 (d + 1) ts.tail.tail with ⟨e,t⟩|⟨y,t⟩
    ·rw [hp] at h; exact .err (h e t rfl)
    ·exact .ite .ok (.err (by decide))
   ·have h:=i1 1 (d + 1) ts.tail;rcases hp:fe k 1 (d + 1) ts.tail with ⟨e,t⟩|⟨y,t⟩
    ·rw [hp] at h; exact .err (h e t rfl)
    ·exact .ite .ok (.err (by decide))
   ·have h:=i3 (d + 1) ts.tail;rcases hp:fo k (d + 1) ts.tail with ⟨e,t⟩|⟨y,t⟩
    ·rw [hp] at h; exact .err (h e t rfl)
    ·exact .ok
theorem ne_need (s:List UInt8) (ts:List Tk):NE (fneed s ts):=by unfold fneed; exact .ite .ok (.err (by decide))
theorem ne_name (ts:List Tk):NE (fname ts):=by unfold fname; exact .ite .ok (.err (by decide))
theorem ne_qx (ts:List Tk):NE (qx ts):=(ne_fe _).1 _ _ _
theorem ne_qt (ts:List Tk):NE (qt ts):=by
 unfold qt ftg;exact (ne_name ts).qb fun n r=>.ite ((ne_name _).qb fun f t=>.ok) (.ite (NE.qb ((ne_fe _).1 _ _ _) fun x t=>(ne_need _ _).qb fun _ u=>.ok) .ok)
theorem ne_args:∀ (k:Nat) (l:List Xp) (ts:List Tk),NE (fargs k l ts)
 | 0,l,ts=>by rw [fargs]; exact .err (by decide)
 | k + 1,l,ts=>by
  rw [fargs];exact .ite ((ne_qx _).qb fun x r=>ne_args k _ r) .ok
theorem ne_call (ts:List Tk):NE (fcall ts):=by
 unfold fcall;exact (ne_name ts).qb fun n r=>(ne_need _ r).qb fun _ r2=>.ite .ok ((ne_qx _).qb fun x r3=>(ne_args _ _ _).qb fun l r4=>(ne_need _ _).qb fun _ r5=>.ok)
theorem ne_val (b:Bool) (ts:List Tk):NE (fval b ts):=by
 unfold fval;exact .ite (ne_call ts) ((ne_qx _).qb fun x r=>.ok)
theorem ne_eff (ts:List Tk):NE (feff ts):=by
 unfold feff;exact .ite ((ne_call ts).qb fun c r=>.ok) ((ne_qt ts).qb fun y r=>(ne_need _ r).qb fun _ r2=>.ite ((ne_call _).qb fun c r=>.ok) ((ne_qx _).qb fun c r=>.ok))
theorem ne_ty (ts:List Tk):NE (fty ts):=by
 unfold fty;exact .ite (.ite (.ite (.ite (.err (by decide)) ((ne_need _ _).qb fun _ r=>.ok)) (.err (by decide))) .ok) ((ne_name ts).qb fun c r=>.ok)
theorem ne_decl (ts:List Tk):NE (fdecl ts):=by
 rw [fdecl_eq];exact (ne_name ts).qb fun n r=>(ne_need _ _).qb fun _ r2=>(ne_ty _).qb fun p r3=>(ne_need _ _).qb fun _ r4=>.ok
theorem ne_catch (ts:List Tk):NE (fcatch ts):=by unfold fcatch; exact .ite .ok (.err (by decide))
theorem ne_stm:∀ k:Nat,(∀ d ts,NE (fstm k d ts))∧(∀ d ts,NE (fblk k d ts))∧(∀ d l ts,NE (fsts k d l ts))
 | 0=>⟨fun _ _=>by rw [fstm]; exact .err (by decide),fun _ _=>by rw [fblk]; exact .err (by decide),fun _ _ _=>by rw [fsts]; exact .err (by decide)⟩
 | k + 1=>by
  obtain ⟨i1,i2,i3⟩:=ne_stm k;refine ⟨fun d ts=>?_,fun d ts=>?_,fun d l ts=>?_⟩
  ·by_cases hb:begS (hd ts)=true
   rotate_left
   ·rw [fstm,if_neg hb];exact .err (by decide)
   by_cases h8:8 < d
   ·rw [fstm,if_pos hb,if_pos h8];exact .err (by decide)
   rw [fstm_pos hb h8];refine .ite ((ne_decl _).qb fun x r=>.ok) (.ite ((ne_qx _).qb fun x r=>(i2 _ _).qb fun b r2=>.ite ((i2 _ _).qb fun e r3=>.ok) .ok) (.ite ((ne_qx _).qb fun x r=>(i2 _ _).qb fun b r2=>.ok) ?_));refine .ite ((i2 _ _).qb fun b r=>(ne_catch _).qb fun _ r1=>(ne_name _).qb fun n r2=>(i2 _ _).qb fun e r3=>.ok) ?_;exact .ite ((ne_val _ _).qb fun x r=>(ne_need _ _).qb fun _ r2=>.ok) (.ite ((ne_val _ _).qb fun x r=>(ne_need _ _).qb fun _ r2=>.ok) (.ite ((ne_val _ _).qb fun x r=>(ne_need _ _).qb fun _ r2=>.ok) ((ne_eff _).qb fun x r=>(ne_need _ _).qb fun _ r2=>.ok)))
  ·rw [fblk];exact (ne_need _ _).qb fun _ r=>i3 _ _ _
  ·rw [fsts];exact .ite .ok ((i1 d ts).qb fun s r=>i3 _ _ _)
theorem ne_more:∀ (k:Nat) (l:Names) (ts:List Tk),NE (fmore k l ts)
 | 0,l,ts=>by rw [fmore]; exact .err (by decide)
 | k + 1,l,ts=>by
  rw [fmore_eq];exact .ite ((ne_name _).qb fun n r=>ne_more k _ r) .ok
theorem ne_names (ts:List Tk):NE (fnames ts):=by
 rw [fnames_eq];exact (ne_name ts).qb fun n r=>ne_more _ _ r
theorem ne_record (ts:List Tk):NE (frecord ts):=by
 unfold frecord;exact (ne_name ts).qb fun n r=>(ne_need _ _).qb fun _ r2=>(ne_names _).qb fun l r3=>(ne_need _ _).qb fun _ r4=>.ok
theorem ne_func (ts:List Tk):NE (ffunc ts):=by
 unfold ffunc fpar;exact (ne_name _).qb fun n r1=>(ne_need _ _).qb fun _ r2=>NE.qb (.ite .ok (ne_names _)) fun ps r3=>(ne_need _ _).qb fun _ r4=>((ne_stm _).2.1 _ _).qb fun b r5=>.ok
theorem ne_recs:∀ (k:Nat) (l:List Rec) (ts:List Tk),NE (frecs k l ts)
 | 0,l,ts=>by rw [frecs]; exact .err (by decide)
 | k + 1,l,ts=>by
  rw [frecs];exact .ite ((ne_record _).qb fun n r=>ne_recs k _ r) .ok
theorem ne_funs:∀ (k:Nat) (l:List Fn) (ts:List Tk),NE (ffuns k l ts)
 | 0,l,ts=>by rw [ffuns]; exact .err (by decide)
 | k + 1,l,ts=>by
  rw [ffuns];exact .ite ((ne_func _).qb fun n r=>ne_funs k _ r) .ok
theorem pparse_ne {s:List UInt8} {l e:Nat} (h:pparse s=.error (l,e)):e≠0:=by
 by_cases he:(scan s).2.2=0
 ·rw [pparse_of he] at h;have hn:NE (fprog (scan s).1):=by
   unfold fprog;exact (ne_recs _ _ _).qb fun R r=>(ne_funs _ _ _).qb fun F r2=>.ite .ok (.err (by decide))
  rcases hf:fprog (scan s).1 with ⟨e',t⟩|⟨p,t⟩
  ·rw [hf] at h hn;cases h;exact hn _ _ rfl
  ·rw [hf] at h;cases h
 ·rw [pparse_err he] at h;cases h;exact he
end Go.Proofs
namespace Go.Proofs
open Go.AM
attribute [local irreducible] AWP AOps AAny ACalls
theorem rstm_all {ts:List Tk} (H:RdT ts):∀ K,RsOk ts K∧RbOk ts K
 | 0=>⟨fun k hk d a o st _ ha _ h=>by omega,fun k hk d a o st _ ha h=>by omega⟩
 | K + 1=>⟨rstm_step H (rstm_all H K).2,rblock_step H (rstm_all H K).1⟩
def VG (v:AV) (p:Prg):Prop:=v=.agg (pgRow p)
theorem Rm.fwd {α β:Type} {ts:List Tk} {r:QR α} {R:QR β} {f:α→List Tk→QR β} {x:α} {a ln e:Nat} (h:Rm ts r x a ln e) (hR:R=qb r f) :
  (e=0∧ln=0∧R=f x (ts.drop a)∧r=.ok (x,ts.drop a))∨((e=5∨e=7)∧∃ t,R=.error (e,t)∧ln=(hd t).line):=by
 rcases h with ⟨h1,h2,h3⟩|⟨h1,t,h3,h4⟩
 ·exact .inl ⟨h1,h2,by rw [hR,qb_ok h3],h3⟩
 ·exact .inr ⟨h1,t,by rw [hR,qb_err h3],h4⟩
theorem frecord_qp (ts:List Tk):frecord ts=qb (qp (qp (qp (fname ts) (fneed [123])) fnames) (fneed [125])) fun p r=>.ok (⟨p.1.1.1,p.1.2⟩,r):=by
 simp only [qp,qb_qb,qb_ret,frecord]
theorem tok2_ne {st:St} {tk tk2 tk':Nat} (h:((st.addTok tk).addTok tk2).tok tk'=false):tk'≠tk∧tk'≠tk2∧st.tok tk'=false:=by
 simp only [St.addTok] at h;split at h
 ·cases h
 ·split at h
  ·cases h
  ·exact ⟨by assumption,by assumption,h⟩
theorem ffunc_qp {l l':List Tk} {t:Tk} (h1:hd l=t) (h2:l.tail=l'):ffunc l=qb (qp (qp (qp (qp (fname l') (fneed [40])) fpar) (fneed [41])) fun r4=>fblk (3 * r4.length + 1) 1 r4) fun p r5=>.ok (⟨t.line,p.1.1.1.1,p.1.1.2,p.2,(ahead l r5).line⟩,r5):=by
 subst h1;subst h2;simp only [qp,qb_qb,qb_ret,ffunc]
theorem rblock_f {α:Type} {ts:List Tk} (H:RdT ts) {r:QR α} {x:α} {a ln e o:Nat} {st:St} (hm:Rm ts r x a ln e) (ha:a < ts.length) (ho:st.obj o=some (rsC (ts.map tokRow) a ln e)) :
  ACalls Tryz.prog 53 [.cptr o 4 0 0,.int .i64 1] st (RbR ts o st r x fun r4=>fblk (3 * r4.length + 1) 1 r4) (fun _ _=>False):=by
 refine Go.Proofs.ACalls.toQ (rblock_u (rstm_all H (3 * (ts.drop a).length + 1)).2 hm (Nat.le_refl _) (by decide:1≤9) ha (fun _=>by rw [List.length_drop]; omega) ho) fun v st' ⟨l,ln',a',lnn,e',tk,h1,h2,h3,h4,h5,h6,h7⟩=>⟨l,ln',a',lnn,e',tk,h1,h2,h3,h4,h5,?_,h7⟩;have e1:qp r (fun r4=>fblk (3 * r4.length + 1) 1 r4)=qp r (fblk (3 * (ts.drop a).length + 1) 1):=by
  unfold qp;rcases hm with ⟨_,_,q⟩|⟨_,t,q,_⟩
  ·rw [qb_ok q,qb_ok q]
  ·rw [qb_err q,qb_err q]
 rw [e1];exact h6
theorem fnRow_le2 {f:Fn} {s:Nat} {rows:List (List AV)} {tk:Go.AM.Tok} (h:Le (.view s rows tk) (.view 1 (nrow f.params) .shared)) :
  Le (.agg [.str f.name,.int .i64 (f.line:Int),.view s rows tk,.view 13 (spRows (f.body++[endSp f.stop])) .shared]) (.agg (fnRow f)):=by
 refine .agg _ _ rfl (fun x hx=>by simp only [fnRow,List.mem_cons,List.not_mem_nil,or_false] at hx; rcases hx with rfl|rfl|rfl|rfl <;> rfl) fun i x y h1 h2=>?_
 match i,h1,h2 with
 | 0,h1,h2=>cases h1; cases h2; exact .refl _
 | 1,h1,h2=>cases h1; cases h2; exact .refl _
 | 2,h1,h2=>cases h1; cases h2; exact h
 | 3,h1,h2=>cases h1; cases h2; exact .refl _
 | n + 4,h1,_=>cases h1
theorem pg_le (R F:List (List AV)) (t1 t2:Go.AM.Tok):Le (.agg [.view 2 R t1,.view 4 F t2]) (.agg [.view 2 R .shared,.view 4 F .shared]):=by
 refine .agg _ _ rfl (fun x hx=>by simp only [List.mem_cons,List.not_mem_nil,or_false] at hx; rcases hx with rfl|rfl <;> rfl) fun i x y h1 h2=>?_
 match i,h1,h2 with
 | 0,h1,h2=>cases h1; cases h2; exact .shared _ _ _
 | 1,h1,h2=>cases h1; cases h2; exact .shared _ _ _
 | n + 2,h1,_=>cases h1
set_option maxHeartbeats 4000000 in
theorem rprogram_ok {ts:List Tk} (H:RdT ts) (h0:0 < ts.length) {o:Nat} {st:St} (ho:st.obj o=some (rsC (ts.map tokRow) 0 0 0)) :
  ACalls Tryz.prog 28 [.cptr o 4 0 0] st (RfR ts o st VG (fprog ts)) (fun _ _=>False):=by
 refine ACalls.inSet ho (ACalls.ofBody Tryz.func28 rfl Tryz.ntmps28 rfl ?_);have hlen:=H.len;refine goC ?_;refine rg ?_;refine al rfl rfl fun o2 h2=>?_
 replace h2:=none_set h2
 refine goC ?_;refine rg ?_;refine al rfl rfl fun o3 h3=>?_
 replace h3:=none_set2 h3
 refine nl ?_;have n32:o3≠o2:=Ne.symm (set_ne_new (h3 ob0 ob0))
 have n30:o3≠o:=Ne.symm (ne_inner (h3 ob0 ob0));refine AWP.weaken (T':=[(3,.cptr o3 2 0 0),(2,.cptr o2 2 0 0),(0,.cptr o 4 0 0)]) (st':=((st.set o (rsC (ts.map tokRow) 0 0 0)).set o2 (pgC nilV nilV)).set o3 (pgC nilV nilV)) (tl3 rfl rfl rfl) (.refl _) ?_;refine AWP.nilIn (o:=o3) (i:=0) (j:=0) (row:=[nilV,nilV]) 60 2 (St.obj_set _ _ _) rfl rfl fun tk htk=>?_;rw [show ∀ a b c e,((((st.set o a).set o2 b).set o3 c).addTok tk).set o3 e=((((st.addTok tk).set o a).set o2 b).set o3 c).set o3 e from fun _ _ _ _=>rfl,St.set_set];refine AWP.nilIn (o:=o3) (i:=0) (j:=1) (row:=[.view 2 [] (.own tk 60),nilV]) 36 4 (St.obj_set _ _ _) rfl rfl fun tk2 htk2=>?_;rw [show ∀ a b c e,(((((st.addTok tk).set o a).set o2 b).set o3 c).addTok tk2).set o3 e=(((((st.addTok tk).addTok tk2).set o a).set o2 b).set o3 c).set o3 e from fun _ _ _ _=>rfl,St.set_set]
 replace htk2:(st.addTok tk).tok tk2=false:=htk2
 replace htk:st.tok tk=false:=htk
 have hG:fprog ts=qb (frecs (ts.length + 1) [] ts) fun R r=>qb (ffuns (r.length + 1) [] r) fun F r2=>if (hd r2).kind=0 then .ok ((R,F),r2) else .error (7,r2):=rfl
 generalize hGG:fprog ts=G at hG ⊢;refine AWP.seq ?_;refine AWP.cutK (α:=List Rec × Nat × Nat × Nat × Nat) (fun _=>[(3,.cptr o3 2 0 0),(2,.cptr o2 2 0 0),(0,.cptr o 4 0 0)])
  (fun y=>((((st.addTok y.2.2.2.2).addTok tk2).set o (rsC (ts.map tokRow) y.2.1 y.2.2.1 y.2.2.2.1)).set o2 (pgC nilV nilV)).set o3 (pgC (.view 2 (y.1.map recRow) (.own y.2.2.2.2 60)) (.view 4 [] (.own tk2 36))))
  (fun y=>y.2.1 < ts.length∧st.tok y.2.2.2.2=false∧(st.addTok y.2.2.2.2).tok tk2=false∧((y.2.2.2.1=0∧y.2.2.1=0∧G=qb (ffuns ((ts.drop y.2.1).length + 1) [] (ts.drop y.2.1)) fun F r2=>if (hd r2).kind=0 then .ok ((y.1,F),r2) else .error (7,r2))∨((y.2.2.2.1=5∨y.2.2.2.1=7)∧∃ t,G=.error (y.2.2.2.1,t)∧y.2.2.1=(hd t).line))) ?_ ?_
 ·refine AWP.block ?_;refine AWP.loop (α:=List Rec × Nat × Nat × Nat × Nat × Nat) (fun _=>[(3,.cptr o3 2 0 0),(2,.cptr o2 2 0 0),(0,.cptr o 4 0 0)])
   (fun y=>((((st.addTok y.2.2.2.2.1).addTok tk2).set o (rsC (ts.map tokRow) y.2.1 y.2.2.1 y.2.2.2.1)).set o2 (pgC nilV nilV)).set o3 (pgC (.view 2 (y.1.map recRow) (.own y.2.2.2.2.1 60)) (.view 4 [] (.own tk2 36))))
   (fun y=>y.2.1 < ts.length∧st.tok y.2.2.2.2.1=false∧(st.addTok y.2.2.2.2.1).tok tk2=false∧y.1.length≤ts.length + 1∧((y.2.2.2.1=0∧y.2.2.1=0∧y.1.length≤y.2.1∧(ts.drop y.2.1).length < y.2.2.2.2.2∧G=qb (frecs y.2.2.2.2.2 y.1 (ts.drop y.2.1)) fun R r=>qb (ffuns (r.length + 1) [] r) fun F r2=>if (hd r2).kind=0 then .ok ((R,F),r2) else .error (7,r2))∨((y.2.2.2.1=5∨y.2.2.2.1=7)∧∃ t,G=.error (y.2.2.2.1,t)∧y.2.2.1=(hd t).line)))
   (fun y=>if y.2.2.2.1=0 then ts.length - y.2.1 + 1 else 0) ([],0,0,0,tk,ts.length + 1) ⟨h0,htk,htk2,Nat.zero_le _,.inl ⟨rfl,rfl,Nat.le_refl _,by simp,hG⟩⟩ (tl3 rfl rfl rfl) (.refl _) ?_
  clear htk htk2 tk;rintro ⟨R,b,ln,e,tk,fu⟩ ⟨hb,htk,htk2,hRl,hI⟩;simp only at hb htk htk2 hRl hI;refine AWP.weaken (T':=[(3,.cptr o3 2 0 0),(2,.cptr o2 2 0 0),(0,.cptr o 4 0 0)]) (st':=((((st.addTok tk).addTok tk2).set o (rsC (ts.map tokRow) b ln e)).set o2 (pgC nilV nilV)).set o3 (pgC (.view 2 (R.map recRow) (.own tk 60)) (.view 4 [] (.own tk2 36)))) (tl3 rfl rfl rfl) (.refl _) ?_;obtain ⟨B,hBB⟩:∃ B,B=(st.addTok tk).addTok tk2:=⟨_,rfl⟩;have h2B:∀ r,(B.set o r).obj o2=none:=fun r=>by rw [hBB]; exact h2 r
  have h3B:∀ r z,((B.set o r).set o2 z).obj o3=none:=fun r z=>by rw [hBB]; exact h3 r z
  have htkB:B.tok tk=true:=by
   rw [hBB];simp only [St.addTok];split
   ·rfl
   ·simp
  rw [← hBB];have hM:(((B.set o (rsC (ts.map tokRow) b ln e)).set o2 (pgC nilV nilV)).set o3 (pgC (.view 2 (R.map recRow) (.own tk 60)) (.view 4 [] (.own tk2 36)))).obj o=some (.cells 69 4 [[.view 4 (ts.map tokRow) .shared,.int .i64 (b:Int),.int .i64 (ln:Int),.int .i64 (e:Int)]]):=obj2 h2B h3B _ _ _;rcases hI with ⟨rfl,rfl,hRb,hfu,hI⟩|⟨he,u,k3,k4⟩
  ·obtain ⟨t,A⟩:=at_of H hb;obtain ⟨fu,rfl⟩:∃ f,fu=f + 1:=⟨fu - 1,by omega⟩;rw [frecs,A.hd_,A.tl] at hI;refine goD ?_;cases c1:wk t wRecord with
   | false =>
    rw [if_neg (by rw [← wk_kw A.ok rfl,c1]; decide),qb_ok rfl] at hI;refine cle rfl rfl (A.is (obj2 h2B h3B _ _ _) wRecord false c1) ?_;refine goD ?_;refine AWP.exit (blk_hit ?_);exact ⟨(R,b,0,0,tk),⟨hb,htk,htk2,.inl ⟨rfl,rfl,hI⟩⟩,(tl3 rfl rfl rfl),by rw [hBB]; exact .refl _⟩
   | true =>
    rw [if_pos (by rw [← wk_kw A.ok rfl]; exact c1)] at hI;have hb1:=A.more (wk_kind c1);refine cle rfl rfl (A.is (obj2 h2B h3B _ _ _) wRecord true c1) ?_;refine goD ?_;refine so (rows':=[[.view 4 (ts.map tokRow) .shared,.int .i64 ((b + 1:Nat):Int),.int .i64 0,.int .i64 0]]) rfl rfl rfl hM rfl rfl rfl rfl rfl ?_;rw [push2 h2B h3B];refine goD ?_;refine cl rfl rfl (rname_ok H (obj2 h2B h3B _ _ _) hb1) fun v st' ⟨n,c,ln,e,hv,hc,hst,hr⟩=>?_;subst hv;subst hst;rw [push2 h2B h3B]
    skip
    refine bds (cs:=[.str n,nilV]) rfl rfl rfl rfl ?_;refine al rfl rfl fun o4 h4=>?_
    replace h4:=none_set3 h4
    refine soV rfl rfl rfl rfl rfl rfl ?_;refine goD ?_;refine cl rfl rfl (rtake_u H hr hc (obj3 h2B h3B h4 _ _ _ _) [123] rfl) fun v st' ⟨_,c,ln,e,_,hc,hst,hr⟩=>?_;subst hst;rw [push3 h2B h3B h4];refine goD ?_;refine cl rfl rfl (rnames_u H hr hc (obj3 h2B h3B h4 _ _ _ _)) fun v st' ⟨l,c,ln,e,hv,hc,hst,hr⟩=>?_;subst hv;subst hst;rw [push3 h2B h3B h4];refine goD ?_;refine so1 (row':=[.str n,.view 1 (nrow l) .shared]) rfl rfl rfl rfl rfl (by exact Nat.le_of_ble_eq_true rfl) rfl ?_;refine goD ?_;refine cl rfl rfl (rtake_u H hr hc (obj3 h2B h3B h4 _ _ _ _) [125] rfl) fun v st' ⟨_,c,ln,e,_,hc,hst,hr⟩=>?_;subst hst;rw [push3 h2B h3B h4];have n43:o4≠o3:=Ne.symm (set_ne_new (h4 ob0 ob0 ob0))
    have hO3:((((B.set o (rsC (ts.map tokRow) c ln e)).set o2 (pgC nilV nilV)).set o3 (pgC (.view 2 (R.map recRow) (.own tk 60)) (.view 4 [] (.own tk2 36)))).set o4 (.cells 60 2 [[.str n,.view 1 (nrow l) .shared]])).obj o3=some (.cells 28 2 [[.view 2 (R.map recRow) (.own tk 60),.view 4 [] (.own tk2 36)]]):=St.obj_under n43 _ _;refine goD ?_;refine ap rfl rfl rfl htkB rfl (by simp only [List.length_cons,List.length_nil,List.length_map]; omega) (by simp only [List.length_cons,List.length_nil,List.length_map,maxLen]; omega) fun tk' htk'=>?_;have hm:R.map recRow++[(AV.agg [.str n,.view 1 (nrow l) .shared]).cells]=(R++[(⟨n,l⟩:Rec)]).map recRow:=by rw [List.map_append]; rfl
    rw [hm];refine goE ?_;refine so (rows':=[[.view 2 ((R++[(⟨n,l⟩:Rec)]).map recRow) (.own tk' 60),.view 4 [] (.own tk2 36)]]) rfl rfl rfl hO3 rfl rfl rfl rfl rfl ?_;refine nl ?_;obtain ⟨u1,u2,u3⟩:=tok2_ne (st:=st) (tk:=tk) (tk2:=tk2) (tk':=tk') (by rw [hBB] at htk'; exact htk');have hrec:=hr.map fun p=>(⟨p.1.1.1,p.1.2⟩:Rec);rw [← frecord_qp] at hrec;have hfw:=hrec.fwd (R:=G) (f:=fun x r=>qb (frecs fu (R++[x]) r) fun R r=>qb (ffuns (r.length + 1) [] r) fun F r2=>if (hd r2).kind=0 then .ok ((R,F),r2) else .error (7,r2)) (by rw [hI,qb_qb]);refine ⟨(R++[⟨n,l⟩],c,ln,e,tk',fu),⟨hc,u3,?_,by simp only [List.length_append,List.length_cons,List.length_nil]; omega,?_⟩,?_,(tl3 rfl rfl rfl),?_⟩
    ·simp only [St.addTok] at htk2 ⊢;rw [if_neg (Ne.symm u2)];split at htk2
     ·cases htk2
     ·exact htk2
    ·simp only;rcases hfw with ⟨q1,q2,q3,q4⟩|hq
     ·have hcl:=frecord_l1 _ _ _ q4;simp only [List.length_drop] at hcl hfu ⊢;exact .inl ⟨q1,q2,by simp only [List.length_append,List.length_cons,List.length_nil]; omega,by omega,by simp only at q3; exact q3⟩
     ·exact .inr hq
    ·simp only [if_pos];rcases hfw with ⟨q1,q2,q3,q4⟩|⟨q1,_⟩
     ·have hcl:=frecord_l1 _ _ _ q4;simp only [List.length_drop] at hcl;rw [if_pos q1];omega
     ·rw [if_neg (by omega)];omega
    ·subst hBB;show StLe (((((((((st.addTok tk).addTok tk2).untok tk).addTok tk').set o _).set o2 _).set o3 _).set o4 _).set o3 _) _;rw [St.set_comm _ n43,St.set_set];refine StLe.new (h4 _ _ _) ?_;exact StLe.set _ _ (StLe.set _ _ (StLe.set _ _ (re2 htk htk2)))
  ·have he0:¬ (e:Int)=0:=by omega
   refine goD ?_;refine AWP.exit (blk_hit ?_);exact ⟨(R,b,ln,e,tk),⟨hb,htk,htk2,.inr ⟨he,u,k3,k4⟩⟩,(tl3 rfl rfl rfl),by rw [hBB]; exact .refl _⟩
 clear htk htk2 tk hG;rintro ⟨R,b0,ln0,e0,tk⟩ ⟨hb0,htk,htk20,hI0⟩;simp only at hb0 htk htk20 hI0;refine AWP.seq ?_;refine AWP.cutK (α:=List Fn × Nat × Nat × Nat × Nat) (fun _=>[(3,.cptr o3 2 0 0),(2,.cptr o2 2 0 0),(0,.cptr o 4 0 0)])
  (fun y=>((((st.addTok tk).addTok y.2.2.2.2).set o (rsC (ts.map tokRow) y.2.1 y.2.2.1 y.2.2.2.1)).set o2 (pgC nilV nilV)).set o3 (pgC (.view 2 (R.map recRow) (.own tk 60)) (.view 4 (y.1.map fnRow) (.own y.2.2.2.2 36))))
  (fun y=>y.2.1 < ts.length∧((y.2.2.2.1=0∧y.2.2.1=0∧G=if (hd (ts.drop y.2.1)).kind=0 then .ok ((R,y.1),ts.drop y.2.1) else .error (7,ts.drop y.2.1))∨((y.2.2.2.1=5∨y.2.2.2.1=7)∧∃ t,G=.error (y.2.2.2.1,t)∧y.2.2.1=(hd t).line))) ?_ ?_
 ·refine AWP.block ?_;refine AWP.loop (α:=List Fn × Nat × Nat × Nat × Nat × Nat) (fun _=>[(3,.cptr o3 2 0 0),(2,.cptr o2 2 0 0),(0,.cptr o 4 0 0)])
   (fun y=>((((st.addTok tk).addTok y.2.2.2.2.1).set o (rsC (ts.map tokRow) y.2.1 y.2.2.1 y.2.2.2.1)).set o2 (pgC nilV nilV)).set o3 (pgC (.view 2 (R.map recRow) (.own tk 60)) (.view 4 (y.1.map fnRow) (.own y.2.2.2.2.1 36))))
   (fun y=>y.2.1 < ts.length∧(st.addTok tk).tok y.2.2.2.2.1=false∧y.1.length≤ts.length + 1∧((y.2.2.2.1=0∧y.2.2.1=0∧y.1.length≤y.2.1∧(ts.drop y.2.1).length < y.2.2.2.2.2∧G=qb (ffuns y.2.2.2.2.2 y.1 (ts.drop y.2.1)) fun F r2=>if (hd r2).kind=0 then .ok ((R,F),r2) else .error (7,r2))∨((y.2.2.2.1=5∨y.2.2.2.1=7)∧∃ t,G=.error (y.2.2.2.1,t)∧y.2.2.1=(hd t).line)))
   (fun y=>if y.2.2.2.1=0 then ts.length - y.2.1 + 1 else 0) ([],b0,ln0,e0,tk2,(ts.drop b0).length + 1) ⟨hb0,htk20,Nat.zero_le _,?_⟩ (tl3 rfl rfl rfl) (.refl _) ?_
  ·rcases hI0 with ⟨q1,q2,q3⟩|hq
   ·exact .inl ⟨q1,q2,Nat.zero_le _,by simp only; omega,q3⟩
   ·exact .inr hq
  clear htk20 hI0 hb0 tk2;rintro ⟨F,b,ln,e,tk2,fu⟩ ⟨hb,htk2,hFl,hI⟩;simp only at hb htk2 hFl hI;refine AWP.weaken (T':=[(3,.cptr o3 2 0 0),(2,.cptr o2 2 0 0),(0,.cptr o 4 0 0)]) (st':=((((st.addTok tk).addTok tk2).set o (rsC (ts.map tokRow) b ln e)).set o2 (pgC nilV nilV)).set o3 (pgC (.view 2 (R.map recRow) (.own tk 60)) (.view 4 (F.map fnRow) (.own tk2 36)))) (tl3 rfl rfl rfl) (.refl _) ?_;obtain ⟨B,hBB⟩:∃ B,B=(st.addTok tk).addTok tk2:=⟨_,rfl⟩;have h2B:∀ r,(B.set o r).obj o2=none:=fun r=>by rw [hBB]; exact h2 r
  have h3B:∀ r z,((B.set o r).set o2 z).obj o3=none:=fun r z=>by rw [hBB]; exact h3 r z
  have htkB:B.tok tk2=true:=by rw [hBB]; exact St.tok_addTok _ _
  rw [← hBB];obtain ⟨PG,hPG⟩:∃ PG,PG=pgC (.view 2 (R.map recRow) (.own tk 60)) (.view 4 (F.map fnRow) (.own tk2 36)):=⟨_,rfl⟩;rw [← hPG];have hM:(((B.set o (rsC (ts.map tokRow) b ln e)).set o2 (pgC nilV nilV)).set o3 PG).obj o=some (.cells 69 4 [[.view 4 (ts.map tokRow) .shared,.int .i64 (b:Int),.int .i64 (ln:Int),.int .i64 (e:Int)]]):=obj2 h2B h3B _ _ _;rcases hI with ⟨rfl,rfl,hRb,hfu,hI⟩|⟨he,u,k3,k4⟩
  ·obtain ⟨t,A⟩:=at_of H hb;obtain ⟨fu,rfl⟩:∃ f,fu=f + 1:=⟨fu - 1,by omega⟩;rw [ffuns,A.hd_] at hI;refine goD ?_;cases c1:wk t wFunc with
   | false =>
    rw [if_neg (by rw [← wk_kw A.ok rfl,c1]; decide),qb_ok rfl] at hI;refine cle rfl rfl (A.is (obj2 h2B h3B _ _ _) wFunc false c1) ?_;refine goD ?_;refine AWP.exit (blk_hit ?_);exact ⟨(F,b,0,0,tk2),⟨hb,.inl ⟨rfl,rfl,hI⟩⟩,(tl3 rfl rfl rfl),by rw [hBB,hPG]; exact .refl _⟩
   | true =>
    rw [if_pos (by rw [← wk_kw A.ok rfl]; exact c1)] at hI;have hb1:=A.more (wk_kind c1)
    have hqf:=ffunc_qp A.hd_ A.tl;refine cle rfl rfl (A.is (obj2 h2B h3B _ _ _) wFunc true c1) ?_;refine goD ?_;obtain ⟨t',w1,w2,w3,w4,w5⟩:=map_at hb;have hw:=A.at_;rw [w1] at hw;cases hw;refine AWP.draw rfl 13 12 (fun v s=>∃ o4,v=.cptr o4 4 0 0∧(((B.set o (rsC (ts.map tokRow) b 0 0)).set o2 (pgC nilV nilV)).set o3 PG).obj o4=none∧s=(((B.set o (rsC (ts.map tokRow) b 0 0)).set o2 (pgC nilV nilV)).set o3 PG).set o4 (fC [] 0 nilV nilV)) rfl ?_;refine goF ?_;refine dp (h:=fun _ _=>bds (cs:=[.str [],.int .i64 (t.line:Int),nilV,nilV]) rfl rfl rfl rfl nz) (z:=?_);refine de rfl rfl rfl ?_ ?_
    ·exact al rfl rfl fun o4 h4=>nl ⟨_,rfl,⟨o4,rfl,h4,rfl⟩,⟨fun x c hx=>St.obj_new h4 hx,fun _ h=>(by cases h),rfl⟩⟩
    refine dn ⟨fun h=>absurd h (by decide),fun _=>?_⟩;rintro v s1 d7 hd7 ⟨o4,rfl,h4,rfl⟩;cases hd7
    replace h4:=none_set3 h4
    have n43:o4≠o3:=Ne.symm (set_ne_new (h4 ob0 ob0 ob0));refine soV rfl rfl rfl rfl rfl rfl ?_;have hM1:((((B.set o (rsC (ts.map tokRow) b 0 0)).set o2 (pgC nilV nilV)).set o3 PG).set o4 (.cells 36 4 [[.str [],.int .i64 (t.line:Int),nilV,nilV]])).obj o=some (.cells 69 4 [[.view 4 (ts.map tokRow) .shared,.int .i64 (b:Int),.int .i64 0,.int .i64 0]]):=obj3 h2B h3B h4 _ _ _ _;refine goD ?_;refine so (rows':=[[.view 4 (ts.map tokRow) .shared,.int .i64 ((b + 1:Nat):Int),.int .i64 0,.int .i64 0]]) rfl rfl rfl hM1 rfl rfl rfl rfl rfl ?_;rw [push3 h2B h3B h4];refine goD ?_;refine cl rfl rfl (rname_ok H (obj3 h2B h3B h4 _ _ _ _) hb1) fun v st' ⟨n,c,ln,e,hv,hc,hst,hr⟩=>?_;subst hv;subst hst;rw [push3 h2B h3B h4];refine goD ?_;refine so1 (row':=[.str n,.int .i64 (t.line:Int),nilV,nilV]) rfl rfl rfl rfl rfl (by exact Nat.le_of_ble_eq_true rfl) rfl ?_;refine goD ?_;refine cl rfl rfl (rtake_u H hr hc (obj3 h2B h3B h4 _ _ _ _) [40] rfl) fun v st' ⟨_,c,ln,e,_,hc,hst,hr⟩=>?_;subst hst;rw [push3 h2B h3B h4];refine nl ?_;refine AWP.weaken (T':=[(5,.cptr o4 4 0 0),(3,.cptr o3 2 0 0),(2,.cptr o2 2 0 0),(0,.cptr o 4 0 0)]) (st':=(((B.set o (rsC (ts.map tokRow) c ln e)).set o2 (pgC nilV nilV)).set o3 PG).set o4 (fC n t.line nilV nilV)) (tl4 rfl rfl rfl rfl) (.refl _) ?_;refine AWP.seq ?_;refine AWP.cutK (α:=Nat × List (List AV) × Go.AM.Tok × Names × Nat × Nat × Nat) (fun _=>[(5,.cptr o4 4 0 0),(3,.cptr o3 2 0 0),(2,.cptr o2 2 0 0),(0,.cptr o 4 0 0)]) (fun y=>(((B.set o (rsC (ts.map tokRow) y.2.2.2.2.1 y.2.2.2.2.2.1 y.2.2.2.2.2.2)).set o2 (pgC nilV nilV)).set o3 PG).set o4 (fC n t.line (.view y.1 y.2.1 y.2.2.1) nilV))
     (fun y=>y.2.2.2.2.1 < ts.length∧Le (.view y.1 y.2.1 y.2.2.1) (.view 1 (nrow y.2.2.2.1) .shared)∧Rm ts (qp (qp (fname (ts.drop (b + 1))) (fneed [40])) fpar) ((n,()),y.2.2.2.1) y.2.2.2.2.1 y.2.2.2.2.2.1 y.2.2.2.2.2.2) ?_ ?_
    ·have hM2:((((B.set o (rsC (ts.map tokRow) c ln e)).set o2 (pgC nilV nilV)).set o3 PG).set o4 (fC n t.line nilV nilV)).obj o=some (.cells 69 4 [[.view 4 (ts.map tokRow) .shared,.int .i64 (c:Int),.int .i64 (ln:Int),.int .i64 (e:Int)]]):=obj3 h2B h3B h4 _ _ _ _;rcases hr with ⟨rfl,rfl,q3⟩|⟨q1,z,q3,q4⟩
     ·obtain ⟨u,D⟩:=at_of H hc;have e1:qp (qp (fname (ts.drop (b + 1))) (fneed [40])) fpar=qb (if sg u [41] then .ok ([],ts.drop c) else fnames (ts.drop c)) fun y t'=>.ok (((n,()),y),t'):=by
       rw [q3,qp,qb_ok rfl,fpar,D.hd_]
      refine goD ?_;cases c2:wk u [41] with
      | true =>
       rw [if_pos (by rw [← wk_sg D.ok rfl]; exact c2)] at e1;refine cle rfl rfl (D.is (obj3 h2B h3B h4 _ _ _ _) [41] true c2) ?_;refine goD ?_;exact ⟨(0,[],.nil,[],c,0,0),⟨hc,.nilShared _ _,.ok e1⟩,(tl4 rfl rfl rfl rfl),.refl _⟩
      | false =>
       rw [if_neg (by rw [← wk_sg D.ok rfl,c2]; decide)] at e1;refine cle rfl rfl (D.is (obj3 h2B h3B h4 _ _ _ _) [41] false c2) ?_;refine goD ?_;refine cl rfl rfl (rnames_ok H (obj3 h2B h3B h4 _ _ _ _) hc) fun v st' ⟨l,c,ln,e,hv,hc,hst,hr⟩=>?_;subst hv;subst hst;rw [push3 h2B h3B h4];unfold fC;refine goE ?_;refine so1 (row':=[.str n,.int .i64 (t.line:Int),.view 1 (nrow l) .shared,nilV]) rfl rfl rfl rfl rfl (by exact Nat.le_of_ble_eq_true rfl) rfl ?_;refine nl ⟨(1,nrow l,.shared,l,c,ln,e),⟨hc,.refl _,by rw [e1]; exact hr.map _⟩,(tl4 rfl rfl rfl rfl),.refl _⟩
     ·have q0:¬ (e:Int)=0:=by omega
      refine goD ?_;exact ⟨(0,[],.nil,[],c,ln,e),⟨hc,.nilShared _ _,.inr ⟨q1,z,by rw [qp,qb_err q3],q4⟩⟩,(tl4 rfl rfl rfl rfl),.refl _⟩
    clear hr hc;rintro ⟨sz,rows,tkp,ps,c,ln,e⟩ ⟨hc,hps,hr⟩;simp only at hc hps hr;show AWP _ _ _ _ _ _ ((((B.set o (rsC (ts.map tokRow) c ln e)).set o2 (pgC nilV nilV)).set o3 PG).set o4 (.cells 36 4 [[.str n,.int .i64 (t.line:Int),.view sz rows tkp,nilV]]));refine goD ?_;refine cl rfl rfl (rtake_u H hr hc (obj3 h2B h3B h4 _ _ _ _) [41] rfl) fun v st' ⟨_,c,ln,e,_,hc,hst,hr⟩=>?_;subst hst;rw [push3 h2B h3B h4];refine goD ?_;refine cl rfl rfl (rblock_f H hr hc (obj3 h2B h3B h4 _ _ _ _)) fun v st' ⟨bd,le,c,ln,e,tk5,hv,hc,htk5,hst,hbl,hr,hle⟩=>?_;subst hv;subst hst;rw [push3 h2B h3B h4];refine goD ?_;refine bds (cs:=sRow 10 le [] [] 0 nilV [] nilV nilV nilV) rfl rfl rfl rfl ?_;refine bs1 (v:=.agg (sRow 10 le [] [] 0 nilV [] nilV nilV nilV)) rfl rfl rfl rfl rfl rfl ?_;refine ap rfl rfl rfl (St.tok_addTok _ tk5) rfl (by simp only [List.length_cons,List.length_nil,spRows_len]; omega) (by simp only [List.length_cons,List.length_nil,spRows_len,maxLen]; omega) fun tk6 htk6=>?_;refine AOps.weaken (T':=[(97,.view 13 (spRows (bd++[endSp le])) .shared),(5,.cptr o4 4 0 0),(3,.cptr o3 2 0 0),(2,.cptr o2 2 0 0),(0,.cptr o 4 0 0)]) (st':=(((B.set o (rsC (ts.map tokRow) c ln e)).set o2 (pgC nilV nilV)).set o3 PG).set o4 (.cells 36 4 [[.str n,.int .i64 (t.line:Int),.view sz rows tkp,nilV]])) (TLe.cons rfl (.trans _ _ _ (.shared _ _ _) (endRows_le bd le)) (tl4 rfl rfl rfl rfl)) ((StLe.reTok (st:=(((B.set o (rsC (ts.map tokRow) c ln e)).set o2 (pgC nilV nilV)).set o3 PG).set o4 (.cells 36 4 [[.str n,.int .i64 (t.line:Int),.view sz rows tkp,nilV]])) htk5 tk6).trans (StLe.addTok _ (.refl _))) ?_;refine goE ?_;refine so1 (row':=[.str n,.int .i64 (t.line:Int),.view sz rows tkp,.view 13 (spRows (bd++[endSp le])) .shared]) rfl rfl rfl rfl rfl (by exact Nat.le_of_ble_eq_true rfl) rfl ?_;have hO3:((((B.set o (rsC (ts.map tokRow) c ln e)).set o2 (pgC nilV nilV)).set o3 PG).set o4 (.cells 36 4 [[.str n,.int .i64 (t.line:Int),.view sz rows tkp,.view 13 (spRows (bd++[endSp le])) .shared]])).obj o3=some (.cells 28 2 [[.view 2 (R.map recRow) (.own tk 60),.view 4 (F.map fnRow) (.own tk2 36)]]):=by rw [hPG]; exact St.obj_under n43 _ _
    refine nl ?_;refine rg ?_;refine fa rfl rfl ?_;refine lc rfl rfl hO3 rfl rfl ?_;refine lcW rfl rfl rfl (St.obj_set _ _ _) rfl rfl ?_;refine AOps.weaken (T':=[(101,.agg (fnRow ⟨t.line,n,ps,bd,le⟩)),(100,.view 4 (F.map fnRow) (.own tk2 36)),(3,.cptr o3 2 0 0),(2,.cptr o2 2 0 0),(0,.cptr o 4 0 0)]) (TLe.cons rfl (fnRow_le2 (f:=⟨t.line,n,ps,bd,le⟩) hps) (tl4 rfl rfl rfl rfl)) (.refl _) ?_;refine bs1 (v:=.agg (fnRow ⟨t.line,n,ps,bd,le⟩)) rfl rfl rfl rfl rfl rfl ?_;refine ap rfl rfl rfl htkB rfl (by simp only [List.length_cons,List.length_nil,List.length_map]; omega) (by simp only [List.length_cons,List.length_nil,List.length_map,maxLen]; omega) fun tk' htk'=>?_;have hm:F.map fnRow++[(AV.agg (fnRow ⟨t.line,n,ps,bd,le⟩)).cells]=(F++[(⟨t.line,n,ps,bd,le⟩:Fn)]).map fnRow:=by rw [List.map_append]; rfl
    rw [hm];refine goE ?_;refine so (rows':=[[.view 2 (R.map recRow) (.own tk 60),.view 4 ((F++[(⟨t.line,n,ps,bd,le⟩:Fn)]).map fnRow) (.own tk' 36)]]) rfl rfl rfl hO3 rfl rfl rfl rfl rfl ?_;refine nl ?_;obtain ⟨u1,u2,u3⟩:=tok2_ne (st:=st) (tk:=tk) (tk2:=tk2) (tk':=tk') (by rw [hBB] at htk'; exact htk');have hfn:Rm ts (ffunc (ts.drop b)) ⟨t.line,n,ps,bd,le⟩ c ln e:=by
     refine hr.to (fun h=>?_) (fun z h=>by rw [hqf,qb_err h]);rw [hqf,qb_ok h];have h1:=ffunc_l1 (ts.drop b) _ _ (by rw [hqf,qb_ok h]);simp only [List.length_drop] at h1;have he:e=0:=by
      rcases hr with ⟨q,_⟩|⟨_,z,q,_⟩
      ·exact q
      ·rw [h] at q; cases q
     rw [ahead_at (by omega) (by omega),← (hle he).2]
    have hfw:=hfn.fwd (R:=G) (f:=fun x r=>qb (ffuns fu (F++[x]) r) fun F r2=>if (hd r2).kind=0 then .ok ((R,F),r2) else .error (7,r2)) (by rw [hI,qb_qb]);refine ⟨(F++[⟨t.line,n,ps,bd,le⟩],c,ln,e,tk',fu),⟨hc,?_,by simp only [List.length_append,List.length_cons,List.length_nil]; omega,?_⟩,?_,(tl3 rfl rfl rfl),?_⟩
    ·show (st.addTok tk).tok tk'=false;simp only [St.addTok];rw [if_neg u1];exact u3
    ·simp only;rcases hfw with ⟨q1,q2,q3,q4⟩|hq
     ·have hcl:=ffunc_l1 _ _ _ q4;simp only [List.length_drop] at hcl hfu ⊢;exact .inl ⟨q1,q2,by simp only [List.length_append,List.length_cons,List.length_nil]; omega,by omega,q3⟩
     ·exact .inr hq
    ·simp only [if_pos];rcases hfw with ⟨q1,q2,q3,q4⟩|⟨q1,_⟩
     ·have hcl:=ffunc_l1 _ _ _ q4;simp only [List.length_drop] at hcl;rw [if_pos q1];omega
     ·rw [if_neg (by omega)];omega
    ·subst hBB;show StLe (((((((((st.addTok tk).addTok tk2).untok tk2).addTok tk').set o _).set o2 _).set o3 _).set o4 _).set o3 _) _;rw [St.set_comm _ n43,St.set_set];refine StLe.new (h4 _ _ _) ?_;exact StLe.set _ _ (StLe.set _ _ (StLe.set _ _ (StLe.reTok (st:=st.addTok tk) htk2 tk')))
  ·have he0:¬ (e:Int)=0:=by omega
   refine goD ?_;refine AWP.exit (blk_hit ?_);exact ⟨(F,b,ln,e,tk2),⟨hb,.inr ⟨he,u,k3,k4⟩⟩,(tl3 rfl rfl rfl),by rw [hBB,hPG]; exact .refl _⟩
 rintro ⟨F,b,ln,e,tk2⟩ ⟨hb,hI⟩;simp only at hb hI;obtain ⟨B,hBB⟩:∃ B,B=(st.addTok tk).addTok tk2:=⟨_,rfl⟩;have h2B:∀ r,(B.set o r).obj o2=none:=fun r=>by rw [hBB]; exact h2 r
 have h3B:∀ r z,((B.set o r).set o2 z).obj o3=none:=fun r z=>by rw [hBB]; exact h3 r z
 have hBl:∀ r,StLe (B.set o r) (st.set o r):=fun r=>by rw [hBB]; show StLe (((st.set o r).addTok tk).addTok tk2) _; exact StLe.addTok _ (StLe.addTok _ (.refl _))
 show AWP _ _ _ _ _ _ ((((st.addTok tk).addTok tk2).set o (rsC (ts.map tokRow) b ln e)).set o2 (.cells 28 2 [[nilV,nilV]]) |>.set o3 (.cells 28 2 [[.view 2 (R.map recRow) (.own tk 60),.view 4 (F.map fnRow) (.own tk2 36)]]));rw [← hBB];have hM:(((B.set o (rsC (ts.map tokRow) b ln e)).set o2 (.cells 28 2 [[nilV,nilV]])).set o3 (.cells 28 2 [[.view 2 (R.map recRow) (.own tk 60),.view 4 (F.map fnRow) (.own tk2 36)]])).obj o=some (.cells 69 4 [[.view 4 (ts.map tokRow) .shared,.int .i64 (b:Int),.int .i64 (ln:Int),.int .i64 (e:Int)]]):=obj2 h2B h3B _ _ _
 have fin:∀ (b ln e:Nat),b < ts.length→Rm ts G (R,F) b ln e→RfR ts o st VG G (.agg (pgRow (R,F))) (st.set o (rsC (ts.map tokRow) b ln e)):=fun b ln e hb h=>⟨(R,F),b,ln,e,rfl,hb,rfl,h⟩;rcases hI with ⟨rfl,rfl,hI⟩|⟨he,u,k3,k4⟩
 ·obtain ⟨t,A⟩:=at_of H hb;rw [A.hd_] at hI;refine goD ?_;by_cases hk:t.kind=0
  ·rw [if_pos hk] at hI;refine cle rfl rfl (A.kd (obj2 h2B h3B _ _ _) 0 true (decide_eq_true hk)) ?_;refine goD ?_;refine soU rfl (Ne.symm (set_ne_new (h3B ob0 ob0))) rfl rfl rfl rfl rfl ?_;refine goD ?_;exact AWP.ret (rets (resCW rfl (St.obj_under (Ne.symm (set_ne_new (h3B ob0 ob0))) _ _) rfl rfl rfl rfl) (pg_le _ _ _ _) ((drop2 h2B h3B _ _ _).trans (hBl _)) (fin b 0 0 hb (.ok hI)))
  ·rw [if_neg hk] at hI;refine cle rfl rfl (A.kd (obj2 h2B h3B _ _ _) 0 false (decide_eq_false hk)) ?_;refine goD ?_;refine cl rfl rfl (A.fail (obj2 h2B h3B _ _ _) 7) fun v st' hst=>?_;subst hst;rw [push2 h2B h3B];refine goD ?_;refine soU rfl (Ne.symm (set_ne_new (h3B ob0 ob0))) rfl rfl rfl rfl rfl ?_;refine goD ?_;exact AWP.ret (rets (resCW rfl (St.obj_under (Ne.symm (set_ne_new (h3B ob0 ob0))) _ _) rfl rfl rfl rfl) (pg_le _ _ _ _) ((drop2 h2B h3B _ _ _).trans (hBl _)) (fin b t.line 7 hb (.inr ⟨.inr rfl,_,hI,by rw [A.hd_]⟩)))
 ·have he0:¬ (e:Int)=0:=by omega
  refine goD ?_;refine soU rfl (Ne.symm (set_ne_new (h3B ob0 ob0))) rfl rfl rfl rfl rfl ?_;refine goD ?_;exact AWP.ret (rets (resCW rfl (St.obj_under (Ne.symm (set_ne_new (h3B ob0 ob0))) _ _) rfl rfl rfl rfl) (pg_le _ _ _ _) ((drop2 h2B h3B _ _ _).trans (hBl _)) (fin b ln e hb (.inr ⟨he,u,k3,k4⟩)))
end Go.Proofs
namespace Go.Proofs
open Go.AM
theorem skipAt_tail (s:List UInt8) (p line:Nat) (hp:p≤s.length):s.drop (skipAt s p line)=(skip false (s.drop p) line).1∧skipAt s p line≤s.length∧p≤skipAt s p line∧(skip false (s.drop p) line).2≤1000000 + skipAt s p line∨1000000 + p < line:=by
 rcases Nat.lt_or_ge (1000000 + p) line with h|h
 ·exact .inr h
 ·left
  obtain ⟨w1,w2,w3,w4⟩:=skip_le false (s.drop p) line;have w6:=skip_sum false (s.drop p) line
  have w7:=skip_tail (s.drop p) line;rw [List.length_drop] at w1 w2 w6 w7;rw [List.drop_drop] at w7;unfold skipAt;refine ⟨?_,by omega,by omega,by omega⟩;rw [← w7]
  congr 1
  rw [w7];omega

set_option maxHeartbeats 4000000 in
theorem rscan_ok (s:List UInt8) (hs:s.length≤140737488351232) (st:St):ACalls Tryz.prog 27 [.str s] st (fun v st'=>v=scanV (scan s)∧st'=st) (fun _ _=>False):=by
 refine ACalls.ofBody Tryz.func27 rfl Tryz.ntmps27 rfl ?_;refine goA ?_;refine AWP.cond_dec rfl (fun h=>?_) (fun h=>AWP.skip ?_)
 ·have h':4000 < s.length:=by have:(4000:Int) < (s.length:Int):=h; omega
  refine goA ?_;refine AWP.ret (rets rfl (Le.tri (.nilShared 0 4) (.refl _) (.refl _)) (.refl _) ⟨?_,rfl⟩);rw [scan,if_pos h'];rfl
 ·have h':s.length≤4000:=by have:¬ (4000:Int) < (s.length:Int):=h; omega
  have hscan:scan s=scanL (s.length + 1) (skip false s 1).1 (skip false s 1).2 []:=by rw [scan,if_neg (by omega)]
  refine goC ?_;refine rg ?_;refine sm rfl ?_;refine nl ?_;refine AWP.nilTok 5 64 4 rfl fun tk htk=>?_;refine goA ?_;refine cle rfl rfl (rskip_ok s (by omega) 0 1 (Nat.zero_le _) (by omega) _) ?_;have hsk:=skipAt_tail s 0 1 (Nat.zero_le _);rw [List.drop_zero] at hsk ⊢;obtain ⟨k1,k2,k3,k4⟩:=hsk.resolve_right (by omega);generalize skipAt s 0 1=p0 at k1 k2 k3 k4;rw [← k1] at hscan;generalize (skip false s 1).2=l0 at hscan k4;refine goA ?_;refine AWP.loop (α:=Nat × Nat × Nat × List Tk × Nat)
   (fun x=>[(7,.int .i64 (x.2.2.1:Int)),(6,.int .i64 (x.2.1:Int)),(5,.view 4 (x.2.2.2.1.map tokRow) (.own x.2.2.2.2 64)),(0,.str s)])
   (fun x=>st.addTok x.2.2.2.2)
   (fun x=>x.2.1≤s.length∧x.2.2.1≤1000000 + x.2.1∧scan s=scanL x.1 (s.drop x.2.1) x.2.2.1 x.2.2.2.1∧s.length - x.2.1 < x.1∧x.2.2.2.1.length≤2000∧st.tok x.2.2.2.2=false) (fun x=>x.1)
   (s.length + 1,p0,l0,[],tk) ⟨k2,k4,hscan,by simp only; omega,by simp,htk⟩ (tl4 rfl rfl rfl rfl) (.refl _) ?_
  rintro ⟨fuel,pos,line,out,tk⟩ ⟨h1,h2,h3,h4,h5,h6⟩;simp only at h1 h2 h3 h4 h5 h6;refine AWP.weaken (T':=[(7,.int .i64 (line:Int)),(6,.int .i64 (pos:Int)),(5,.view 4 (out.map tokRow) (.own tk 64)),(0,.str s)]) (st':=st.addTok tk) (tl4 rfl rfl rfl rfl) (.refl _) ?_;refine goA ?_;refine AWP.cond_dec rfl (fun h=>AWP.skip ?_) (fun h=>AWP.exit (blk_hit ?_))
  ·have hlt:pos < s.length:=by have:(pos:Int) < (s.length:Int):=h; omega
   obtain ⟨fuel,rfl⟩:∃ k,fuel=k + 1:=⟨fuel - 1,by omega⟩;have hd:s.drop pos=s[pos]::s.drop (pos + 1):=List.drop_eq_getElem_cons hlt
   have hstep:scan s=match one (s.drop pos) line with
     | .error e=>([],line,e)
     | .ok (t,m)=>if 2000≤out.length then ([],line,5) else scanL fuel (skip false ((s.drop pos).drop m) line).1 (skip false ((s.drop pos).drop m) line).2 (out++[t]):=by
    rw [h3,hd];rfl
   clear h3;refine goA ?_;refine cle rfl rfl (rone_ok s (by omega) pos line hlt _) ?_;cases ho:one (s.drop pos) line with
   | error e =>
    rw [ho] at hstep;refine AOps.weaken (T':=[(27,roneV pos (.error e)),(7,.int .i64 (line:Int)),(5,.view 4 (out.map tokRow) (.own tk 64)),(0,.str s)]) (tl4 rfl rfl rfl rfl) (.refl _) ?_;unfold roneV;refine goA ?_;refine al rfl rfl fun o8 ho8=>?_;refine soN 8 rfl rfl rfl rfl rfl rfl ho8 ?_;have he:=one_err ho;refine goA ?_;refine AOps.split 33 rfl (fun h8=>absurd (show (e:Int)=0 from h8) (by omega)) (fun _=>?_);refine goA ?_;refine AWP.cond_false rfl (AWP.skip ?_);refine goA ?_;refine AWP.cond_dec rfl (fun _=>?_) (fun h8=>absurd (show (e:Int)≠0 by omega) h8);refine goA ?_;refine AWP.ret (rets rfl (Le.tri (.nilShared 0 4) (.refl _) (.refl _)) (StLe.addTok _ (.refl _)) ⟨?_,rfl⟩);rw [hstep];rfl
   | ok p =>
    obtain ⟨t,m⟩:=p;rw [ho] at hstep;simp only at hstep;obtain ⟨m1,m2,m3⟩:=one_ok ho;rw [List.length_drop] at m2;refine AOps.weaken (T':=[(27,roneV pos (.ok (t,m))),(7,.int .i64 (line:Int)),(5,.view 4 (out.map tokRow) (.own tk 64)),(0,.str s)]) (tl4 rfl rfl rfl rfl) (.refl _) ?_;unfold roneV;refine goA ?_;refine al rfl rfl fun o8 ho8=>?_;refine soN 8 rfl rfl rfl rfl rfl rfl ho8 ?_;refine goA ?_;refine AWP.cond_dec rfl (fun h8=>?_) (fun h8=>AWP.skip ?_)
    ·have hge:2000≤out.length:=by
      rw [List.length_map] at h8;omega
     rw [if_pos hge] at hstep;refine goA ?_;refine AWP.cond_true rfl ?_;refine goA ?_;refine AWP.ret (rets rfl (Le.tri (.nilShared 0 4) (.refl _) (.refl _)) (StLe.addTok _ (.refl _)) ⟨?_,rfl⟩);rw [hstep];rfl
    ·have hge:¬ 2000≤out.length:=by
      rw [List.length_map] at h8;omega
     rw [if_neg hge] at hstep;refine goA ?_;refine AWP.cond_false rfl (AWP.skip ?_);refine goA ?_;refine ap rfl rfl rfl (St.tok_addTok _ _) rfl (by simp only [List.length_cons,List.length_nil,List.length_map]; omega) (by simp only [List.length_cons,List.length_nil,List.length_map,maxLen]; omega) fun tk' htk'=>?_;have hm:out.map tokRow++[(AV.agg (AV.agg (tokRow t)).cells).cells]=(out++[t]).map tokRow:=by rw [List.map_append]; rfl
     rw [hm];have htk2:st.tok tk'=false:=St.tok_of_add (st:=st) htk';refine goA ?_;have hdd:(s.drop pos).drop m=s.drop (pos + m):=List.drop_drop ..;rw [hdd] at hstep;refine cle rfl rfl (rskip_ok s (by omega) (pos + m) line (by omega) (by omega) _) ?_;obtain ⟨w1,w2,w3,w4⟩:=(skipAt_tail s (pos + m) line (by omega)).resolve_right (by omega);generalize skipAt s (pos + m) line=p' at w1 w2 w3 w4;rw [← w1] at hstep;generalize (skip false (s.drop (pos + m)) line).2=l' at hstep w4;refine goA ?_;exact ⟨(fuel,p',l',out++[t],tk'),⟨w2,w4,hstep,by simp only; omega,by simp only [List.length_append,List.length_cons,List.length_nil]; omega,htk2⟩,by simp only; omega,(tl4 rfl rfl rfl rfl),StLe.reTok h6 tk'⟩
  ·have hlt:pos=s.length:=by have:¬ (pos:Int) < (s.length:Int):=h; omega
   subst hlt;obtain ⟨fuel,rfl⟩:∃ k,fuel=k + 1:=⟨fuel - 1,by omega⟩;rw [List.drop_length] at h3;have hstep:scan s=(out++[(⟨0,line,[],0⟩:Tk)],0,0):=h3;refine goA ?_;refine bds (cs:=tokRow ⟨0,line,[],0⟩) rfl rfl rfl rfl ?_;refine goA ?_;refine ap rfl rfl rfl (St.tok_addTok _ _) rfl (by simp only [List.length_cons,List.length_nil,List.length_map]; omega) (by simp only [List.length_cons,List.length_nil,List.length_map,maxLen]; omega) fun tk' htk'=>?_;have hm:out.map tokRow++[(AV.agg (tokRow ⟨0,line,[],0⟩)).cells]=(out++[(⟨0,line,[],0⟩:Tk)]).map tokRow:=by rw [List.map_append]; rfl
   rw [hm];refine goA ?_;refine AWP.ret (rets rfl (Le.tri (.shared _ _ _) (.refl _) (.refl _)) ((StLe.reTok h6 tk').trans (StLe.addTok _ (.refl _))) ⟨?_,rfl⟩);rw [hstep];rfl
end Go.Proofs
namespace Go.Proofs
open Go.AM
attribute [local irreducible] AWP AOps AAny ACalls
set_option maxHeartbeats 2000000 in
theorem rparse_ok (s:List UInt8) (hs:s.length≤140737488351232) (st:St) :
  ACalls Tryz.prog 15 [.str s] st (fun v st'=>v=parV (pparse s)∧st'=st) (fun _ _=>False):=by
 refine ACalls.ofBody Tryz.func15 rfl Tryz.ntmps15 rfl ?_;refine goC ?_;refine rg ?_;refine al rfl rfl fun o2 h2=>?_;refine goD ?_;refine cle rfl rfl (rscan_ok s hs _) ?_;unfold scanV;refine goD ?_;have hz:∀ S:St,(S.set o2 (.cells 28 2 [[nilV,nilV]])).set o2 (.cells 28 2 [[nilV,nilV]])=S.set o2 (.cells 28 2 [[nilV,nilV]]):=fun S=>St.set_set _ _ _ _;by_cases he:(scan s).2.2=0
 rotate_left
 ·have hp:=pparse_err he
  have he':¬ ((scan s).2.2:Int)=0:=by omega
  refine goD ?_;refine bds (cs:=[nilV,nilV]) rfl rfl rfl rfl ?_;refine goE ?_;refine so (rows':=[[nilV,nilV]]) rfl rfl rfl (St.obj_set _ _ _) rfl rfl rfl rfl rfl ?_;rw [St.set_set];refine goD ?_;exact AWP.ret (rets (resCW rfl (St.obj_set _ _ _) rfl rfl rfl rfl) (.refl _) (StLe.new h2 (.refl _)) ⟨by rw [hp] <;> rfl,rfl⟩)
 obtain ⟨H,h0⟩:=scan_RdT he;have hp:=pparse_of he;rw [he];generalize (scan s).1=ts at H h0 hp;generalize (scan s).2.1=l0;have hlen:=H.len;refine goD ?_;refine bds (cs:=[.view 4 (ts.map tokRow) .shared,.int .i64 0,.int .i64 0,.int .i64 0]) rfl rfl rfl rfl ?_;refine bx rfl rfl rfl rfl fun o3 h3=>?_;have n32:o3≠o2:=Ne.symm (set_ne_new h3);refine goD ?_;refine cl rfl rfl (rprogram_ok H h0 (St.obj_set _ _ _)) fun v st' ⟨p,a,ln,e,hv,ha,hst,hr⟩=>?_;subst hst;unfold VG pgRow at hv;subst hv;rw [St.set_set];have hM:((st.set o2 (.cells 28 2 [[nilV,nilV]])).set o3 (rsC (ts.map tokRow) a ln e)).obj o3=some (.cells 69 4 [[.view 4 (ts.map tokRow) .shared,.int .i64 (a:Int),.int .i64 (ln:Int),.int .i64 (e:Int)]]):=St.obj_set _ _ _
 have hP:((st.set o2 (.cells 28 2 [[nilV,nilV]])).set o3 (rsC (ts.map tokRow) a ln e)).obj o2=some (.cells 28 2 [[nilV,nilV]]):=St.obj_under n32 _ _
 have hS:∀ c d,StLe ((st.set o2 c).set o3 d) st:=fun c d=>StLe.new (none_set h3 c) (StLe.new h2 (.refl _));rcases hr with ⟨rfl,rfl,hr⟩|⟨he1,t,hr,hl⟩
 ·refine goD ?_;refine soU rfl n32 rfl rfl rfl rfl rfl ?_;refine goD ?_;exact AWP.ret (rets (resCW rfl (St.obj_under n32 _ _) rfl rfl rfl rfl) (.refl _) (hS _ _) ⟨by rw [hp,hr] <;> rfl,rfl⟩)
 ·have he0:¬ (e:Int)=0:=by omega
  generalize hSS:(st.set o2 (.cells 28 2 [[nilV,nilV]])).set o3 (rsC (ts.map tokRow) a ln e)=S at hM hP;refine goE ?_;refine nl ?_;refine AWP.weaken (T':=[(8,.cptr o3 4 0 0),(2,.cptr o2 2 0 0)]) (st':=S) (tl2 rfl rfl) (by rw [← hSS]; exact .refl _) ?_;refine goD ?_;refine AWP.any rfl ?_;apply AAny.segY (k':=12) (S:=_) (Es:=[9]) (sts:=fun bs=>match bs with|[_]=>some S|_=>none) (F:=fun x y=>y=x) (base:=S) (hok:=by decide +kernel) (hS:=rfl) (h0:=rfl) (hF:=rfl) (hb:=.refl _);apply dqY (hi:=rfl) (hd:=rfl) (hw:=rfl) (h:=fun _ _=>bds (cs:=[nilV,nilV]) rfl rfl rfl rfl nz);repeat (first|apply dsY (hi:=rfl) (hs:=rfl)|apply dqY (hi:=rfl) (hd:=rfl) (hw:=rfl) (h:=fun _ _=>ZC (z:=nz))|apply dqY (hi:=rfl) (hd:=rfl) (hw:=rfl) (h:=fun _ _=>ZH (z:=nz)))
  apply deY (L:=[[false]]) (hL:=rfl) (hd:=rfl) (hw:=rfl) (h:=by
   refine ⟨?_,trivial⟩;intro s0 e;cases e;refine ⟨_,rfl,fun S2 hs hle=>?_⟩;rw [hs];refine so (rows':=[[nilV,nilV]]) rfl rfl rfl hP rfl rfl rfl rfl rfl ?_;exact nl ⟨rfl,St.set_same hP,by rw [St.set_same hP]; exact .refl _⟩)
  repeat (apply dsY (hi:=rfl) (hs:=rfl))
  refine dnY rfl fun S2 hs _=>?_;rw [hs];refine AAny.text rfl ?_;refine nl ?_;refine AWP.ret (rets (resCW rfl hP rfl rfl rfl rfl) (.refl _) (by rw [← hSS]; exact hS _ _) ⟨?_,rfl⟩);rw [hp,hr,hl];rfl
end Go.Proofs
namespace Go.AM
theorem AWP.cut {P:Program} {n:Nat} {K:Post} {E:EPost} {T:Tmps} {st:St} {x y:Code} (p:Prop) (T':Tmps) (st':St) (h:AWP P n x (fun T1 st1=>TLe T1 T'∧StLe st1 st'∧p) E T st) (k:p→AWP P n y K E T' st'):AWP P n (.seq x y) K E T st :=
 AWP.seq (h.mono (fun _ _ h=>AWP.weaken h.1 h.2.1 (k h.2.2)) (fun _ _ _ h=>h))
end Go.AM
namespace Go.Proofs
open Go.AM
attribute [local irreducible] AWP AOps ACalls
set_option linter.unusedSimpArgs false

theorem g_tmod_gt (n k:Int) (hk:0 < k):-k < n.tmod k:=by
 have:=Int.tmod_lt_of_pos (-n) hk;rw [Int.neg_tmod] at this;omega

theorem g_mod_rem (n k:Int) (hk:0 < k):n % k=if n.tmod k < 0 then n.tmod k + k else n.tmod k:=by
 have h1:n % k=n.tmod k % k:=by
  conv=>lhs; rw [← Int.tmod_add_mul_tdiv n k]
  rw [Int.add_mul_emod_self_left]
 have h2:=Int.tmod_lt_of_pos n hk
 have h3:=g_tmod_gt n k hk;rw [h1];split
 ·rw [← Int.add_emod_right,Int.emod_eq_of_lt (by omega) (by omega)]
 ·exact Int.emod_eq_of_lt (by omega) (by omega)

theorem g_mod_ok (n k:Int) (hk:0 < k) (hk2:k≤4611686018427387904) (st:St):ACalls Tryz.prog 14 [.int .i64 n,.int .i64 k] st (fun v st'=>v=.int .i64 (n % k)∧st'=st) (fun _ _=>False):=by
 refine ACalls.ofBody Tryz.func14 rfl Tryz.ntmps14 rfl ?_;have hm:=g_mod_rem n k hk;refine goD ?_;refine rm rfl rfl rfl (by omega) ?_;refine goD ?_;refine AWP.cond_dec rfl (fun h=>?_) (fun h=>AWP.skip ?_)
 ·rw [if_pos h] at hm;have h3:=g_tmod_gt n k hk
  have h4:=Int.tmod_lt_of_pos n hk;refine goD ?_;refine Go.AM.ad rfl rfl rfl (by omega) ?_;refine goD ?_;refine AWP.ret (rets rfl (.refl _) (.refl _) ⟨?_,rfl⟩);rw [hm];rfl
 ·rw [if_neg h] at hm;refine goD ?_;refine AWP.ret (rets rfl (.refl _) (.refl _) ⟨?_,rfl⟩);rw [hm];rfl

theorem St.ext3 {a b:St} (h1:a.obj=b.obj) (h2:a.tok=b.tok) (h3:a.glob=b.glob):a=b:=by
 cases a; cases b; simp only at h1 h2 h3; subst h1 h2 h3; rfl
def tapeRow (l:List Int) (i:Nat):List AV:=[.view 1 (l.map fun x=>[.int .i64 x]) .shared,.int .i64 (i:Int)]
def tapeC (l:List Int) (i:Nat):AObj:=.cells 88 2 [tapeRow l i]
theorem next_ok (l:List Int) (hl:l.length≤17592186043904) (i:Nat) (hi:i≤l.length) (k:Int) (hk:0 < k) (hk2:k≤4611686018427387904) (o:Nat) (st:St) (ho:st.obj o=some (tapeC l i)) :
  ACalls Tryz.prog 37 [.cptr o 2 0 0,.int .i64 k] st (fun v st'=>∃ n:Int,v=.int .i64 n∧0≤n∧n < k∧∃ j:Nat,j≤l.length∧st'=st.set o (tapeC l j)) (fun _ _=>False):=by
 refine ACalls.ofBody Tryz.func37 rfl Tryz.ntmps37 rfl ?_;have ll:(l.map fun x=>[AV.int .i64 x]).length=l.length:=List.length_map ..
 have e0:st.set o (tapeC l i)=st:=by
  refine St.ext3 (funext fun p=>?_) rfl rfl;simp only [St.set];by_cases e:p=o
  ·subst e; simp [ho]
  ·simp [e]
 rw [← e0];refine goC ?_;refine rg ?_;refine goE ?_;refine goC ?_;refine AWP.draw rfl 10 10 (fun _ _=>False) rfl ?_;refine goF ?_;refine dn ⟨fun _=>?_,fun h=>absurd h (by decide)⟩;rw [ll];refine goD ?_;refine AWP.cond_dec rfl (fun h=>?_) (fun h=>AWP.skip ?_)
 ·refine goD ?_;exact AWP.ret (rets rfl (.refl _) (.refl _) ⟨0,rfl,Int.le_refl _,hk,i,hi,(St.set_set _ _ _ _).symm⟩)
 ·have hi':i < l.length:=by have h0:¬ (l.length:Int)≤(i:Int):=h; omega
  refine goD ?_;refine so1 (row':=tapeRow l (i + 1)) rfl rfl rfl rfl rfl (Nat.le_of_ble_eq_true rfl) rfl ?_;refine goC ?_;refine AWP.draw rfl 14 14 (fun _ _=>False) rfl ?_;refine goF ?_;have hv:(l.map fun x=>[AV.int .i64 x])[i]?=some [.int .i64 l[i]]:=by rw [List.getElem?_map,List.getElem?_eq_getElem hi']; rfl
  generalize l[i]=x at hv;refine dq rfl rfl rfl (fun st1 hle=>ix (m:=i) rfl rfl rfl (by omega) (by rw [ll]; exact hi') (nl ⟨_,rfl,rfl,rfl⟩)) ?_;refine goF ?_;refine dq rfl rfl rfl (fun st1 hle=>cle rfl rfl (g_mod_ok x k hk hk2 _) (nl ⟨_,rfl,rfl,rfl⟩)) ?_;refine goF ?_;refine dn ⟨fun _=>?_,fun h=>absurd h (by decide)⟩;refine goD ?_;exact AWP.ret (rets rfl (.refl _) (.refl _) ⟨x % k,rfl,Int.emod_nonneg _ (by omega),Int.emod_lt_of_pos _ hk,i + 1,hi',(St.set_set _ _ _ _).symm⟩)
end Go.Proofs
namespace Go.Proofs
open Go.AM
attribute [local irreducible] AWP AOps ACalls
set_option linter.unusedSimpArgs false
def numL:List Int:=[0,1,2,3,5,7,4,10,100,1048576,2147483648,1099511627776,999999999999999999,6,8,9]
theorem g_number_ok (l:List Int) (hl:l.length≤17592186043904) (i:Nat) (hi:i≤l.length) (o:Nat) (st:St) (ho:st.obj o=some (tapeC l i)) :
  ACalls Tryz.prog 96 [.cptr o 2 0 0] st (fun v st'=>∃ n:Int,v=.int .i64 n∧0≤n∧n≤999999999999999999∧∃ j:Nat,j≤l.length∧st'=st.set o (tapeC l j)) (fun _ _=>False):=by
 refine ACalls.ofBody Tryz.func96 rfl Tryz.ntmps96 rfl ?_;refine goC ?_;refine rg ?_;refine goE ?_;refine goC ?_;refine rg ?_;refine bsh (cs:=numL.map (AV.int .i64)) rfl rfl rfl rfl rfl ?_;refine goD ?_;refine cl rfl rfl (next_ok l hl i hi 16 (by decide) (by decide) o _ ho) fun v st' ⟨n,hv,n0,n1,j,hj,hst⟩=>?_;subst hv;subst hst;obtain ⟨m,rfl⟩:∃ m:Nat,n=(m:Int):=⟨n.toNat,by omega⟩;have hm:m < 16:=by omega
 obtain ⟨x,hx,x0,x1⟩:∃ x:Int,(chunk (0 + 1) 16 (numL.map (AV.int .i64)))[m]?=some [.int .i64 x]∧0≤x∧x≤999999999999999999:=by
  match m,hm with
  | 0,_=>exact ⟨_,rfl,by decide,by decide⟩
  | 1,_=>exact ⟨_,rfl,by decide,by decide⟩
  | 2,_=>exact ⟨_,rfl,by decide,by decide⟩
  | 3,_=>exact ⟨_,rfl,by decide,by decide⟩
  | 4,_=>exact ⟨_,rfl,by decide,by decide⟩
  | 5,_=>exact ⟨_,rfl,by decide,by decide⟩
  | 6,_=>exact ⟨_,rfl,by decide,by decide⟩
  | 7,_=>exact ⟨_,rfl,by decide,by decide⟩
  | 8,_=>exact ⟨_,rfl,by decide,by decide⟩
  | 9,_=>exact ⟨_,rfl,by decide,by decide⟩
  | 10,_=>exact ⟨_,rfl,by decide,by decide⟩
  | 11,_=>exact ⟨_,rfl,by decide,by decide⟩
  | 12,_=>exact ⟨_,rfl,by decide,by decide⟩
  | 13,_=>exact ⟨_,rfl,by decide,by decide⟩
  | 14,_=>exact ⟨_,rfl,by decide,by decide⟩
  | 15,_=>exact ⟨_,rfl,by decide,by decide⟩
 refine ix (m:=m) rfl rfl rfl rfl (by exact hm) ?_;refine Go.AM.le rfl rfl hx rfl ?_;refine goD ?_;exact AWP.ret (rets rfl (.refl _) (.refl _) ⟨x,rfl,x0,x1,j,hj,rfl⟩)

instance (n:Int):PureFn Tryz.prog 95 [.int .i64 n] (.agg (exRow 0 n [] [] noE)) where
 out st:=by
  refine ACalls.ofBody Tryz.func95 rfl Tryz.ntmps95 rfl ?_;refine goC ?_;refine rg ?_;refine al rfl rfl fun o2 h2=>?_;refine goC ?_;refine rg ?_;refine goE ?_;refine bds (cs:=exRow 0 n [] [] nilV) rfl rfl rfl rfl ?_;refine soV rfl rfl rfl rfl rfl rfl ?_;refine goD ?_;exact AWP.ret (rets (resCW rfl (St.obj_set _ _ _) rfl rfl rfl rfl) (ex_nil _ _ _ _) (StLe.new h2 (.refl _)) ⟨rfl,rfl⟩)
instance (s:List UInt8):PureFn Tryz.prog 39 [.str s] (.agg (exRow 1 0 s [] noE)) where
 out st:=by
  refine ACalls.ofBody Tryz.func39 rfl Tryz.ntmps39 rfl ?_;refine goC ?_;refine rg ?_;refine al rfl rfl fun o2 h2=>?_;refine goC ?_;refine rg ?_;refine goE ?_;refine bds (cs:=exRow 1 0 s [] nilV) rfl rfl rfl rfl ?_;refine soV rfl rfl rfl rfl rfl rfl ?_;refine goD ?_;exact AWP.ret (rets (resCW rfl (St.obj_set _ _ _) rfl rfl rfl rfl) (ex_nil _ _ _ _) (StLe.new h2 (.refl _)) ⟨rfl,rfl⟩)
def GE:Nat→List AV→Prop
 | 0,_=>False
 | d + 1,row=>∃ (op num:Int) (name field:List UInt8) (rows:List (List AV)),row=exRow op num name field (.view 6 rows .shared)∧0≤op∧op≤30∧0≤num∧num≤999999999999999999∧name.length≤30∧field.length≤1 ∧
   rows.length≤2∧∀ r ∈ rows,GE d r
theorem GE_row {d:Nat} {row:List AV} (h:GE d row):∃ (op num:Int) (name field:List UInt8) (rows:List (List AV)),row=exRow op num name field (.view 6 rows .shared):=by
 cases d with
 | zero=>exact h.elim
 | succ d=>obtain ⟨op,num,name,field,rows,rfl,_⟩:=h; exact ⟨_,_,_,_,_,rfl⟩
theorem GE_lit (d:Nat) {n:Int} (h0:0≤n) (h1:n≤999999999999999999):GE (d + 1) (exRow 0 n [] [] noE) :=
 ⟨0,n,[],[],[],rfl,by decide,by decide,h0,h1,by decide,by decide,by decide,fun r h=>by cases h⟩
theorem GE_var (d:Nat) {s:List UInt8} (h:s.length≤30):GE (d + 1) (exRow 1 0 s [] noE) :=
 ⟨1,0,s,[],[],rfl,by decide,by decide,by decide,by decide,h,by decide,by decide,fun r h=>by cases h⟩
def mkRow (oT:Nat) (f funcs:Int) (pv sv tv av:AV) (count left:Int):List AV:=[.cptr oT 2 0 0,.int .i64 f,.int .i64 funcs,pv,sv,tv,av,.int .i64 count,.int .i64 left]
def mkC (oT:Nat) (f funcs:Int) (pv sv tv av:AV) (count left:Int):AObj:=.cells 92 9 [mkRow oT f funcs pv sv tv av count left]
structure NL (v:AV) where
 rows:List (List AV)
 tok:AM.Tok
 is:v=.view 1 rows tok
 len:rows.length≤60
 name:∀ (i:Nat),i < rows.length→∃ s:List UInt8,rows[i]?=some [.str s]∧s.length≤30
def TI (l:List Int) (oT:Nat) (st s:St):Prop:=∃ j:Nat,j≤l.length∧s=st.set oT (tapeC l j)
theorem TI.set {l:List Int} {oT j:Nat} {st:St} (hj:j≤l.length):TI l oT st (st.set oT (tapeC l j)):=⟨j,hj,rfl⟩
theorem TI.obj {l:List Int} {oT:Nat} {st s:St} (h:TI l oT st s):∃ j:Nat,j≤l.length∧s.obj oT=some (tapeC l j):=by
 obtain ⟨j,hj,rfl⟩:=h;exact ⟨j,hj,St.obj_set _ _ _⟩
theorem TI.trans {l:List Int} {oT:Nat} {st s s':St} (h:TI l oT st s) (k:TI l oT s s'):TI l oT st s':=by
 obtain ⟨j,hj,rfl⟩:=h;obtain ⟨i,hi,rfl⟩:=k;exact ⟨i,hi,St.set_set _ _ _ _⟩
theorem TI.other {l:List Int} {oT p:Nat} {st s:St} (h:TI l oT st s) (hp:p≠oT):s.obj p=st.obj p:=by
 obtain ⟨j,hj,rfl⟩:=h;exact St.obj_set_ne hp
theorem next_ti (l:List Int) (hl:l.length≤17592186043904) (k:Int) (hk:0 < k) (hk2:k≤4611686018427387904) (o:Nat) (st s:St) (h:TI l o st s) :
  ACalls Tryz.prog 37 [.cptr o 2 0 0,.int .i64 k] s (fun v s'=>(∃ n:Int,v=.int .i64 n∧0≤n∧n < k)∧TI l o st s') (fun _ _=>False):=by
 obtain ⟨j,hj,ho⟩:=h.obj;refine (next_ok l hl j hj k hk hk2 o s ho).mono (fun v s' h'=>?_) (fun _ _ h=>h);obtain ⟨n,hv,n0,n1,i,hi,hs⟩:=h';exact ⟨⟨n,hv,n0,n1⟩,h.trans ⟨i,hi,hs⟩⟩
theorem number_ti (l:List Int) (hl:l.length≤17592186043904) (o:Nat) (st s:St) (h:TI l o st s) :
  ACalls Tryz.prog 96 [.cptr o 2 0 0] s (fun v s'=>(∃ n:Int,v=.int .i64 n∧0≤n∧n≤999999999999999999)∧TI l o st s') (fun _ _=>False):=by
 obtain ⟨j,hj,ho⟩:=h.obj;refine (g_number_ok l hl j hj o s ho).mono (fun v s' h'=>?_) (fun _ _ h=>h);obtain ⟨n,hv,n0,n1,i,hi,hs⟩:=h';exact ⟨⟨n,hv,n0,n1⟩,h.trans ⟨i,hi,hs⟩⟩
theorem TI.under {l:List Int} {oT p:Nat} {st s:St} {c:AObj} (h:TI l oT st s) (hp:p≠oT):TI l oT (st.set p c) (s.set p c):=by
 obtain ⟨j,hj,rfl⟩:=h;exact ⟨j,hj,St.set_comm _ (fun e=>hp e.symm) _ _⟩
def ExprC (l:List Int) (oT oM:Nat) (st:St) (deep:Int) (d:Nat):Prop:=∀ st0 s,st0.obj oM=st.obj oM→TI l oT st0 s →
 ACalls Tryz.prog 67 [.cptr oM 9 0 0,.int .i64 deep] s (fun v s'=>(∃ row,v=.agg row∧GE d row)∧TI l oT st0 s') (fun _ _=>False)
set_option maxHeartbeats 4000000 in
theorem element_ok (l:List Int) (hl:l.length≤17592186043904) (oT oM:Nat) (hne:oM≠oT) (st0 s:St) (f funcs:Int) (pv sv tv av:AV) (count left:Int) (A:NL av) (hA:0 < A.rows.length) (hM0:st0.obj oM=some (mkC oT f funcs pv sv tv av count left)) (h:TI l oT st0 s) (deep:Int) (d:Nat) (hd:∀ n:Int,0≤n→n≤999999999999999999→GE d (exRow 0 n [] [] noE)) (hE:ExprC l oT oM st0 deep d) :
  ACalls Tryz.prog 97 [.cptr oM 9 0 0,.int .i64 deep] s (fun v s'=>(∃ row,v=.agg row∧GE (d + 1) row)∧TI l oT st0 s') (fun _ _=>False):=by
 refine ACalls.ofBody Tryz.func97 rfl Tryz.ntmps97 rfl ?_;obtain ⟨rows,tok,rfl,rl,rn⟩:=A;simp only at hA;refine goC ?_;refine rg ?_;refine al rfl rfl fun o4 h4=>?_;have o4T:o4≠oT:=fun e=>by obtain ⟨j,_,hj⟩:=h.obj; rw [e,hj] at h4; cases h4
 have o4M:oM≠o4:=fun e=>by rw [← e,h.other hne,hM0] at h4; cases h4
 generalize hz:AObj.cells 95 6 [zrow (Value.agg #[.int .i64 0,.int .i64 0,.int .i64 0,.string ⟨#[]⟩,.string ⟨#[]⟩,.slice none 0 0])]=z;have h1:=h.under (c:=z) o4T;obtain ⟨b1,hb1⟩:∃ b1,b1=st0.set o4 z:=⟨_,rfl⟩;rw [← hb1] at h1;have hM1:b1.obj oM=some (mkC oT f funcs pv sv tv (.view 1 rows tok) count left):=by rw [hb1,St.obj_set_ne o4M]; exact hM0
 have hM:∀ x,TI l oT b1 x→x.obj oM=some (mkC oT f funcs pv sv tv (.view 1 rows tok) count left):=fun x hx=>by rw [hx.other hne]; exact hM1
 generalize s.set o4 z=s1 at h1;refine goC ?_;apply AWP.drawI (hm:=rfl) (k:=14) (I:=TI l oT b1) (hI:=h1)
 case hok=>rfl
 repeat (first|apply diQ (hd:=rfl) (hw:=rfl) (h:=fun st1 hI=>lc rfl rfl (hM st1 hI) rfl rfl (nl ⟨_,rfl,rfl,rfl⟩))|apply diQ (hd:=rfl) (hw:=rfl) (h:=fun _ _=>ZA (z:=nz))|apply diQ (hd:=rfl) (hw:=rfl) (h:=fun _ _=>ZC (z:=nz))|apply diQ (hd:=rfl) (hw:=rfl) (h:=fun _ _=>ZJ (z:=nz)))
 apply diE (Q:=fun v=>∃ n:Int,v=.int .i64 n∧0≤n∧n < (rows.length:Int)) (hd:=rfl) (hw:=rfl) (hex:=⟨_,0,rfl,by decide,by omega⟩) (h:=fun x hx=>cl rfl rfl (next_ti l hl (rows.length:Int) (by omega) (by omega) oT b1 x hx) fun v s' hv=>nl ⟨v,rfl,hv⟩);rintro v ⟨n,rfl,n0,n1⟩;refine diN fun s2 h2=>?_;obtain ⟨m,rfl⟩:∃ m:Nat,n=(m:Int):=⟨n.toNat,by omega⟩;obtain ⟨w,hw,wl⟩:=rn m (by omega);refine ix (m:=m) rfl rfl rfl rfl (by omega) ?_;refine Go.AM.le rfl rfl hw rfl ?_;refine goD ?_;refine lc rfl rfl (hM s2 h2) rfl rfl ?_;refine cl rfl rfl (next_ti l hl 3 (by decide) (by decide) oT b1 s2 h2) fun v s3 ⟨⟨c,hv,c0,c1⟩,h3⟩=>?_;subst hv;refine goD ?_;have fin:∀ x,TI l oT b1 x→∃ y,TI l oT st0 y∧x=y.set o4 z∧y.obj o4=none:=fun x ⟨j,hj,hx⟩=>⟨st0.set oT (tapeC l j),⟨j,hj,rfl⟩,by rw [hx,hb1,St.set_comm _ o4T],by
  obtain ⟨i,_,hi⟩:=h;rw [hi,St.obj_set_ne o4T] at h4;rw [St.obj_set_ne o4T,h4]⟩
 refine AWP.cond_dec rfl (fun h0=>?_) (fun h0=>AWP.skip ?_)
 ·refine goD ?_;refine lc rfl rfl (hM s3 h3) rfl rfl ?_;refine cl rfl rfl (next_ti l hl 3 (by decide) (by decide) oT b1 s3 h3) fun v s4 ⟨⟨e,hv,e0,e1⟩,h4'⟩=>?_;subst hv;refine goE ?_;refine bds (cs:=exRow 3 0 w [] (.view 6 [exRow 0 e [] [] noE] .shared)) rfl rfl rfl rfl ?_;obtain ⟨y,hy,rfl,y4⟩:=fin s4 h4';subst hz;refine soV rfl rfl rfl rfl rfl rfl ?_;refine goD ?_;exact AWP.ret (rets (resCW rfl (St.obj_set _ _ _) rfl rfl rfl rfl) (.refl _) (StLe.new y4 (.refl _)) ⟨⟨_,rfl,3,0,w,[],_,rfl,by decide,by decide,by decide,by decide,wl,by decide,by simp,fun r hr=>by rw [List.mem_singleton] at hr; subst hr; exact hd e e0 (by omega)⟩,hy⟩)
 ·refine goD ?_;refine cl rfl rfl (hE b1 s3 (hM1.trans hM0.symm) h3) fun v s4 ⟨⟨row,hv,hg⟩,h4'⟩=>?_;subst hv;obtain ⟨p1,p2,p3,p4,p5,rfl⟩:=GE_row hg;refine goE ?_;refine bds (cs:=exRow 3 0 w [] (.view 6 [exRow p1 p2 p3 p4 (.view 6 p5 .shared)] .shared)) rfl rfl rfl rfl ?_;obtain ⟨y,hy,rfl,y4⟩:=fin s4 h4';subst hz;refine soV rfl rfl rfl rfl rfl rfl ?_;refine goD ?_;exact AWP.ret (rets (resCW rfl (St.obj_set _ _ _) rfl rfl rfl rfl) (.refl _) (StLe.new y4 (.refl _)) ⟨⟨_,rfl,3,0,w,[],_,rfl,by decide,by decide,by decide,by decide,wl,by decide,by simp,fun r hr=>by rw [List.mem_singleton] at hr; subst hr; exact hg⟩,hy⟩)
set_option maxHeartbeats 4000000 in
theorem expr_step (l:List Int) (hl:l.length≤17592186043904) (oT oM:Nat) (hne:oM≠oT) (st0 s:St) (f funcs:Int) (pv sv tv av:AV) (count left:Int) (S:NL sv) (D:NL tv) (A:NL av) (hM0:st0.obj oM=some (mkC oT f funcs pv sv tv av count left)) (h:TI l oT st0 s) (deep:Int) (d:Nat)
  (d0:0≤deep) (d1:deep < 3) (hE:ExprC l oT oM st0 (deep + 1) (d + 1)) :
  ACalls Tryz.prog 67 [.cptr oM 9 0 0,.int .i64 deep] s (fun v s'=>(∃ row,v=.agg row∧GE (d + 2) row)∧TI l oT st0 s') (fun _ _=>False):=by
 refine ACalls.ofBody Tryz.func67 rfl Tryz.ntmps67 rfl ?_;obtain ⟨rS,kS,rfl,lS,nS⟩:=S;obtain ⟨rD,kD,rfl,lD,nD⟩:=D;obtain ⟨rA,kA,hA,lA,nA⟩:=A;subst hA;refine goC ?_;refine rg ?_;refine al rfl rfl fun o4 h4=>?_;have o4T:o4≠oT:=fun e=>by obtain ⟨j,_,hj⟩:=h.obj; rw [e,hj] at h4; cases h4
 have o4M:oM≠o4:=fun e=>by rw [← e,h.other hne,hM0] at h4; cases h4
 generalize hz:AObj.cells 95 6 [zrow (Value.agg #[.int .i64 0,.int .i64 0,.int .i64 0,.string ⟨#[]⟩,.string ⟨#[]⟩,.slice none 0 0])]=z;have h1:=h.under (c:=z) o4T;obtain ⟨b1,hb1⟩:∃ b1,b1=st0.set o4 z:=⟨_,rfl⟩;rw [← hb1] at h1;have hM1:b1.obj oM=some (mkC oT f funcs pv (.view 1 rS kS) (.view 1 rD kD) (.view 1 rA kA) count left):=by rw [hb1,St.obj_set_ne o4M]; exact hM0
 have hM:∀ x,TI l oT b1 x→x.obj oM=some (mkC oT f funcs pv (.view 1 rS kS) (.view 1 rD kD) (.view 1 rA kA) count left):=fun x hx=>by rw [hx.other hne]; exact hM1
 have fin:∀ x,TI l oT b1 x→∃ y,TI l oT st0 y∧x=y.set o4 z∧y.obj o4=none:=fun x ⟨j,hj,hx⟩=>⟨st0.set oT (tapeC l j),⟨j,hj,rfl⟩,by rw [hx,hb1,St.set_comm _ o4T],by
  obtain ⟨i,_,hi⟩:=h;rw [hi,St.obj_set_ne o4T] at h4;rw [St.obj_set_ne o4T,h4]⟩
 have hEb:∀ b,b.obj oM=some (mkC oT f funcs pv (.view 1 rS kS) (.view 1 rD kD) (.view 1 rA kA) count left)→ExprC l oT oM b (deep + 1) (d + 1):=fun b hb st1 x hx hx'=>hE st1 x (hx.trans (hb.trans hM0.symm)) hx';generalize s.set o4 z=s1 at h1;refine goD ?_;refine lc rfl rfl (hM s1 h1) rfl rfl ?_;refine cl rfl rfl (next_ti l hl 16 (by decide) (by decide) oT b1 s1 h1) fun v s2 ⟨⟨k,hv,k0,k1⟩,h2⟩=>?_;subst hv;clear h1 h;have m2:=hM s2 h2;refine goE ?_;refine nl ?_;refine AWP.cut True [(4,.cptr o4 6 0 0),(1,.int .i64 deep),(0,.cptr oM 9 0 0)] s2 ?_ fun _=>?_
 ·refine goC ?_;by_cases c1:k < 3
  ·refine goD ?_;refine cl rfl rfl (number_ti l hl oT b1 s2 h2) fun v s3 ⟨⟨x,hv,x0,x1⟩,h3⟩=>?_;subst hv;refine goE ?_;obtain ⟨y,hy,rfl,y4⟩:=fin s3 h3;subst hz;refine soV rfl rfl rfl rfl rfl rfl ?_;refine goD ?_;exact AWP.ret (rets (resCW rfl (St.obj_set _ _ _) rfl rfl rfl rfl) (.refl _) (StLe.new y4 (.refl _)) ⟨⟨_,rfl,GE_lit (d + 1) x0 x1⟩,hy⟩)
  by_cases c2:k < 8
  ·by_cases c3:0 < (rS.length:Int)
   ·refine goD ?_;apply AWP.drawI (hm:=rfl) (k:=14) (I:=TI l oT b1) (hI:=h2)
    case hok=>rfl
    repeat (first|apply diQ (hd:=rfl) (hw:=rfl) (h:=fun st1 hI=>lc rfl rfl (hM st1 hI) rfl rfl (nl ⟨_,rfl,rfl,rfl⟩))|apply diQ (hd:=rfl) (hw:=rfl) (h:=fun _ _=>ZA (z:=nz))|apply diQ (hd:=rfl) (hw:=rfl) (h:=fun _ _=>ZC (z:=nz))|apply diQ (hd:=rfl) (hw:=rfl) (h:=fun _ _=>ZJ (z:=nz)))
    apply diE (Q:=fun v=>∃ n:Int,v=.int .i64 n∧0≤n∧n < (rS.length:Int)) (hd:=rfl) (hw:=rfl) (hex:=⟨_,0,rfl,by decide,by omega⟩) (h:=fun x hx=>cl rfl rfl (next_ti l hl (rS.length:Int) (by omega) (by omega) oT b1 x hx) fun v s' hv=>nl ⟨v,rfl,hv⟩);rintro v ⟨n,rfl,n0,n1⟩;refine diN fun s3 h3=>?_;obtain ⟨m,rfl⟩:∃ m:Nat,n=(m:Int):=⟨n.toNat,by omega⟩;obtain ⟨w,hw,wl⟩:=nS m (by omega);refine ix (m:=m) rfl rfl rfl rfl (by omega) ?_;refine Go.AM.le rfl rfl hw rfl ?_;refine goE ?_;obtain ⟨y,hy,rfl,y4⟩:=fin s3 h3;subst hz;refine soV rfl rfl rfl rfl rfl rfl ?_;refine goD ?_;exact AWP.ret (rets (resCW rfl (St.obj_set _ _ _) rfl rfl rfl rfl) (.refl _) (StLe.new y4 (.refl _)) ⟨⟨_,rfl,GE_var (d + 1) wl⟩,hy⟩)
   ·refine goD ?_;exact ⟨(tl3 rfl rfl rfl),.refl _,trivial⟩
  by_cases c4:k=8
  ·by_cases c5:0 < (rD.length:Int)
   ·refine goD ?_;apply AWP.drawI (hm:=rfl) (k:=24) (I:=TI l oT b1) (hI:=h2)
    case hok=>rfl
    repeat (first|apply diQ (hd:=rfl) (hw:=rfl) (h:=fun st1 hI=>lc rfl rfl (hM st1 hI) rfl rfl (nl ⟨_,rfl,rfl,rfl⟩))|apply diQ (hd:=rfl) (hw:=rfl) (h:=fun _ _=>ZA (z:=nz))|apply diQ (hd:=rfl) (hw:=rfl) (h:=fun _ _=>ZC (z:=nz))|apply diQ (hd:=rfl) (hw:=rfl) (h:=fun _ _=>ZJ (z:=nz)))
    apply diE (Q:=fun v=>∃ m:Nat,v=.int .i64 (m:Int)∧m < rD.length) (hd:=rfl) (hw:=rfl) (hex:=⟨_,0,rfl,by omega⟩) (h:=fun x hx=>cl rfl rfl (next_ti l hl (rD.length:Int) (by omega) (by omega) oT b1 x hx) fun v s' ⟨⟨n,hv,n0,n1⟩,hs⟩=>nl ⟨v,rfl,⟨n.toNat,by rw [hv,Int.toNat_of_nonneg n0],by omega⟩,hs⟩);rintro v ⟨m,rfl,hm⟩;obtain ⟨q0,hq0,hq0l⟩:=nD m hm;apply diE (Q:=fun v=>∃ m:Nat,v=.eptr 1 rD m 0∧m < rD.length) (hd:=rfl) (hw:=rfl) (hex:=⟨_,m,rfl,hm⟩) (h:=fun x hx=>ix (m:=m) rfl rfl rfl rfl hm (nl ⟨_,rfl,⟨m,rfl,hm⟩,hx⟩));rintro v ⟨m1,rfl,hm1⟩;obtain ⟨q1,hq1,hq1l⟩:=nD m1 hm1;apply diE (Q:=fun v=>∃ w:List UInt8,v=.str w∧w.length≤30) (hd:=rfl) (hw:=rfl) (hex:=⟨_,q1,rfl,hq1l⟩) (h:=fun x hx=>Go.AM.le rfl rfl hq1 rfl (nl ⟨_,rfl,⟨q1,rfl,hq1l⟩,hx⟩));rintro v ⟨w,rfl,wl⟩;apply diQ (hd:=rfl) (hw:=rfl) (h:=fun x hx=>bsh (cs:=[.str [120],.str [121]]) rfl rfl rfl rfl rfl (nl ⟨_,rfl,rfl,rfl⟩));repeat (first|apply diQ (hd:=rfl) (hw:=rfl) (h:=fun st1 hI=>lc rfl rfl (hM st1 hI) rfl rfl (nl ⟨_,rfl,rfl,rfl⟩))|apply diQ (hd:=rfl) (hw:=rfl) (h:=fun _ _=>ZA (z:=nz))|apply diQ (hd:=rfl) (hw:=rfl) (h:=fun _ _=>ZC (z:=nz)))
    apply diE (Q:=fun v=>∃ m:Nat,v=.int .i64 (m:Int)∧m < 2) (hd:=rfl) (hw:=rfl) (hex:=⟨_,0,rfl,by decide⟩) (h:=fun x hx=>cl rfl rfl (next_ti l hl 2 (by decide) (by decide) oT b1 x hx) fun v s' ⟨⟨n,hv,n0,n1⟩,hs⟩=>nl ⟨v,rfl,⟨n.toNat,by rw [hv,Int.toNat_of_nonneg n0],by omega⟩,hs⟩);rintro v ⟨m2,rfl,hm2⟩;have fxy:∀ m,m < 2→∃ b:List UInt8,(chunk (0 + 1) 2 [AV.str [120],AV.str [121]])[m]?=some [.str b]∧b.length≤1:=fun m hm=>match m,hm with
     | 0,_=>⟨_,rfl,by decide⟩
     | 1,_=>⟨_,rfl,by decide⟩
    apply diE (Q:=fun v=>∃ m:Nat,v=.eptr 1 (chunk (0 + 1) 2 [AV.str [120],AV.str [121]]) m 0∧m < 2) (hd:=rfl) (hw:=rfl) (hex:=⟨_,m2,rfl,hm2⟩) (h:=fun x hx=>ix (m:=m2) rfl rfl rfl rfl (by exact hm2) (nl ⟨_,rfl,⟨m2,rfl,hm2⟩,hx⟩));rintro v ⟨m3,rfl,hm3⟩;obtain ⟨b3,hb3,hb3l⟩:=fxy m3 hm3;apply diE (Q:=fun v=>∃ w:List UInt8,v=.str w∧w.length≤1) (hd:=rfl) (hw:=rfl) (hex:=⟨_,b3,rfl,hb3l⟩) (h:=fun x hx=>Go.AM.le rfl rfl hb3 rfl (nl ⟨_,rfl,⟨b3,rfl,hb3l⟩,hx⟩));rintro v ⟨fw,rfl,fl⟩;refine diN fun s3 h3=>?_;refine bds (cs:=exRow 2 0 w fw nilV) rfl rfl rfl rfl ?_;obtain ⟨y,hy,rfl,y4⟩:=fin s3 h3;subst hz;refine soV rfl rfl rfl rfl rfl rfl ?_;refine goD ?_;exact AWP.ret (rets (resCW rfl (St.obj_set _ _ _) rfl rfl rfl rfl) (ex_nil _ _ _ _) (StLe.new y4 (.refl _)) ⟨⟨_,rfl,2,0,w,fw,[],rfl,by decide,by decide,by decide,by decide,wl,fl,by decide,fun r hr=>by cases hr⟩,hy⟩)
   ·refine goD ?_;exact ⟨(tl3 rfl rfl rfl),.refl _,trivial⟩
  by_cases c6:k=9
  ·by_cases c7:0 < (rA.length:Int)
   ·refine goD ?_;refine Go.AM.ad rfl rfl rfl (by omega) ?_
    skip
    refine cl rfl rfl (element_ok l hl oT oM hne b1 s2 f funcs pv (.view 1 rS kS) (.view 1 rD kD) (.view 1 rA kA) count left ⟨rA,kA,rfl,lA,nA⟩ (by simpa using c7) hM1 h2 (deep + 1) (d + 1) (fun n n0 n1=>GE_lit d n0 n1) (hEb b1 hM1)) fun v s3 ⟨⟨row,hv,hg⟩,h3⟩=>?_;subst hv;obtain ⟨p1,p2,p3,p4,p5,rfl⟩:=GE_row hg;obtain ⟨y,hy,rfl,y4⟩:=fin s3 h3;subst hz
    skip
    refine soV rfl rfl rfl rfl rfl rfl ?_;refine goD ?_;exact AWP.ret (rets (resCW rfl (St.obj_set _ _ _) rfl rfl rfl rfl) (.refl _) (StLe.new y4 (.refl _)) ⟨⟨_,rfl,hg⟩,hy⟩)
   ·refine goD ?_;exact ⟨(tl3 rfl rfl rfl),.refl _,trivial⟩
  by_cases c8:k=10
  ·refine goD ?_;refine cl rfl rfl (next_ti l hl 2 (by decide) (by decide) oT b1 s2 h2) fun v s3 ⟨⟨c,hv,n0,n1⟩,h3⟩=>?_;subst hv
   skip
   refine Go.AM.ad rfl rfl rfl (by omega) ?_;refine goE ?_;refine Go.AM.ad rfl rfl rfl (by omega) ?_
   skip
   refine cl rfl rfl (hEb b1 hM1 b1 s3 rfl h3) fun v s4 ⟨⟨row,hv,hg⟩,h4'⟩=>?_;subst hv;obtain ⟨p1,p2,p3,p4,p5,rfl⟩:=GE_row hg;refine goE ?_;refine bds (cs:=exRow (4 + c) 0 [] [] (.view 6 [exRow p1 p2 p3 p4 (.view 6 p5 .shared)] .shared)) rfl rfl rfl rfl ?_;obtain ⟨y,hy,rfl,y4⟩:=fin s4 h4';subst hz;refine soV rfl rfl rfl rfl rfl rfl ?_;refine goD ?_;exact AWP.ret (rets (resCW rfl (St.obj_set _ _ _) rfl rfl rfl rfl) (.refl _) (StLe.new y4 (.refl _)) ⟨⟨_,rfl,4 + c,0,[],[],_,rfl,by omega,by omega,by decide,by decide,by decide,by decide,by simp,fun r hr=>by rw [List.mem_singleton] at hr; subst hr; exact hg⟩,hy⟩)
  refine goD ?_;exact ⟨(tl3 rfl rfl rfl),.refl _,trivial⟩
 refine goD ?_;refine cl rfl rfl (next_ti l hl 12 (by decide) (by decide) oT b1 s2 h2) fun v s3 ⟨⟨c,hv,n0,n1⟩,h3⟩=>?_;subst hv;have m3:=hM s3 h3
 skip
 refine Go.AM.ad rfl rfl rfl (by omega) ?_;refine goD ?_;refine Go.AM.ad rfl rfl rfl (by omega) ?_
 skip
 refine cl rfl rfl (hEb b1 hM1 b1 s3 rfl h3) fun v s4 ⟨⟨row,hv,hg⟩,h4'⟩=>?_;subst hv;obtain ⟨p1,p2,p3,p4,p5,rfl⟩:=GE_row hg;refine goD ?_;refine AWP.weaken (tl5 (i0:=7) (i1:=6) (i2:=4) (i3:=1) (i4:=0) rfl rfl rfl rfl rfl) (.refl _) ?_;apply AWP.drawI (hm:=rfl) (k:=7) (I:=TI l oT b1) (hI:=h4')
 case hok=>rfl
 repeat (first|apply diQ (hd:=rfl) (hw:=rfl) (h:=fun _ _=>ZA (z:=nz))|apply diQ (hd:=rfl) (hw:=rfl) (h:=fun _ _=>ZD (z:=nz))|apply diQ (hd:=rfl) (hw:=rfl) (h:=fun _ _=>YJ (z:=nz)))
 apply diE (Q:=fun v=>∃ row,v=.agg row∧GE (d + 1) row) (hd:=rfl) (hw:=rfl) (hex:=⟨_,_,rfl,hg⟩) (h:=fun x hx=>cl rfl rfl (hEb b1 hM1 b1 x rfl hx) fun v s' hv=>nl ⟨v,rfl,hv⟩);rintro v ⟨row2,rfl,hg2⟩;obtain ⟨q1,q2,q3,q4,q5,rfl⟩:=GE_row hg2;apply diE (Q:=fun v=>∃ row,v=.view 6 [exRow p1 p2 p3 p4 (.view 6 p5 .shared),row] .shared∧GE (d + 1) row) (hd:=rfl) (hw:=rfl) (hex:=⟨_,_,rfl,hg⟩) (h:=fun x hx=>bsh (cs:=exRow p1 p2 p3 p4 (.view 6 p5 .shared)++exRow q1 q2 q3 q4 (.view 6 q5 .shared)) rfl rfl rfl rfl rfl (nl ⟨_,rfl,⟨exRow q1 q2 q3 q4 (.view 6 q5 .shared),rfl,hg2⟩,hx⟩));rintro v ⟨row3,rfl,hg3⟩;refine diN fun s5 h5=>?_;obtain ⟨r1,r2,r3,r4,r5,rfl⟩:=GE_row hg3;refine bds (cs:=exRow (6 + c) 0 [] [] (.view 6 [exRow p1 p2 p3 p4 (.view 6 p5 .shared),exRow r1 r2 r3 r4 (.view 6 r5 .shared)] .shared)) rfl rfl rfl rfl ?_;obtain ⟨y,hy,rfl,y4⟩:=fin s5 h5;subst hz;refine soV rfl rfl rfl rfl rfl rfl ?_;refine goD ?_;exact AWP.ret (rets (resCW rfl (St.obj_set _ _ _) rfl rfl rfl rfl) (.refl _) (StLe.new y4 (.refl _)) ⟨⟨_,rfl,6 + c,0,[],[],_,rfl,by omega,by omega,by decide,by decide,by decide,by decide,by simp,fun r hr=>by
  rw [List.mem_cons,List.mem_singleton] at hr;rcases hr with hr|hr <;> subst hr
  ·exact hg
  ·exact hg3⟩,hy⟩)
end Go.Proofs
namespace Go.Proofs
open Go.AM
attribute [local irreducible] AWP AOps ACalls AAny
set_option linter.unusedSimpArgs false
theorem GE_mono:∀ {d:Nat} {row:List AV},GE d row→GE (d + 1) row
 | 0,_,h=>h.elim
 | d + 1,row,h=>by
  obtain ⟨op,num,name,field,rows,rfl,h1,h2,h3,h4,h5,h6,h7,h8⟩:=h;exact ⟨op,num,name,field,rows,rfl,h1,h2,h3,h4,h5,h6,h7,fun r hr=>GE_mono (h8 r hr)⟩
theorem GE_le {d e:Nat} (hde:d≤e) {row:List AV} (h:GE d row):GE e row:=by
 induction hde with
 | refl=>exact h
 | step _ ih=>exact GE_mono ih
set_option maxHeartbeats 4000000 in
theorem expr_deep (l:List Int) (hl:l.length≤17592186043904) (oT oM:Nat) (hne:oM≠oT) (st0 s:St) (f funcs:Int) (pv sv tv av:AV) (count left:Int) (hM0:st0.obj oM=some (mkC oT f funcs pv sv tv av count left)) (h:TI l oT st0 s) (deep:Int) (d1:3≤deep) :
  ACalls Tryz.prog 67 [.cptr oM 9 0 0,.int .i64 deep] s (fun v s'=>(∃ row,v=.agg row∧GE 1 row)∧TI l oT st0 s') (fun _ _=>False):=by
 refine ACalls.ofBody Tryz.func67 rfl Tryz.ntmps67 rfl ?_;refine goC ?_;refine rg ?_;refine al rfl rfl fun o4 h4=>?_;have o4T:o4≠oT:=fun e=>by obtain ⟨j,_,hj⟩:=h.obj; rw [e,hj] at h4; cases h4
 have o4M:oM≠o4:=fun e=>by rw [← e,h.other hne,hM0] at h4; cases h4
 generalize hz:AObj.cells 95 6 [zrow (Value.agg #[.int .i64 0,.int .i64 0,.int .i64 0,.string ⟨#[]⟩,.string ⟨#[]⟩,.slice none 0 0])]=z;have h1:=h.under (c:=z) o4T;obtain ⟨b1,hb1⟩:∃ b1,b1=st0.set o4 z:=⟨_,rfl⟩;rw [← hb1] at h1;have hM1:b1.obj oM=some (mkC oT f funcs pv sv tv av count left):=by rw [hb1,St.obj_set_ne o4M]; exact hM0
 have hM:∀ x,TI l oT b1 x→x.obj oM=some (mkC oT f funcs pv sv tv av count left):=fun x hx=>by rw [hx.other hne]; exact hM1
 have fin:∀ x,TI l oT b1 x→∃ y,TI l oT st0 y∧x=y.set o4 z∧y.obj o4=none:=fun x ⟨j,hj,hx⟩=>⟨st0.set oT (tapeC l j),⟨j,hj,rfl⟩,by rw [hx,hb1,St.set_comm _ o4T],by
  obtain ⟨i,_,hi⟩:=h;rw [hi,St.obj_set_ne o4T] at h4;rw [St.obj_set_ne o4T,h4]⟩
 generalize s.set o4 z=s1 at h1;have m1:=hM s1 h1;refine goD ?_;refine cl rfl rfl (next_ti l hl 16 (by decide) (by decide) oT b1 s1 h1) fun v s2 ⟨⟨k,hv,k0,k1⟩,h2⟩=>?_;subst hv;have m2:=hM s2 h2;refine goD ?_;refine cl rfl rfl (number_ti l hl oT b1 s2 h2) fun v s3 ⟨⟨x,hv,x0,x1⟩,h3⟩=>?_;subst hv;refine goE ?_;obtain ⟨y,hy,rfl,y4⟩:=fin s3 h3;subst hz;refine soV rfl rfl rfl rfl rfl rfl ?_;refine goD ?_;exact AWP.ret (rets (resCW rfl (St.obj_set _ _ _) rfl rfl rfl rfl) (.refl _) (StLe.new y4 (.refl _)) ⟨⟨_,rfl,GE_lit 0 x0 x1⟩,hy⟩)
theorem expr_all (l:List Int) (hl:l.length≤17592186043904) (oT oM:Nat) (hne:oM≠oT) (st0:St) (f funcs:Int) (pv sv tv av:AV) (count left:Int) (S:NL sv) (D:NL tv) (A:NL av) (hM0:st0.obj oM=some (mkC oT f funcs pv sv tv av count left)) :
  ∀ i:Nat,i≤3→ExprC l oT oM st0 (3 - i:Int) (i + 1)
 | 0,_=>fun b s hb h=>expr_deep l hl oT oM hne b s f funcs pv sv tv av count left (hb.trans hM0) h _ (by omega)
 | i + 1,hi=>fun b s hb h=>by
  have ih:=expr_all l hl oT oM hne b f funcs pv sv tv av count left S D A (hb.trans hM0) i (by omega)
  have e:(3 - (i:Int))=3 - ((i + 1:Nat):Int) + 1:=by omega
  rw [e] at ih;exact expr_step l hl oT oM hne b s f funcs pv sv tv av count left S D A (hb.trans hM0) h _ i (by omega) (by omega) ih
theorem ExprC.le {l:List Int} {oT oM:Nat} {st:St} {deep:Int} {d e:Nat} (h:ExprC l oT oM st deep d) (hde:d≤e):ExprC l oT oM st deep e:=fun b s hb hs =>
 (h b s hb hs).mono (fun _ _ ⟨⟨row,hv,hg⟩,ht⟩=>⟨⟨row,hv,GE_le hde hg⟩,ht⟩) (fun _ _ h=>h)

theorem wrapu8 {a:Int} (h:0≤a∧a < 256):IntKind.u8.wrap a=a:=by
 show a % 256=a;omega
def digs:Nat→Nat→List UInt8
 | 0,_=>[]
 | k + 1,n=>if n < 10 then [UInt8.ofNat (48 + n)] else digs k (n / 10)++[UInt8.ofNat (48 + n % 10)]
theorem digs_len:∀ (k n:Nat),(digs k n).length≤k
 | 0,_=>by simp [digs]
 | k + 1,n=>by
  rw [digs];split
  ·simp
  ·have:=digs_len k (n / 10);simp; omega
theorem digits_ok:∀ (k n:Nat),n < 10 ^ k→1≤k→k≤18→∀ st,ACalls Tryz.prog 62 [.int .i64 (n:Int)] st (fun v st'=>v=.str (digs k n)∧st'=st) (fun _ _=>False)
 | 0,n,_,h1,_,st=>by omega
 | k + 1,n,hn,_,hk,st=>by
  have hp:10 ^ (k + 1)≤10 ^ 18:=Nat.pow_le_pow_right (by omega) hk
  have ih:=digits_ok k;refine ACalls.ofBody Tryz.func62 rfl Tryz.ntmps62 rfl ?_;refine goD ?_;by_cases h10:n < 10
  ·refine goD ?_;refine adn (a:=48) rfl rfl rfl (by omega) ?_;have hb:(UInt8.ofNat (48 + n)).toNat=48 + n:=by rw [UInt8.toNat_ofNat']; omega
   refine cv (c:=((48 + n:Nat):Int)) rfl rfl (wrapu8 (by omega)) ?_;rw [← hb];have e:digs (k + 1) n=[UInt8.ofNat (48 + n)]:=by rw [digs,if_pos h10]
   rw [e];generalize UInt8.ofNat (48 + n)=b;refine goD ?_;refine cbs (l:=[b]) rfl rfl ?_;refine goD ?_;exact AWP.ret (rets rfl (.refl _) (.refl _) ⟨rfl,rfl⟩)
  ·have e:digs (k + 1) n=digs k (n / 10)++[UInt8.ofNat (48 + n % 10)]:=by rw [digs,if_neg h10]
   have hk1:1≤k:=by
    rcases Nat.eq_zero_or_pos k with h|h
    ·subst h; simp at hn; omega
    ·exact h
   refine goD ?_;refine qu rfl rfl rfl (by decide) (by rw [Int.tdiv_eq_ediv_of_nonneg (by omega)]; omega) ?_;rw [show ((n:Int)).tdiv 10=((n / 10:Nat):Int) by rw [Int.tdiv_eq_ediv_of_nonneg (by omega)]; omega];refine cle rfl rfl (ih (n / 10) (by rw [Nat.pow_succ] at hn; omega) hk1 (by omega) st) ?_;refine goE ?_;refine rm rfl rfl rfl (by decide) ?_;rw [show ((n:Int)).tmod 10=((n % 10:Nat):Int) by rw [Int.tmod_eq_emod_of_nonneg (by omega)]; omega];have h1:=ih (n % 10) (Nat.lt_of_lt_of_le (Nat.mod_lt _ (by omega)) (Nat.pow_le_pow_right (n:=10) (by omega) hk1)) hk1 (by omega) st
   have e1:digs k (n % 10)=[UInt8.ofNat (48 + n % 10)]:=by
    obtain ⟨j,rfl⟩:∃ j,k=j + 1:=⟨k - 1,by omega⟩;rw [digs,if_pos (Nat.mod_lt _ (by omega))]
   rw [e1] at h1;refine cle rfl rfl h1 ?_;refine sad rfl rfl rfl (by have:=digs_len k (n / 10); simp only [List.length_cons,List.length_nil]; omega) ?_;rw [e];refine goD ?_;exact AWP.ret (rets rfl (.refl _) (.refl _) ⟨rfl,rfl⟩)
structure MEnv where
 l:List Int
 oT:Nat
 oM:Nat
 f:Nat
 funcs:Nat
 ps:List Nat
 hl:l.length≤17592186043904
 hne:oM≠oT
 hf:f < funcs
 hfs:funcs≤4
 hps:ps.length=4
 hp:∀ p ∈ ps,p≤4
structure MA where
 j:Nat
 S:List (List UInt8)
 D:List (List UInt8)
 A:List (List UInt8)
 kS:Nat
 kD:Nat
 kA:Nat
 count:Nat
 left:Nat
def nrows (S:List (List UInt8)):List (List AV):=S.map fun s=>[AV.str s]
theorem nrows_len (S:List (List UInt8)):(nrows S).length=S.length:=List.length_map ..
theorem nrows_get {S:List (List UInt8)} {i:Nat} (h:i < S.length):(nrows S)[i]?=some [AV.str S[i]]:=by
 rw [nrows,List.getElem?_map,List.getElem?_eq_getElem h]; rfl
theorem nrows_append (S:List (List UInt8)) (s:List UInt8):nrows S++[[AV.str s]]=nrows (S++[s]):=by
 rw [nrows,nrows,List.map_append]; rfl
theorem nrows_take (S:List (List UInt8)) (n:Nat):(nrows S).take n=nrows (S.take n):=by rw [nrows,nrows,List.map_take]
def gnv (S:List (List UInt8)) (k:Nat):AV:=.view 1 (nrows S) (.own k 9)
def MA.toks (a:MA):List (Option Nat):=[some a.kS,some a.kD,some a.kA]
def MEnv.pv (E:MEnv):AV:=.view 1 (E.ps.map fun (p:Nat)=>[AV.int .i64 (p:Int)]) .shared
def MEnv.c (E:MEnv) (a:MA):AObj:=mkC E.oT (E.f:Int) (E.funcs:Int) E.pv (gnv a.S a.kS) (gnv a.D a.kD) (gnv a.A a.kA) (a.count:Int) (a.left:Int)
def MEnv.st (E:MEnv) (st0:St) (a:MA):St:=((st0.set E.oT (tapeC E.l a.j)).set E.oM (E.c a)).toks a.toks
theorem MEnv.st_M (E:MEnv) (st0:St) (a:MA):E.st st0 a=((st0.set E.oT (tapeC E.l a.j)).toks a.toks).set E.oM (E.c a):=rfl
theorem MEnv.obj_M (E:MEnv) (st0:St) (a:MA):(E.st st0 a).obj E.oM=some (E.c a):=St.obj_set _ _ _
theorem MEnv.obj_T (E:MEnv) (st0:St) (a:MA):(E.st st0 a).obj E.oT=some (tapeC E.l a.j):=by
 show ((st0.set E.oT _).set E.oM _).obj E.oT=_;rw [St.obj_set_ne (Ne.symm E.hne)];exact St.obj_set _ _ _
theorem MEnv.obj_o (E:MEnv) {st0:St} {a:MA} {o:Nat} (h1:o≠E.oT) (h2:o≠E.oM):(E.st st0 a).obj o=st0.obj o:=by
 show ((st0.set E.oT _).set E.oM _).obj o=_;rw [St.obj_set_ne h2,St.obj_set_ne h1]
theorem MEnv.new {E:MEnv} {st0:St} {a:MA} {o:Nat} (h:(E.st st0 a).obj o=none):o≠E.oT∧o≠E.oM∧st0.obj o=none:=by
 have h1:o≠E.oT:=fun e=>by rw [e,E.obj_T] at h; cases h
 have h2:o≠E.oM:=fun e=>by rw [e,E.obj_M] at h; cases h
 exact ⟨h1,h2,by rw [E.obj_o h1 h2] at h; exact h⟩
theorem MEnv.under (E:MEnv) {st0:St} {a:MA} {o:Nat} (h1:o≠E.oT) (h2:o≠E.oM) (c:AObj):(E.st st0 a).set o c=E.st (st0.set o c) a:=by
 show ((((st0.set E.oT _).set E.oM _).set o c).toks _)=((((st0.set o c).set E.oT _).set E.oM _).toks _);rw [St.set_comm _ (Ne.symm h2),St.set_comm st0 (Ne.symm h1)]
theorem MEnv.tape (E:MEnv) (st0:St) (a:MA) (j:Nat):(E.st st0 a).set E.oT (tapeC E.l j)=E.st st0 { a with j:=j }:=by
 show ((((st0.set E.oT _).set E.oM _).set E.oT _).toks _)=_;rw [St.set_comm _ E.hne,St.set_set];rfl
structure MV (E:MEnv) (st0:St) (a:MA):Prop where
 j:a.j≤E.l.length
 nS:∀ s ∈ a.S,s.length≤30
 nD:∀ s ∈ a.D,s.length≤30
 nA:∀ s ∈ a.A,s.length≤30
 lS:a.S.length≤4 + a.count
 lD:a.D.length≤a.count
 lA:a.A.length≤a.count
 c:a.count + a.left≤22
 tk:TokL st0 a.toks
structure MLe (a b:MA):Prop where
 S:a.S.length≤b.S.length
 D:a.D.length≤b.D.length
 A:a.A.length≤b.A.length
 left:b.left≤a.left
theorem MLe.refl (a:MA):MLe a a:=⟨Nat.le_refl _,Nat.le_refl _,Nat.le_refl _,Nat.le_refl _⟩
theorem MLe.trans {a b c:MA} (h:MLe a b) (k:MLe b c):MLe a c:=⟨Nat.le_trans h.S k.S,Nat.le_trans h.D k.D,Nat.le_trans h.A k.A,Nat.le_trans k.left h.left⟩
theorem TokL.of_tok {st st':St} {L:List (Option Nat)} (h:TokL st L) (e:st'.tok=st.tok):TokL st' L:=⟨h.one,fun i t hi=>by rw [e]; exact h.fresh i t hi⟩
theorem MV.set {E:MEnv} {st0:St} {a:MA} (h:MV E st0 a) (o:Nat) (c:AObj):MV E (st0.set o c) a:={ h with tk:=TokL.of_tok h.tk rfl }
theorem MV.unset {E:MEnv} {st0:St} {a:MA} {o:Nat} {c:AObj} (h:MV E (st0.set o c) a):MV E st0 a:={ h with tk:=TokL.of_tok h.tk rfl }
theorem MV.tape {E:MEnv} {st0:St} {a:MA} (h:MV E st0 a) {j:Nat} (hj:j≤E.l.length):MV E st0 { a with j:=j }:={ h with j:=hj }
def NL.mk' {S:List (List UInt8)} {k:Nat} (h:∀ s ∈ S,s.length≤30) (hl:S.length≤60):NL (gnv S k) where
 rows:=nrows S
 tok:=.own k 9
 is:=rfl
 len:=by rw [nrows_len]; exact hl
 name i hi:=by
  rw [nrows_len] at hi;exact ⟨_,nrows_get hi,h _ (List.getElem_mem hi)⟩
def MV.NS {E:MEnv} {st0:St} {a:MA} (h:MV E st0 a):NL (gnv a.S a.kS):=.mk' h.nS (by have:=h.lS; have:=h.c; omega)
def MV.ND {E:MEnv} {st0:St} {a:MA} (h:MV E st0 a):NL (gnv a.D a.kD):=.mk' h.nD (by have:=h.lD; have:=h.c; omega)
def MV.NA {E:MEnv} {st0:St} {a:MA} (h:MV E st0 a):NL (gnv a.A a.kA):=.mk' h.nA (by have:=h.lA; have:=h.c; omega)
theorem MEnv.ti (E:MEnv) {st0:St} {a:MA} (hv:MV E st0 a):TI E.l E.oT (E.st st0 a) (E.st st0 a):=⟨a.j,hv.j,(E.tape st0 a a.j).symm⟩
theorem MEnv.of_ti {E:MEnv} {st0:St} {a:MA} {s:St} (h:TI E.l E.oT (E.st st0 a) s):∃ j,j≤E.l.length∧s=E.st st0 { a with j:=j }:=by
 obtain ⟨j,hj,rfl⟩:=h;exact ⟨j,hj,E.tape st0 a j⟩
def MJ (E:MEnv) (st0:St) (a:MA) (s:St):Prop:=∃ j,j≤E.l.length∧s=E.st st0 { a with j:=j }
theorem next_m (E:MEnv) {st0:St} {a:MA} (hv:MV E st0 a) (k:Int) (hk:0 < k) (hk2:k≤4611686018427387904) :
  ACalls Tryz.prog 37 [.cptr E.oT 2 0 0,.int .i64 k] (E.st st0 a) (fun v s'=>(∃ n:Nat,v=.int .i64 (n:Int)∧(n:Int) < k)∧MJ E st0 a s') (fun _ _=>False):=by
 refine (next_ti E.l E.hl k hk hk2 E.oT _ _ (E.ti hv)).mono (fun v s' ⟨⟨n,h1,h2,h3⟩,h4⟩=>?_) (fun _ _ h=>h);exact ⟨⟨n.toNat,by rw [h1,Int.toNat_of_nonneg h2],by omega⟩,MEnv.of_ti h4⟩
theorem expr_m (E:MEnv) {st0:St} {a:MA} (hv:MV E st0 a) (deep:Int) (h0:0≤deep) (h3:deep≤3) :
  ACalls Tryz.prog 67 [.cptr E.oM 9 0 0,.int .i64 deep] (E.st st0 a) (fun v s'=>(∃ row,v=.agg row∧GE 4 row)∧MJ E st0 a s') (fun _ _=>False):=by
 have h:=expr_all E.l E.hl E.oT E.oM E.hne (E.st st0 a) _ _ _ _ _ _ _ _ hv.NS hv.ND hv.NA (E.obj_M st0 a) (3 - deep).toNat (by omega);rw [show 3 - ((3 - deep).toNat:Int)=deep by omega] at h;exact ((h.le (e:=4) (by omega)) _ _ rfl (E.ti hv)).mono (fun v s' ⟨h1,h2⟩=>⟨h1,MEnv.of_ti h2⟩) (fun _ _ h=>h)
theorem element_m (E:MEnv) {st0:St} {a:MA} (hv:MV E st0 a) (hA:0 < a.A.length) :
  ACalls Tryz.prog 97 [.cptr E.oM 9 0 0,.int .i64 1] (E.st st0 a) (fun v s'=>(∃ row,v=.agg row∧GE 4 row)∧MJ E st0 a s') (fun _ _=>False):=by
 have h:=expr_all E.l E.hl E.oT E.oM E.hne (E.st st0 a) _ _ _ _ _ _ _ _ hv.NS hv.ND hv.NA (E.obj_M st0 a) 2 (by omega)
 have h2:=element_ok E.l E.hl E.oT E.oM E.hne (E.st st0 a) (E.st st0 a) _ _ _ _ _ _ _ _ hv.NA (by show 0 < (nrows a.A).length; rw [nrows_len]; exact hA) (E.obj_M st0 a) (E.ti hv) 1 3 (fun n h1 h2=>GE_lit 2 h1 h2) h;exact h2.mono (fun v s' ⟨h1,h2⟩=>⟨h1,MEnv.of_ti h2⟩) (fun _ _ h=>h)
theorem fresh_m (E:MEnv) {st0:St} {a:MA} (hc:a.count < 30) :
  ACalls Tryz.prog 70 [.cptr E.oM 9 0 0] (E.st st0 a) (fun v s'=>(∃ w:List UInt8,v=.str w∧w.length≤30)∧s'=E.st st0 { a with count:=a.count + 1 }) (fun _ _=>False):=by
 refine ACalls.ofBody Tryz.func70 rfl Tryz.ntmps70 rfl ?_;have hM:=E.obj_M st0 a;refine goD ?_;rw [E.st_M st0 a];unfold MEnv.c mkC;refine YB (row':=mkRow E.oT E.f E.funcs E.pv (gnv a.S a.kS) (gnv a.D a.kD) (gnv a.A a.kA) ((a.count + 1:Nat):Int) a.left) (hle:=by exact Nat.le_of_ble_eq_true rfl) (he:=by exact rfl) (z:=?_);refine goD ?_;have hd:=digits_ok 18 (a.count + 1) (by omega) (by decide) (by decide);refine cle rfl rfl (hd _) ?_;have hl:=digs_len 18 (a.count + 1);refine sad rfl rfl rfl (by simp only [List.length_cons,List.length_nil]; omega) ?_;refine goD ?_;exact AWP.ret (rets rfl (.refl _) (.refl _) ⟨⟨_,rfl,by simp only [List.length_append,List.length_cons,List.length_nil]; omega⟩,rfl⟩)
def stRow (kind len:Int) (name typ fn:List UInt8) (tg args body els:AV):List AV:=[.int .i64 kind,.int .i64 0,.int .i64 0,.str name,.str typ,.int .i64 len,.int .i64 0,tg,.str fn,.int .i64 0,args,body,els]
def vw (sz:Nat) (rows:List (List AV)):AV:=.view sz rows .shared
theorem st_le {kind len:Int} {name typ fn:List UInt8} {tg args body els tg' args' body' els':AV} (h1:Le tg tg') (h2:Le args args') (h3:Le body body') (h4:Le els els') (g1:tg'.one=true) (g2:args'.one=true) (g3:body'.one=true) (g4:els'.one=true) :
  Le (.agg (stRow kind len name typ fn tg args body els)) (.agg (stRow kind len name typ fn tg' args' body' els')):=by
 refine .agg _ _ rfl (fun c hc=>by simp only [stRow,List.mem_cons,List.not_mem_nil,or_false] at hc; rcases hc with rfl|rfl|rfl|rfl|rfl|rfl|rfl|rfl|rfl|rfl|rfl|rfl|rfl <;> first|rfl|assumption) fun i a b h1 h2=>?_
 match i,h1,h2 with
 | 0,h1,h2=>cases h1; cases h2; exact .refl _
 | 1,h1,h2=>cases h1; cases h2; exact .refl _
 | 2,h1,h2=>cases h1; cases h2; exact .refl _
 | 3,h1,h2=>cases h1; cases h2; exact .refl _
 | 4,h1,h2=>cases h1; cases h2; exact .refl _
 | 5,h1,h2=>cases h1; cases h2; exact .refl _
 | 6,h1,h2=>cases h1; cases h2; exact .refl _
 | 7,h1,h2=>cases h1; cases h2; assumption
 | 8,h1,h2=>cases h1; cases h2; exact .refl _
 | 9,h1,h2=>cases h1; cases h2; exact .refl _
 | 10,h1,h2=>cases h1; cases h2; assumption
 | 11,h1,h2=>cases h1; cases h2; assumption
 | 12,h1,h2=>cases h1; cases h2; assumption
 | i + 13,h1,h2=>cases h1
def GS:Nat→List AV→Prop
 | 0,_=>False
 | d + 1,row=>∃ (kind len:Int) (name typ fn:List UInt8) (tg args body els:List (List AV)),row=stRow kind len name typ fn (vw 6 tg) (vw 6 args) (vw 13 body) (vw 13 els)∧0≤kind∧kind≤30∧0≤len∧len≤9 ∧
   name.length≤30∧typ.length≤30∧fn.length≤30∧tg.length≤1∧args.length≤4∧body.length≤60∧els.length≤60∧(∀ r ∈ tg,GE 4 r)∧(∀ r ∈ args,GE 4 r)∧(∀ r ∈ body,GS d r)∧∀ r ∈ els,GS d r
theorem GS_mono:∀ {d:Nat} {row:List AV},GS d row→GS (d + 1) row
 | 0,_,h=>h.elim
 | d + 1,row,h=>by
  obtain ⟨kind,len,name,typ,fn,tg,args,body,els,rfl,h1,h2,h3,h4,h5,h6,h7,h8,h9,h10,h11,h12,h13,h14,h15⟩:=h;exact ⟨kind,len,name,typ,fn,tg,args,body,els,rfl,h1,h2,h3,h4,h5,h6,h7,h8,h9,h10,h11,h12,h13,fun r hr=>GS_mono (h14 r hr),fun r hr=>GS_mono (h15 r hr)⟩
theorem GS_le {d e:Nat} (hde:d≤e) {row:List AV} (h:GS d row):GS e row:=by
 induction hde with
 | refl=>exact h
 | step _ ih=>exact GS_mono ih
theorem GS_row {d:Nat} {row:List AV} (h:GS d row):∃ (kind len:Int) (name typ fn:List UInt8) (tg args body els:List (List AV)),row=stRow kind len name typ fn (vw 6 tg) (vw 6 args) (vw 13 body) (vw 13 els):=by
 cases d with
 | zero=>exact h.elim
 | succ d=>obtain ⟨kind,len,name,typ,fn,tg,args,body,els,rfl,_⟩:=h; exact ⟨_,_,_,_,_,_,_,_,_,rfl⟩
theorem toks_set (st:St) (o:Nat) (c:AObj) (L:List (Option Nat)):(st.set o c).toks L=(st.toks L).set o c:=rfl
theorem MEnv.st_K (E:MEnv) (st0:St) (a:MA):E.st st0 a=((st0.set E.oT (tapeC E.l a.j)).set E.oM (E.c a)).toks a.toks:=rfl
def zSt:AObj:=.cells 41 13 [stRow 0 0 [] [] [] nilV nilV nilV nilV]
theorem declare_m (E:MEnv) {st0:St} {a:MA} (hv:MV E st0 a) (hc:a.count + a.left≤21) :
  ACalls Tryz.prog 66 [.cptr E.oM 9 0 0] (E.st st0 a) (fun v s'=>(∃ row,v=.agg row∧GS 1 row)∧∃ b,MV E st0 b∧MLe a b∧b.count≤a.count + 1∧b.left=a.left∧s'=E.st st0 b) (fun _ _=>False):=by
 refine ACalls.ofBody Tryz.func66 rfl Tryz.ntmps66 rfl ?_;refine goC ?_;refine rg ?_;refine al rfl rfl fun o2 h2=>?_;obtain ⟨n2T,n2M,h2'⟩:=MEnv.new h2;show AOps _ _ _ _ _ _ _ ((E.st st0 a).set o2 zSt);rw [E.under n2T n2M];refine goD ?_;refine cl rfl rfl (fresh_m E (st0:=st0.set o2 zSt) (a:=a) (by omega)) fun v s' ⟨⟨w,hw,wl⟩,hs⟩=>?_;subst hw hs;refine bds (cs:=stRow 1 0 w [] [] nilV nilV nilV nilV) rfl rfl rfl rfl ?_;refine al rfl rfl fun o3 h3=>?_;obtain ⟨n3T,n3M,h3'⟩:=MEnv.new h3;refine soV rfl rfl rfl rfl rfl rfl ?_;have n32:o3≠o2:=fun e=>by rw [e,St.obj_set] at h3'; cases h3'
 rw [E.under n3T n3M];obtain ⟨a1,ha1⟩:∃ a1:MA,a1={ a with count:=a.count + 1 }:=⟨_,rfl⟩;rw [← ha1];have hv1:MV E st0 a1:=by
  subst ha1;exact { hv with lS:=by have:=hv.lS; simp only; omega,lD:=by have:=hv.lD; simp only; omega,lA:=by have:=hv.lA; simp only; omega,c:=by simp only; omega }
 have c1:a1.count=a.count + 1∧a1.left=a.left∧a1.S=a.S∧a1.D=a.D∧a1.A=a.A:=by subst ha1; exact ⟨rfl,rfl,rfl,rfl,rfl⟩
 clear ha1
 skip
 refine nl ?_;refine cut (α:=MA × List UInt8 × Int) (fun _=>[(3,.cptr o3 13 0 0),(2,.cptr o2 13 0 0),(0,.cptr E.oM 9 0 0)]) (fun x=>E.st ((st0.set o2 zSt).set o3 (.cells 41 13 [stRow 1 x.2.2 w x.2.1 [] nilV nilV nilV nilV])) x.1)
  (fun x=>MV E st0 x.1∧MLe a x.1∧x.1.count≤a.count + 1∧x.1.left=a.left∧x.2.1.length≤30∧0≤x.2.2∧x.2.2≤9) ?_ ?_
 ·obtain ⟨B,hB⟩:∃ B,B=((st0.set o2 zSt).set o3 (.cells 41 13 [AV.cells (.agg (stRow 1 0 w [] [] nilV nilV nilV nilV))])):=⟨_,rfl⟩;rw [← hB];have hvB:MV E B a1:=by rw [hB]; exact (hv1.set _ _).set _ _
  have hM1:=E.obj_M B a1;refine goD ?_;refine cl rfl rfl (next_m E hvB 5 (by decide) (by decide)) fun v s' ⟨⟨n,hv,hn⟩,j,hj,hs⟩=>?_;subst hv hs;obtain ⟨a2,ha2⟩:∃ a2:MA,a2={ a1 with j:=j }:=⟨_,rfl⟩;rw [← ha2];have hv2:MV E st0 a2:=by rw [ha2]; exact hv1.tape hj
  have c2:a2.count=a.count + 1∧a2.left=a.left∧a2.S=a.S∧a2.D=a.D∧a2.A=a.A:=by subst ha2; exact c1
  clear ha2 hM1 hvB;have hM2:=E.obj_M B a2
  have h32:(E.st B a2).obj o3=some (.cells 41 13 [stRow 1 0 w [] [] nilV nilV nilV nilV]):=by rw [E.obj_o n3T n3M,hB]; exact St.obj_set _ _ _
  by_cases e3:n=3
  ·subst e3;refine goD ?_;rw [hB,← E.under n3T n3M];refine YB (row':=stRow 1 0 w [80] [] nilV nilV nilV nilV) (hle:=by exact Nat.le_of_ble_eq_true rfl) (he:=by exact rfl) (z:=?_);rw [E.under n3T n3M];obtain ⟨B3,hB3⟩:∃ B3,B3=(st0.set o2 zSt).set o3 (.cells 41 13 [stRow 1 0 w [80] [] nilV nilV nilV nilV]):=⟨_,rfl⟩;rw [← hB3];have hM3:=E.obj_M B3 a2
   have h33:(E.st B3 a2).obj o3=some (.cells 41 13 [stRow 1 0 w [80] [] nilV nilV nilV nilV]):=by rw [E.obj_o n3T n3M,hB3]; exact St.obj_set _ _ _
   refine goD ?_;refine AWP.draw rfl 9 8 (fun v s=>∃ k',TokL ((B3.set E.oT (tapeC E.l a2.j)).set E.oM (E.c a2)) (a2.toks.set 1 (some k'))∧v=.view 1 (nrows (a2.D++[w])) (.own k' 9)∧s=((B3.set E.oT (tapeC E.l a2.j)).set E.oM (E.c a2)).toks (a2.toks.set 1 (some k'))) rfl ?_;refine goF ?_;refine de rfl rfl rfl ?_ ?_
   ·rw [E.st_K B3 a2];refine apx (o:=some a2.kD) 1 rfl rfl rfl (TokL.of_tok hv2.tk (by rw [hB3]; rfl)) rfl (fun h=>by cases h) rfl ?_ ?_ fun k' htk=>nl ⟨_,rfl,⟨k',htk,by rw [nrows_append],rfl⟩,⟨fun _ _ h=>h,fun _ h=>(by cases h),rfl⟩⟩
    ·rw [nrows_len]; simp only [List.length_cons,List.length_nil]; have:=hv2.lD; have:=hv2.c; omega
    ·rw [nrows_len]; simp only [List.length_cons,List.length_nil,maxLen]; have:=hv2.lD; have:=hv2.c; omega
   refine dn ⟨fun h=>absurd h (by decide),fun _=>?_⟩;rintro v s1 d hd ⟨k',htk,rfl,rfl⟩;cases hd;refine goE ?_;rw [toks_set];unfold MEnv.c mkC;refine YB (row':=mkRow E.oT E.f E.funcs E.pv (gnv a2.S a2.kS) (gnv (a2.D++[w]) k') (gnv a2.A a2.kA) a2.count a2.left) (hle:=by exact Nat.le_of_ble_eq_true rfl) (he:=by exact rfl) (z:=?_);refine goD ?_;rw [hB3];refine ⟨({ a2 with D:=a2.D++[w],kD:=k' },[80],0),⟨{ hv2 with nD:=fun s hs=>?_,lD:=?_,tk:=TokL.of_tok htk (by rw [hB3]; rfl) },⟨?_,?_,?_,Nat.le_of_eq c2.2.1⟩,Nat.le_of_eq c2.1,c2.2.1,Nat.le_of_ble_eq_true rfl,(by show (0:Int)≤0; decide),(by show (0:Int)≤9; decide)⟩,(tl3 rfl rfl rfl),.refl _⟩
   ·rcases List.mem_append.1 hs with hs|hs
    ·exact hv2.nD s hs
    ·rw [List.mem_singleton.1 hs]; exact wl
   ·simp only [List.length_append,List.length_cons,List.length_nil]; have:=hv.lD; have:=c2.1; rw [c2.2.2.2.1]; omega
   ·simp only [List.length_append,c2.2.2.1]; omega
   ·simp only [List.length_append,c2.2.2.2.1]; omega
   ·simp only [List.length_append,c2.2.2.2.2]; omega
  by_cases e4:n=4
  ·subst e4;refine goD ?_;rw [hB,← E.under n3T n3M];refine YB (row':=stRow 1 3 w [] [] nilV nilV nilV nilV) (hle:=by exact Nat.le_of_ble_eq_true rfl) (he:=by exact rfl) (z:=?_);rw [E.under n3T n3M];obtain ⟨B3,hB3⟩:∃ B3,B3=(st0.set o2 zSt).set o3 (.cells 41 13 [stRow 1 3 w [] [] nilV nilV nilV nilV]):=⟨_,rfl⟩;rw [← hB3];have hM3:=E.obj_M B3 a2
   have h33:(E.st B3 a2).obj o3=some (.cells 41 13 [stRow 1 3 w [] [] nilV nilV nilV nilV]):=by rw [E.obj_o n3T n3M,hB3]; exact St.obj_set _ _ _
   refine goD ?_;refine AWP.draw rfl 9 8 (fun v s=>∃ k',TokL ((B3.set E.oT (tapeC E.l a2.j)).set E.oM (E.c a2)) (a2.toks.set 2 (some k'))∧v=.view 1 (nrows (a2.A++[w])) (.own k' 9)∧s=((B3.set E.oT (tapeC E.l a2.j)).set E.oM (E.c a2)).toks (a2.toks.set 2 (some k'))) rfl ?_;refine goF ?_;refine de rfl rfl rfl ?_ ?_
   ·rw [E.st_K B3 a2];refine apx (o:=some a2.kA) 2 rfl rfl rfl (TokL.of_tok hv2.tk (by rw [hB3]; rfl)) rfl (fun h=>by cases h) rfl ?_ ?_ fun k' htk=>nl ⟨_,rfl,⟨k',htk,by rw [nrows_append],rfl⟩,⟨fun _ _ h=>h,fun _ h=>(by cases h),rfl⟩⟩
    ·rw [nrows_len]; simp only [List.length_cons,List.length_nil]; have:=hv2.lA; have:=hv2.c; omega
    ·rw [nrows_len]; simp only [List.length_cons,List.length_nil,maxLen]; have:=hv2.lA; have:=hv2.c; omega
   refine dn ⟨fun h=>absurd h (by decide),fun _=>?_⟩;rintro v s1 d hd ⟨k',htk,rfl,rfl⟩;cases hd;refine goE ?_;rw [toks_set];unfold MEnv.c mkC;refine YB (row':=mkRow E.oT E.f E.funcs E.pv (gnv a2.S a2.kS) (gnv a2.D a2.kD) (gnv (a2.A++[w]) k') a2.count a2.left) (hle:=by exact Nat.le_of_ble_eq_true rfl) (he:=by exact rfl) (z:=?_);refine goD ?_;rw [hB3];refine ⟨({ a2 with A:=a2.A++[w],kA:=k' },[],3),⟨{ hv2 with nA:=fun s hs=>?_,lA:=?_,tk:=TokL.of_tok htk (by rw [hB3]; rfl) },⟨?_,?_,?_,Nat.le_of_eq c2.2.1⟩,Nat.le_of_eq c2.1,c2.2.1,Nat.le_of_ble_eq_true rfl,(by show (0:Int)≤3; decide),(by show (3:Int)≤9; decide)⟩,(tl3 rfl rfl rfl),.refl _⟩
   ·rcases List.mem_append.1 hs with hs|hs
    ·exact hv2.nA s hs
    ·rw [List.mem_singleton.1 hs]; exact wl
   ·simp only [List.length_append,List.length_cons,List.length_nil]; have:=hv.lA; have:=c2.1; rw [c2.2.2.2.2]; omega
   ·simp only [List.length_append,c2.2.2.1]; omega
   ·simp only [List.length_append,c2.2.2.2.1]; omega
   ·simp only [List.length_append,c2.2.2.2.2]; omega
  refine goD ?_;refine AWP.draw rfl 9 8 (fun v s=>∃ k',TokL ((B.set E.oT (tapeC E.l a2.j)).set E.oM (E.c a2)) (a2.toks.set 0 (some k'))∧v=.view 1 (nrows (a2.S++[w])) (.own k' 9)∧s=((B.set E.oT (tapeC E.l a2.j)).set E.oM (E.c a2)).toks (a2.toks.set 0 (some k'))) rfl ?_;refine goF ?_;refine de rfl rfl rfl ?_ ?_
  ·rw [E.st_K B a2];refine apx (o:=some a2.kS) 0 rfl rfl rfl (TokL.of_tok hv2.tk (by rw [hB]; rfl)) rfl (fun h=>by cases h) rfl ?_ ?_ fun k' htk=>nl ⟨_,rfl,⟨k',htk,by rw [nrows_append],rfl⟩,⟨fun _ _ h=>h,fun _ h=>(by cases h),rfl⟩⟩
   ·rw [nrows_len]; simp only [List.length_cons,List.length_nil]; have:=hv2.lS; have:=hv2.c; omega
   ·rw [nrows_len]; simp only [List.length_cons,List.length_nil,maxLen]; have:=hv2.lS; have:=hv2.c; omega
  refine dn ⟨fun h=>absurd h (by decide),fun _=>?_⟩;rintro v s1 d hd ⟨k',htk,rfl,rfl⟩;cases hd;refine goE ?_;rw [toks_set];unfold MEnv.c mkC;refine YB (row':=mkRow E.oT E.f E.funcs E.pv (gnv (a2.S++[w]) k') (gnv a2.D a2.kD) (gnv a2.A a2.kA) a2.count a2.left) (hle:=by exact Nat.le_of_ble_eq_true rfl) (he:=by exact rfl) (z:=?_);refine goD ?_;rw [hB];refine ⟨({ a2 with S:=a2.S++[w],kS:=k' },[],0),⟨{ hv2 with nS:=fun s hs=>?_,lS:=?_,tk:=TokL.of_tok htk (by rw [hB]; rfl) },⟨?_,?_,?_,Nat.le_of_eq c2.2.1⟩,Nat.le_of_eq c2.1,c2.2.1,Nat.le_of_ble_eq_true rfl,(by show (0:Int)≤0; decide),(by show (0:Int)≤9; decide)⟩,(tl3 rfl rfl rfl),.refl _⟩
  ·rcases List.mem_append.1 hs with hs|hs
   ·exact hv2.nS s hs
   ·rw [List.mem_singleton.1 hs]; exact wl
  ·simp only [List.length_append,List.length_cons,List.length_nil]; have:=hv.lS; have:=c2.1; rw [c2.2.2.1]; omega
  ·simp only [List.length_append,c2.2.2.1]; omega
  ·simp only [List.length_append,c2.2.2.2.1]; omega
  ·simp only [List.length_append,c2.2.2.2.2]; omega
 ·rintro ⟨b,ty,ln⟩ ⟨hvb,hle,hcb,hlb,hty,hl0,hl9⟩;simp only at hvb hle hcb hlb hty hl0 hl9;show AWP _ _ _ _ _ _ (E.st ((st0.set o2 zSt).set o3 (.cells 41 13 [stRow 1 ln w ty [] nilV nilV nilV nilV])) b);rw [← E.under n3T n3M,← E.under n2T n2M];refine goD ?_;refine soU rfl n32 rfl rfl rfl rfl rfl ?_;refine goD ?_;have e2:(E.st st0 b).obj o2=none:=by rw [E.obj_o n2T n2M]; exact h2'
  have e3:(E.st st0 b).obj o3=none:=by rw [E.obj_o n3T n3M]; rw [St.obj_set_ne n32] at h3'; exact h3'
  refine AWP.ret (rets (resCW rfl (St.obj_under n32 _ _) rfl rfl rfl rfl) (st_le (.nilShared _ _) (.nilShared _ _) (.nilShared _ _) (.nilShared _ _) rfl rfl rfl rfl) (StLe.new (by rw [St.obj_set_ne n32]; exact e3) (StLe.new e2 (.refl _))) ⟨⟨_,rfl,1,ln,w,ty,[],[],[],[],[],rfl,by decide,by decide,hl0,hl9,wl,hty,by decide,by decide,by decide,by decide,by decide,fun r hr=>(by cases hr),fun r hr=>(by cases hr),fun r hr=>(by cases hr),fun r hr=>(by cases hr)⟩,b,hvb,hle,hcb,hlb,rfl⟩)
def callRow (kind:Int) (fn:List UInt8) (args:AV):List AV:=stRow kind 0 [] [] fn nilV args nilV nilV
def stC (row:List AV):AObj:=.cells 41 13 [row]
theorem MJ.refl {E:MEnv} {st0:St} {a:MA} (hv:MV E st0 a):MJ E st0 a (E.st st0 a):=⟨a.j,hv.j,rfl⟩
theorem MJ.trans {E:MEnv} {st0:St} {a:MA} {j:Nat} {s:St} (h:MJ E st0 { a with j:=j } s):MJ E st0 a s:=by
 obtain ⟨k,hk,rfl⟩:=h;exact ⟨k,hk,rfl⟩
theorem MJ.M {E:MEnv} {st0:St} {a:MA} {s:St} (h:MJ E st0 a s):s.obj E.oM=some (E.c a):=by
 obtain ⟨k,hk,rfl⟩:=h;exact E.obj_M st0 { a with j:=k }
theorem next_j (E:MEnv) {st0:St} {a:MA} (hv:MV E st0 a) {s:St} (h:MJ E st0 a s) (k:Int) (hk:0 < k) (hk2:k≤4611686018427387904) :
  ACalls Tryz.prog 37 [.cptr E.oT 2 0 0,.int .i64 k] s (fun v s'=>(∃ n:Nat,v=.int .i64 (n:Int)∧(n:Int) < k)∧MJ E st0 a s') (fun _ _=>False):=by
 obtain ⟨j,hj,rfl⟩:=h;exact (next_m E (hv.tape hj) k hk hk2).mono (fun v s' ⟨h1,h2⟩=>⟨h1,h2.trans⟩) (fun _ _ h=>h)
theorem expr_j (E:MEnv) {st0:St} {a:MA} (hv:MV E st0 a) {s:St} (h:MJ E st0 a s) (deep:Int) (h0:0≤deep) (h3:deep≤3) :
  ACalls Tryz.prog 67 [.cptr E.oM 9 0 0,.int .i64 deep] s (fun v s'=>(∃ row,v=.agg row∧GE 4 row)∧MJ E st0 a s') (fun _ _=>False):=by
 obtain ⟨j,hj,rfl⟩:=h;exact (expr_m E (hv.tape hj) deep h0 h3).mono (fun v s' ⟨h1,h2⟩=>⟨h1,h2.trans⟩) (fun _ _ h=>h)
def gfnames:List AV:=[.str [102],.str [103],.str [104],.str [107]]
theorem fnames_get:∀ k:Nat,k < 4→∃ w:List UInt8,(chunk (0 + 1) 4 gfnames)[k]?=some [.str w]∧w.length≤30
 | 0,_=>⟨_,rfl,by decide⟩
 | 1,_=>⟨_,rfl,by decide⟩
 | 2,_=>⟨_,rfl,by decide⟩
 | 3,_=>⟨_,rfl,by decide⟩
theorem MEnv.ps_get (E:MEnv) {k:Nat} (hk:k < 4):∃ p:Nat,(E.ps.map fun (p:Nat)=>[AV.int .i64 (p:Int)])[k]?=some [.int .i64 (p:Int)]∧p≤4:=by
 have hl:k < E.ps.length:=by rw [E.hps]; exact hk
 refine ⟨E.ps[k],?_,E.hp _ (List.getElem_mem hl)⟩;rw [List.getElem?_map,List.getElem?_eq_getElem hl];rfl
theorem MJ.le {E:MEnv} {st0:St} {a:MA} {s:St} (h:MJ E st0 a s):StLe s ((E.st st0 a).drop E.oT):=by
 obtain ⟨j,hj,rfl⟩:=h;refine ⟨fun o c hc=>?_,fun _ h=>h,rfl⟩;have hoT:o≠E.oT:=fun e=>by rw [e] at hc; simp only [St.drop,if_true] at hc; cases hc
 rw [St.obj_drop_ne hoT] at hc;by_cases hoM:o=E.oM
 ·subst hoM;rw [E.obj_M] at hc ⊢;exact hc
 ·rw [E.obj_o hoT hoM] at hc ⊢;exact hc
theorem MEnv.under_m (E:MEnv) {st0:St} {a:MA} {e:TypeId} {sz:Nat} {rows:List (List AV)} {oo:Option Nat} (h:∀ o,oo=some o→o≠E.oT∧o≠E.oM):E.st (mst st0 e sz rows oo) a=mst (E.st st0 a) e sz rows oo:=by
 cases oo with
 | none=>rfl
 | some o=>exact (E.under (h o rfl).1 (h o rfl).2 _).symm
set_option maxHeartbeats 1000000 in
theorem call_m (E:MEnv) {st0:St} {a:MA} (hv0:MV E st0 a) (oX:Nat) (n1:oX≠E.oT) (n2:oX≠E.oM) (kind:Int) :
  ACalls Tryz.prog 71 [.cptr E.oM 9 0 0,.cptr oX 13 0 0] (E.st (st0.set oX (stC (callRow kind [] nilV))) a)
   (fun v s'=>∃ (b:Bool) (fn:List UInt8) (args:AV) (rows:List (List AV)) (j:Nat),v=.bool b∧fn.length≤30∧Le args (vw 6 rows)∧args.one=true∧rows.length≤4∧(∀ r ∈ rows,GE 4 r)∧j≤E.l.length∧s'=E.st (st0.set oX (stC (callRow kind fn args))) { a with j:=j }) (fun _ _=>False):=by
 refine ACalls.ofBody Tryz.func71 rfl Tryz.ntmps71 rfl ?_;obtain ⟨B,hB⟩:∃ B,B=st0.set oX (stC (callRow kind [] nilV)):=⟨_,rfl⟩;rw [← hB];have hv:MV E B a:=by rw [hB]; exact hv0.set _ _
 have hM:=E.obj_M B a
 have hf:=E.hf
 have hfs:=E.hfs;refine goC ?_;refine rg ?_;refine goE ?_;refine goC ?_;refine rg ?_;refine goE ?_;refine nl ?_;have hMs:∀ s,MJ E B a s→s.obj E.oM=some (E.c a):=fun s h=>h.M
 have hdone:∀ j,j≤E.l.length→∃ (b:Bool) (fn:List UInt8) (args:AV) (rows:List (List AV)) (j':Nat),(AV.bool false)=.bool b∧fn.length≤30∧Le args (vw 6 rows)∧args.one=true∧rows.length≤4∧(∀ r ∈ rows,GE 4 r)∧j'≤E.l.length∧E.st B { a with j:=j }=E.st (st0.set oX (stC (callRow kind fn args))) { a with j:=j' } :=
  fun j hj=>⟨false,[],nilV,[],j,rfl,by decide,.nilShared _ _,rfl,by decide,fun r hr=>(by cases hr),hj,by rw [hB]⟩
 refine cut (α:=Nat × Nat) (fun x=>[(5,.int .i64 (x.1:Int)),(1,.cptr oX 13 0 0),(0,.cptr E.oM 9 0 0)]) (fun x=>E.st B { a with j:=x.2 }) (fun x=>x.1 < 4∧x.2≤E.l.length) ?_ ?_
 ·refine goC ?_;refine rg ?_;refine goE ?_;refine nl ?_;refine AWP.cond_dec rfl (fun h=>?_) (fun h=>?_)
  ·have h':((E.f + 1:Nat):Int) < (E.funcs:Int):=h;apply AWP.drawI (hm:=rfl) (k:=12) (I:=MJ E B a) (hI:=MJ.refl hv)
   case hok=>rfl
   have hM:=hMs;repeat (first|apply diQ (hd:=rfl) (hw:=rfl) (h:=fun st1 hI=>lc rfl rfl (hM st1 hI) rfl rfl (nl ⟨_,rfl,rfl,rfl⟩))|apply diQ (hd:=rfl) (hw:=rfl) (h:=fun _ _=>ZA (z:=nz))|apply diQ (hd:=rfl) (hw:=rfl) (h:=fun _ _=>ZC (z:=nz))|apply diQ (hd:=rfl) (hw:=rfl) (h:=fun _ _=>YK (z:=nz)))
   apply diE (Q:=fun v=>∃ n:Nat,v=.int .i64 (n:Int)∧(n:Int) < (E.funcs:Int) - (((E.f + 1:Nat):Int))) (hd:=rfl) (hw:=rfl) (hex:=⟨_,0,rfl,by omega⟩) (h:=fun x hx=>cl rfl rfl (next_j E hv hx ((E.funcs:Int) - (((E.f + 1:Nat):Int))) (by omega) (by omega)) fun v s' hv=>nl ⟨v,rfl,hv⟩);rintro v ⟨n,rfl,hn⟩;refine diN fun s2 ⟨j,hj,hs⟩=>?_;subst hs;refine Go.AM.ad rfl rfl rfl (by omega) ?_;refine goE ?_;refine nl ⟨(E.f + 1 + n,j),⟨by simp only; omega,hj⟩,TLe.consE rfl (by simp only [Int.natCast_add]) (tl2 rfl rfl),.refl _⟩
  ·have h':¬ ((E.f + 1:Nat):Int) < (E.funcs:Int):=h;refine goD ?_;refine cl rfl rfl (next_j E hv (MJ.refl hv) 4 (by decide) (by decide)) fun v s' ⟨⟨n,hn,hn4⟩,j,hj,hs⟩=>?_;subst hn hs;refine goE ?_;refine nl ?_;refine AWP.cond_dec rfl (fun h=>?_) (fun h=>AWP.skip ?_)
   ·refine goD ?_;exact AWP.ret (rets rfl (.refl _) (.refl _) (hdone j hj))
   ·apply AWP.drawI (hm:=rfl) (k:=8) (I:=MJ E B a) (hI:=⟨j,hj,rfl⟩)
    case hok=>rfl
    have hM:=hMs;repeat (first|apply diQ (hd:=rfl) (hw:=rfl) (h:=fun st1 hI=>lc rfl rfl (hM st1 hI) rfl rfl (nl ⟨_,rfl,rfl,rfl⟩))|apply diQ (hd:=rfl) (hw:=rfl) (h:=fun _ _=>ZA (z:=nz))|apply diQ (hd:=rfl) (hw:=rfl) (h:=fun _ _=>ZC (z:=nz)))
    refine diN fun s2 hs2=>?_;refine cl rfl rfl (next_j E hv hs2 (E.funcs:Int) (by omega) (by omega)) fun v s' ⟨⟨m,hm,hm4⟩,j2,hj2,hs⟩=>?_;subst hm hs;refine goE ?_;refine nl ⟨(m,j2),⟨by simp only; omega,hj2⟩,(tl3 rfl rfl rfl),.refl _⟩
 ·rintro ⟨k,j⟩ ⟨hk,hj⟩;simp only at hk hj;have hvj:MV E st0 { a with j:=j }:=hv0.tape hj;generalize ha2:({ a with j:=j }:MA)=a2 at hvj;rw [hB];rw [← E.under n1 n2];have hM2:((E.st st0 a2).set oX (stC (callRow kind [] nilV))).obj E.oM=some (E.c a2):=by rw [St.obj_set_ne (Ne.symm n2)]; exact E.obj_M _ _
  obtain ⟨w,hw,wl⟩:=fnames_get k hk;refine goD ?_;refine bsh (cs:=gfnames) rfl rfl rfl rfl rfl ?_;refine goD ?_
  skip
  unfold stC;refine YB (row':=callRow kind w nilV) (hle:=by exact Nat.le_of_ble_eq_true rfl) (he:=by exact rfl) (z:=?_);refine goD ?_;obtain ⟨p,hp,p4⟩:=E.ps_get hk;subst ha2;refine AWP.loop (α:=Nat × List (List AV) × Option Nat) (fun x=>[(6,.int .i64 (x.2.1.length:Int)),(5,.int .i64 (k:Int)),(1,.cptr oX 13 0 0),(0,.cptr E.oM 9 0 0)])
   (fun x=>E.st (mst (st0.set oX (stC (callRow kind w (mslot 6 x.2.1.length x.2.2)))) 95 6 x.2.1 x.2.2) { a with j:=x.1 })
   (fun x=>x.1≤E.l.length∧x.2.1.length≤p∧(∀ r ∈ x.2.1,GE 4 r)∧(x.2.2=none→x.2.1=[])∧∀ o,x.2.2=some o→o≠E.oT∧o≠E.oM∧o≠oX∧st0.obj o=none) (fun x=>4 - x.2.1.length)
   (j,[],none) ⟨hj,Nat.zero_le _,fun r hr=>(by cases hr),fun _=>rfl,fun o h=>(by cases h)⟩ (tl4 rfl rfl rfl rfl) (by rw [E.under n1 n2]; exact .refl _) ?_
  rintro ⟨j,rows,oo⟩ ⟨hj,hrp,hg,h0,hoo⟩;simp only at hj hrp hg h0 hoo;have hBx:∃ Bx,Bx=st0.set oX (stC (callRow kind w (mslot 6 rows.length oo))):=⟨_,rfl⟩;obtain ⟨Bx,hBx⟩:=hBx;show AWP _ _ _ _ _ _ (E.st (mst (st0.set oX (stC (callRow kind w (mslot 6 rows.length oo)))) 95 6 rows oo) { a with j:=j });rw [← hBx];have hvm:MV E (mst Bx 95 6 rows oo) a:=by
   rw [hBx];cases oo with
   | none=>exact hv0.set _ _
   | some o=>exact (hv0.set _ _).set _ _
  have hX:∀ j,(E.st (mst Bx 95 6 rows oo) { a with j:=j }).obj oX=some (stC (callRow kind w (mslot 6 rows.length oo))):=fun j=>by
   rw [E.obj_o n1 n2,hBx];cases oo with
   | none=>exact St.obj_set _ _ _
   | some o=>exact St.obj_under (hoo o rfl).2.2.1 _ _
  have hM:=E.obj_M (mst Bx 95 6 rows oo) { a with j:=j }
  have hps:=E.hps
  have hkp:k < (E.ps.map fun (p:Nat)=>[AV.int .i64 (p:Int)]).length:=by rw [List.length_map,hps]; exact hk
  refine goD ?_;refine AWP.cond_dec rfl (fun h=>AWP.skip ?_) (fun h=>AWP.exit (blk_hit ?_))
  ·have hlt:rows.length < p:=by have:((rows.length:Nat):Int) < (p:Int):=h; omega
   refine AWP.weaken (T':=[(6,.int .i64 (rows.length:Int)),(5,.int .i64 (k:Int)),(1,.cptr oX 13 0 0),(0,.cptr E.oM 9 0 0)]) (tl4 rfl rfl rfl rfl) (.refl _) ?_;have hXb:((E.st (mst Bx 95 6 rows oo) a).drop E.oT).obj oX=some (stC (callRow kind w (mslot 6 rows.length oo))):=by rw [St.obj_drop_ne n1]; exact hX a.j
   refine goC ?_;refine AWP.any rfl ?_;apply AAny.segF (k':=8) (F:=MJ E (mst Bx 95 6 rows oo) a) (base:=(E.st (mst Bx 95 6 rows oo) a).drop E.oT) (hok:=rfl) (hF:=⟨j,hj,rfl⟩) (hb:=fun s hs=>hs.le);repeat (first|apply dsY (hi:=rfl) (hs:=rfl)|apply dqY (hi:=rfl) (hd:=rfl) (hw:=rfl) (h:=fun _ _=>ZC (z:=nz))|apply dqY (hi:=rfl) (hd:=rfl) (hw:=rfl) (h:=fun _ _=>ZH (z:=nz)))
   apply dfY (Q:=fun v=>∃ row,v=.agg row∧GE 4 row) (hi:=rfl) (hd:=rfl) (hw:=rfl) (hex:=⟨_,_,rfl,GE_lit 3 (n:=0) (by decide) (by decide)⟩) (h:=fun s0 s hF hle=>cl rfl rfl (expr_j E hvm hF 2 (by decide) (by decide)) fun v s' hv=>nl ⟨v,rfl,hv.1,hv.2,hv.2.le⟩);rintro v ⟨row,rfl,hrow⟩;obtain ⟨p1,p2,p3,p4',p5,rfl⟩:=GE_row hrow;apply dqY (hi:=rfl) (hd:=rfl) (hw:=rfl) (h:=fun _ _=>lnq rfl rfl (fun e=>by rw [h0 e]; rfl) nz);apply dqY (hi:=rfl) (hd:=rfl) (hw:=rfl) (h:=fun _ _=>bz1 (row:=exRow 0 0 [] [] nilV) (z:=nz));refine dnF fun s hs=>?_;obtain ⟨j2,hj2,rfl⟩:=hs;refine AAny.one rfl rfl rfl rfl ?_;rw [E.under_m (fun o h=>⟨(hoo o h).1,(hoo o h).2.1⟩)];refine apq (rows:=rows) (oo:=oo) rfl rfl rfl ?_ (by simp) rfl (by simp only [List.length_cons,List.length_nil]; omega) (by simp only [List.length_cons,List.length_nil,maxLen]; omega) fun o' ho'=>nl ⟨_,rfl,?_⟩
   ·cases oo with
    | none=>show rows.length=0; rw [h0 rfl]; rfl
    | some o =>
     obtain ⟨q1,q2,q3,q4⟩:=hoo o rfl;show (E.st Bx _).obj o=none;rw [E.obj_o q1 q2,hBx,St.obj_set_ne q3];exact q4
   have ho'':=ho';rw [hBx] at ho'';obtain ⟨q1,q2,q3⟩:=MEnv.new ho'';have qX:o'≠oX:=fun e=>by rw [e,St.obj_set] at q3; cases q3
   have q4:st0.obj o'=none:=by rw [St.obj_set_ne qX] at q3; exact q3
   obtain ⟨a2,ha2⟩:∃ a2:MA,a2={ a with j:=j2 }:=⟨_,rfl⟩;rw [← ha2];obtain ⟨W,hW⟩:∃ W:AV→List (List AV)→St,W=fun c rs=>((E.st st0 a2).set o' (.cells 95 6 rs)).set oX (stC (callRow kind w c)):=⟨_,rfl⟩;have hw0:(E.st Bx a2).set o' (.cells 95 (5 + 1) (rows++[exRow 0 0 [] [] nilV]))=W (mslot 6 rows.length oo) (rows++[exRow 0 0 [] [] nilV]):=by
    rw [hW,hBx,← E.under n1 n2,St.set_comm _ (Ne.symm qX)]
   rw [hw0];apply AAny.segY (k':=14) (S:=_) (Es:=[10,13]) (sts:=fun bs=>match bs with|[b1,b2]=>some (W (bif b2 then .msl o' 6 0 (rows.length + 1) else mslot 6 rows.length oo) (rows++[bif b1 then exRow p1 p2 p3 p4' (.view 6 p5 .shared) else exRow 0 0 [] [] nilV]))|_=>none) (F:=fun x y=>y=x) (base:=St.bareOf (E.st st0 a2)) (hok:=rfl) (hS:=rfl) (h0:=rfl) (hF:=rfl) (hb:=by rw [hW]; exact StLe.bare rfl)
   skip
   apply dqY (hi:=rfl) (hd:=rfl) (hw:=rfl) (h:=fun _ _=>ixm (m:=rows.length) rfl rfl rfl rfl (by simp only [List.length_cons,List.length_nil]; omega) nz);apply deY (L:=[[false,false],[false,true]]) (hL:=rfl) (hd:=rfl) (hw:=rfl) (h:=by
    refine ⟨?_,?_,trivial⟩ <;>
    ·intro s0 e;cases e;refine ⟨_,rfl,fun s hs hle=>?_⟩;subst hs;rw [hW];simp only [cond_true,cond_false];rw [St.set_comm _ qX (.cells 95 6 (rows++[exRow 0 0 [] [] nilV]))];refine sos (row:=exRow 0 0 [] [] nilV) (rows':=rows++[exRow p1 p2 p3 p4' (.view 6 p5 .shared)]) rfl rfl rfl (by rw [Nat.zero_add]; simp) rfl rfl rfl (by rw [Nat.zero_add]; simp [rowSet,exRow]) ?_;refine nl ⟨rfl,?_,StLe.bare rfl⟩;rw [St.set_comm _ (Ne.symm qX)];rfl)
   repeat (first|apply dsY (hi:=rfl) (hs:=rfl)|apply dqY (hi:=rfl) (hd:=rfl) (hw:=rfl) (h:=fun _ _=>ZC (z:=nz)))
   apply deY (L:=[[false,false],[true,false]]) (hL:=rfl) (hd:=rfl) (hw:=rfl) (h:=by
    refine ⟨?_,?_,trivial⟩ <;>
    ·intro s0 e;cases e;refine ⟨_,rfl,fun s hs hle=>?_⟩;subst hs;rw [hW];simp only [stC];refine so1 (row':=callRow kind w (.msl o' 6 0 (rows.length + 1))) rfl rfl rfl rfl rfl (Nat.le_of_ble_eq_true rfl) rfl ?_;exact nl ⟨rfl,rfl,StLe.bare rfl⟩)
   refine dnY rfl fun s hs _=>?_;subst hs;refine AAny.text rfl ?_;refine nl ?_;refine goD ?_;have hl1:(rows++[exRow p1 p2 p3 p4' (.view 6 p5 .shared)]).length=rows.length + 1:=by simp
   refine ⟨(j2,rows++[exRow p1 p2 p3 p4' (.view 6 p5 .shared)],some o'),⟨hj2,by simp only [hl1]; omega,fun r hr=>?_,fun h=>(by cases h),fun o h=>?_⟩,by simp only [hl1]; omega,TLe.consE rfl (by simp only [hl1]) (tl3 rfl rfl rfl),?_⟩
   ·rcases List.mem_append.1 hr with hr|hr
    ·exact hg r hr
    ·rw [List.mem_singleton.1 hr]; exact hrow
   ·cases h;exact ⟨q1,q2,qX,q4⟩
   ·show StLe _ (E.st (mst (st0.set oX (stC (callRow kind w (mslot 6 (rows++[_]).length (some o'))))) 95 6 (rows++[_]) (some o')) { a with j:=j2 });rw [hl1,← ha2,hW];show StLe _ (E.st ((st0.set oX (stC (callRow kind w (.msl o' 6 0 (rows.length + 1))))).set o' (.cells 95 6 (rows++[exRow p1 p2 p3 p4' (.view 6 p5 .shared)]))) a2);rw [← E.under q1 q2,← E.under n1 n2,St.set_comm _ (Ne.symm qX)];exact .refl _
  ·have hrow4:rows.length≤4:=Nat.le_trans hrp p4;cases oo with
   | none =>
    rw [h0 rfl] at hBx;refine goD ?_;refine AWP.ret (rets rfl (.refl _) (.refl _) ⟨true,w,nilV,[],j,rfl,wl,.nilShared _ _,rfl,by decide,fun r hr=>(by cases hr),hj,?_⟩);rw [hBx];rfl
   | some o =>
    obtain ⟨q1,q2,q3,q4⟩:=hoo o rfl;have e1:E.st (mst Bx 95 6 rows (some o)) { a with j:=j }=(E.st Bx { a with j:=j }).set o (.cells 95 6 rows):=(E.under q1 q2 _).symm;rw [e1];refine AWP.frzIn (o:=oX) (o':=o) (i:=0) (j:=10) (row:=callRow kind w (.msl o 6 0 rows.length)) (Ne.symm q3) (by rw [← e1]; exact hX j) rfl rfl (St.obj_set _ _ _) (by rw [Nat.zero_add]; exact Nat.le_refl _) ?_;rw [List.drop_zero,List.take_of_length_le (Nat.le_refl _)];refine goD ?_;refine AWP.ret (rets rfl (.refl _) ?_ ⟨true,w,vw 6 rows,rows,j,rfl,wl,.refl _,rfl,hrow4,hg,hj,rfl⟩);have e2:E.st (st0.set oX (stC (callRow kind w (vw 6 rows)))) { a with j:=j }=(E.st Bx { a with j:=j }).set oX (stC (callRow kind w (vw 6 rows))):=by
     rw [hBx,← E.under n1 n2,← E.under n1 n2,St.set_set]
    unfold stC at e2;rw [e2];refine StLe.set _ _ (StLe.ofNew ?_);rw [E.obj_o q1 q2,hBx,St.obj_set_ne q3];exact q4
theorem MEnv.two (E:MEnv) {st0:St} {a:MA} {o2 o3:Nat} (n2T:o2≠E.oT) (n2M:o2≠E.oM) (n3T:o3≠E.oT) (n3M:o3≠E.oM) (c2 c3:AObj):E.st ((st0.set o2 c2).set o3 c3) a=((E.st st0 a).set o2 c2).set o3 c3:=by
 rw [← E.under n3T n3M,← E.under n2T n2M]
theorem MEnv.fin2 (E:MEnv) {st0:St} {a:MA} {o2 o3:Nat} (n2T:o2≠E.oT) (n2M:o2≠E.oM) (n3T:o3≠E.oT) (n3M:o3≠E.oM) (n32:o3≠o2) (h2:st0.obj o2=none) (h3:st0.obj o3=none) (c2 c3:AObj):StLe (((E.st st0 a).set o2 c2).set o3 c3) (E.st st0 a) :=
 StLe.new (by rw [St.obj_set_ne n32,E.obj_o n3T n3M]; exact h3) (StLe.new (by rw [E.obj_o n2T n2M]; exact h2) (.refl _))
theorem GS_one {kind len:Int} {name typ fn:List UInt8} {tg args:List (List AV)} (h1:0≤kind) (h2:kind≤30) (h3:0≤len) (h4:len≤9) (h5:name.length≤30) (h6:typ.length≤30) (h7:fn.length≤30) (h8:tg.length≤1) (h9:args.length≤4)
  (h10:∀ r ∈ tg,GE 4 r) (h11:∀ r ∈ args,GE 4 r):GS 1 (stRow kind len name typ fn (vw 6 tg) (vw 6 args) (vw 13 []) (vw 13 [])) :=
 ⟨kind,len,name,typ,fn,tg,args,[],[],rfl,h1,h2,h3,h4,h5,h6,h7,h8,h9,by decide,by decide,h10,h11,fun r hr=>(by cases hr),fun r hr=>(by cases hr)⟩
theorem MA.S_get {a:MA} (h:∀ s ∈ a.S,s.length≤30) {m:Nat} (hm:m < (nrows a.S).length):∃ w:List UInt8,(nrows a.S)[m]?=some [.str w]∧w.length≤30:=by
 rw [nrows_len] at hm;exact ⟨_,nrows_get hm,h _ (List.getElem_mem hm)⟩
theorem MA.D_get {a:MA} (h:∀ s ∈ a.D,s.length≤30) {m:Nat} (hm:m < (nrows a.D).length):∃ w:List UInt8,(nrows a.D)[m]?=some [.str w]∧w.length≤30:=by
 rw [nrows_len] at hm;exact ⟨_,nrows_get hm,h _ (List.getElem_mem hm)⟩
theorem call_j (E:MEnv) {st0:St} {a:MA} (hv0:MV E st0 a) (oX:Nat) (n1:oX≠E.oT) (n2:oX≠E.oM) (kind:Int) {s:St} (h:MJ E (st0.set oX (stC (callRow kind [] nilV))) a s) :
  ACalls Tryz.prog 71 [.cptr E.oM 9 0 0,.cptr oX 13 0 0] s
   (fun v s'=>∃ (b:Bool) (fn:List UInt8) (args:AV) (rows:List (List AV)) (j:Nat),v=.bool b∧fn.length≤30∧Le args (vw 6 rows)∧args.one=true∧rows.length≤4∧(∀ r ∈ rows,GE 4 r)∧j≤E.l.length∧s'=E.st (st0.set oX (stC (callRow kind fn args))) { a with j:=j }) (fun _ _=>False):=by
 obtain ⟨j,hj,rfl⟩:=h;exact call_m E (hv0.tape hj) oX n1 n2 kind
theorem element_j (E:MEnv) {st0:St} {a:MA} (hv:MV E st0 a) {s:St} (h:MJ E st0 a s) (hA:0 < a.A.length) :
  ACalls Tryz.prog 97 [.cptr E.oM 9 0 0,.int .i64 1] s (fun v s'=>(∃ row,v=.agg row∧GE 4 row)∧MJ E st0 a s') (fun _ _=>False):=by
 obtain ⟨j,hj,rfl⟩:=h;exact (element_m E (hv.tape hj) hA).mono (fun v s' ⟨h1,h2⟩=>⟨h1,h2.trans⟩) (fun _ _ h=>h)
theorem ex_one (op num:Int) (name field:List UInt8):Le (.view 6 [exRow op num name field nilV] .shared) (.view 6 [exRow op num name field noE] .shared):=by
 refine .view _ _ _ _ rfl (fun row hr c hc=>?_) (fun i a b h1 h2=>?_) fun i j a b c d h1 h2 h3 h4=>?_
 ·rw [List.mem_singleton.1 hr] at hc;simp only [exRow,List.mem_cons,List.not_mem_nil,or_false] at hc;rcases hc with rfl|rfl|rfl|rfl|rfl|rfl <;> rfl
 ·match i,h1,h2 with
  | 0,h1,h2=>cases h1; cases h2; rfl
 ·match i,h1,h2 with
  | 0,h1,h2 =>
   cases h1; cases h2
   match j,h3,h4 with
   | 0,h3,h4=>cases h3; cases h4; exact .refl _
   | 1,h3,h4=>cases h3; cases h4; exact .refl _
   | 2,h3,h4=>cases h3; cases h4; exact .refl _
   | 3,h3,h4=>cases h3; cases h4; exact .refl _
   | 4,h3,h4=>cases h3; cases h4; exact .refl _
   | 5,h3,h4=>cases h3; cases h4; exact .nilShared _ _
   | j + 6,h3,h4=>cases h3
theorem fxy:∀ m,m < 2→∃ b:List UInt8,(chunk (0 + 1) 2 [AV.str [120],AV.str [121]])[m]?=some [.str b]∧b.length≤1
 | 0,_=>⟨_,rfl,by decide⟩
 | 1,_=>⟨_,rfl,by decide⟩
set_option maxHeartbeats 4000000 in
theorem assign_m (E:MEnv) {st0:St} {a:MA} (hv0:MV E st0 a) :
  ACalls Tryz.prog 72 [.cptr E.oM 9 0 0] (E.st st0 a) (fun v s'=>(∃ row,v=.agg row∧GS 1 row)∧MJ E st0 a s') (fun _ _=>False):=by
 refine ACalls.ofBody Tryz.func72 rfl Tryz.ntmps72 rfl ?_;refine goC ?_;refine rg ?_;refine al rfl rfl fun o2 h2=>?_;obtain ⟨n2T,n2M,h2'⟩:=MEnv.new h2;show AOps _ _ _ _ _ _ _ ((E.st st0 a).set o2 zSt);rw [E.under n2T n2M];refine goD ?_;refine bds (cs:=callRow 3 [] nilV) rfl rfl rfl rfl ?_;refine al rfl rfl fun o3 h3=>?_;obtain ⟨n3T,n3M,h3'⟩:=MEnv.new h3;refine soV rfl rfl rfl rfl rfl rfl ?_;have n32:o3≠o2:=fun e=>by rw [e,St.obj_set] at h3'; cases h3'
 have h3'':st0.obj o3=none:=by rw [St.obj_set_ne n32] at h3'; exact h3'
 rw [E.under n3T n3M];obtain ⟨B,hB⟩:∃ B:AObj→St,B=fun c=>(st0.set o2 zSt).set o3 c:=⟨_,rfl⟩;have hvB:∀ c,MV E (B c) a:=fun c=>by rw [hB]; exact (hv0.set _ _).set _ _
 have hE:∀ c a,E.st (B c) a=((E.st st0 a).set o2 zSt).set o3 c:=fun c a=>by rw [hB]; exact E.two n2T n2M n3T n3M _ _
 have hS:((st0.set o2 zSt).set o3 (.cells 41 13 [AV.cells (.agg (callRow 3 [] nilV))]))=B (stC (callRow 3 [] nilV)):=by rw [hB]; rfl
 rw [hS];have hM:=E.obj_M (B (stC (callRow 3 [] nilV))) a;refine goD ?_;refine cl rfl rfl (next_j E (hvB _) (MJ.refl (hvB _)) 8 (by decide) (by decide)) fun v s' ⟨⟨k,hk,hk8⟩,j1,hj1,hs⟩=>?_;subst hk hs;refine goE ?_;refine nl ?_;have fin':∀ c d a,StLe (((E.st st0 a).set o2 c).set o3 d) (E.st st0 a):=fun c d a=>E.fin2 n2T n2M n3T n3M n32 h2' h3'' c d;refine cut (α:=Nat × AObj) (fun _=>[(4,.int .i64 (k:Int)),(3,.cptr o3 13 0 0),(2,.cptr o2 13 0 0),(0,.cptr E.oM 9 0 0)]) (fun x=>E.st (B x.2) { a with j:=x.1 }) (fun x=>x.1≤E.l.length∧∃ row,x.2=stC row∧row.length=13) ?_ ?_
 ·by_cases hk2:(k:Int) < 2
  ·refine goD ?_;refine cl rfl rfl (call_j E (st0:=st0.set o2 zSt) (hv0.set _ _) o3 n3T n3M 3 ⟨j1,hj1,by rw [hB]⟩) fun v s' ⟨b,fn,args,rows,j2,hv,hfn,hle,hone,hrl,hrg,hj2,hs⟩=>?_;subst hv hs;rw [show (st0.set o2 zSt).set o3 (stC (callRow 3 fn args))=B (stC (callRow 3 fn args)) by rw [hB]];cases b with
   | false =>
    refine goD ?_;exact ⟨(j2,stC (callRow 3 fn args)),⟨hj2,_,rfl,rfl⟩,(tl4 rfl rfl rfl rfl),.refl _⟩
   | true =>
    have hM2:=E.obj_M (B (stC (callRow 3 fn args))) { a with j:=j2 };refine goE ?_;refine nl ?_;refine AWP.cond_true rfl ?_;refine cut (α:=Nat × AV × List (List AV)) (fun _=>[(3,.cptr o3 13 0 0),(2,.cptr o2 13 0 0)]) (fun x=>E.st (B (stC (stRow 3 0 [] [] fn x.2.1 args nilV nilV))) { a with j:=x.1 }) (fun x=>x.1≤E.l.length∧Le x.2.1 (vw 6 x.2.2)∧x.2.1.one=true∧x.2.2.length≤1∧∀ r ∈ x.2.2,GE 4 r) ?_ ?_
    ·by_cases hS:(0:Int) < ((nrows a.S).length:Int)
     ·refine goD ?_;refine cl rfl rfl (next_j E (hvB _) ⟨j2,hj2,rfl⟩ 4 (by decide) (by decide)) fun v s' ⟨⟨n,hn,hn4⟩,j3,hj3,hs⟩=>?_;subst hn hs;have hM3:=E.obj_M (B (stC (callRow 3 fn args))) { a with j:=j3 };by_cases hn0:(0:Int) < (n:Int)
      ·refine goD ?_;apply AWP.drawI (hm:=rfl) (k:=14) (I:=MJ E (B (stC (callRow 3 fn args))) a) (hI:=⟨j3,hj3,rfl⟩)
       case hok=>rfl
       have hM:=fun s (h:MJ E (B (stC (callRow 3 fn args))) a s)=>h.M;repeat (first|apply diQ (hd:=rfl) (hw:=rfl) (h:=fun st1 hI=>lc rfl rfl (hM st1 hI) rfl rfl (nl ⟨_,rfl,rfl,rfl⟩))|apply diQ (hd:=rfl) (hw:=rfl) (h:=fun _ _=>ZA (z:=nz))|apply diQ (hd:=rfl) (hw:=rfl) (h:=fun _ _=>ZC (z:=nz))|apply diQ (hd:=rfl) (hw:=rfl) (h:=fun _ _=>ZJ (z:=nz)))
       apply diE (Q:=fun v=>∃ n:Nat,v=.int .i64 (n:Int)∧n < (nrows a.S).length) (hd:=rfl) (hw:=rfl) (hex:=⟨_,0,rfl,by omega⟩) (h:=fun x hx=>cl rfl rfl (next_j E (hvB _) hx ((nrows a.S).length:Int) hS (by rw [nrows_len]; have:=hv0.lS; have:=hv0.c; omega)) fun v s' ⟨⟨n,hv,hn⟩,hs⟩=>nl ⟨v,rfl,⟨n,hv,by omega⟩,hs⟩);rintro v ⟨m,rfl,hm⟩;refine diN fun s4 hs4=>?_;obtain ⟨j4,hj4,rfl⟩:=hs4;obtain ⟨w,hw,wl⟩:=MA.S_get hv0.nS hm;refine goD ?_;rw [hE];unfold stC;refine YB (row':=stRow 3 0 [] [] fn (vw 6 [exRow 1 0 w [] noE]) args nilV nilV) (hle:=by exact Nat.le_of_ble_eq_true rfl) (he:=by exact rfl) (z:=?_);refine nl ?_;exact ⟨(j4,vw 6 [exRow 1 0 w [] noE],[exRow 1 0 w [] noE]),⟨hj4,.refl _,rfl,Nat.le_refl _,fun r hr=>by rw [List.mem_singleton.1 hr]; exact GE_var 3 wl⟩,(tl2 rfl rfl),by rw [hE]; exact .refl _⟩
      ·refine goD ?_;exact ⟨(j3,nilV,[]),⟨hj3,.nilShared _ _,rfl,Nat.zero_le _,fun r hr=>(by cases hr)⟩,(tl2 rfl rfl),.refl _⟩
     ·refine goD ?_;exact ⟨(j2,nilV,[]),⟨hj2,.nilShared _ _,rfl,Nat.zero_le _,fun r hr=>(by cases hr)⟩,(tl2 rfl rfl),.refl _⟩
    ·rintro ⟨j,tg,tgr⟩ ⟨hj,t1,t2,t3,t4⟩;simp only at hj t1 t2 t3 t4;show AWP _ _ _ _ _ _ (E.st (B (stC (stRow 3 0 [] [] fn tg args nilV nilV))) { a with j:=j });rw [hE];unfold stC zSt;refine goD ?_;refine soU rfl n32 rfl rfl rfl rfl rfl ?_;refine goD ?_;exact AWP.ret (rets (resCW rfl (St.obj_under n32 _ _) rfl rfl rfl rfl) (st_le t1 hle (.nilShared _ _) (.nilShared _ _) rfl rfl rfl rfl) (fin' _ _ _) ⟨⟨_,rfl,GS_one (by decide) (by decide) (by decide) (by decide) (by decide) (by decide) hfn t3 hrl t4 hrg⟩,j,hj,rfl⟩)
  ·refine goD ?_;exact ⟨(j1,stC (callRow 3 [] nilV)),⟨hj1,_,rfl,rfl⟩,(tl4 rfl rfl rfl rfl),.refl _⟩
 ·rintro ⟨j,c⟩ ⟨hj,row,hc,hrl⟩;simp only at hj hc;subst hc;show AWP _ _ _ _ _ _ (E.st (B (stC row)) { a with j:=j });refine goC ?_;refine rg ?_;refine bds (cs:=stRow 2 0 [] [] [] nilV nilV nilV nilV) rfl rfl rfl rfl ?_;rw [hE];unfold stC;refine soV rfl rfl rfl rfl rfl (by rw [hrl]; rfl) ?_;rw [show ((E.st st0 { a with j:=j }).set o2 zSt).set o3 (.cells 41 13 [AV.cells (.agg (stRow 2 0 [] [] [] nilV nilV nilV nilV))])=E.st (B (stC (stRow 2 0 [] [] [] nilV nilV nilV nilV))) { a with j:=j } from (hE _ _).symm];refine nl ?_;have hM:=E.obj_M (B (stC (stRow 2 0 [] [] [] nilV nilV nilV nilV))) { a with j:=j };refine cut (α:=Nat × AV × List (List AV)) (fun _=>[(3,.cptr o3 13 0 0),(2,.cptr o2 13 0 0),(0,.cptr E.oM 9 0 0)]) (fun x=>E.st (B (stC (stRow 2 0 [] [] [] x.2.1 nilV nilV nilV))) { a with j:=x.1 }) (fun x=>x.1≤E.l.length∧Le x.2.1 (vw 6 x.2.2)∧x.2.1.one=true∧x.2.2.length≤1∧∀ r ∈ x.2.2,GE 4 r) ?_ ?_
  ·by_cases c1:(k:Int)=6∧(0:Int) < ((nrows a.D).length:Int)
   ·obtain ⟨c1,hD⟩:=c1;refine goD ?_;apply AWP.drawI (hm:=rfl) (k:=24) (I:=MJ E (B (stC (stRow 2 0 [] [] [] nilV nilV nilV nilV))) a) (hI:=⟨j,hj,rfl⟩)
    case hok=>rfl
    have hM:=fun s (h:MJ E (B (stC (stRow 2 0 [] [] [] nilV nilV nilV nilV))) a s)=>h.M;repeat (first|apply diQ (hd:=rfl) (hw:=rfl) (h:=fun st1 hI=>lc rfl rfl (hM st1 hI) rfl rfl (nl ⟨_,rfl,rfl,rfl⟩))|apply diQ (hd:=rfl) (hw:=rfl) (h:=fun _ _=>ZA (z:=nz))|apply diQ (hd:=rfl) (hw:=rfl) (h:=fun _ _=>ZC (z:=nz))|apply diQ (hd:=rfl) (hw:=rfl) (h:=fun _ _=>ZJ (z:=nz)))
    apply diE (Q:=fun v=>∃ n:Nat,v=.int .i64 (n:Int)∧n < (nrows a.D).length) (hd:=rfl) (hw:=rfl) (hex:=⟨_,0,rfl,by omega⟩) (h:=fun x hx=>cl rfl rfl (next_j E (hvB _) hx ((nrows a.D).length:Int) hD (by rw [nrows_len]; have:=hv0.lD; have:=hv0.c; omega)) fun v s' ⟨⟨n,hv,hn⟩,hs⟩=>nl ⟨v,rfl,⟨n,hv,by omega⟩,hs⟩);rintro v ⟨m,rfl,hm⟩;obtain ⟨q0,hq0,hq0l⟩:=MA.D_get hv0.nD hm;apply diE (Q:=fun v=>∃ m:Nat,v=.eptr 1 (nrows a.D) m 0∧m < (nrows a.D).length) (hd:=rfl) (hw:=rfl) (hex:=⟨_,m,rfl,hm⟩) (h:=fun x hx=>ix (m:=m) rfl rfl rfl rfl hm (nl ⟨_,rfl,⟨m,rfl,hm⟩,hx⟩));rintro v ⟨m1,rfl,hm1⟩;obtain ⟨q1,hq1,hq1l⟩:=MA.D_get hv0.nD hm1;apply diE (Q:=fun v=>∃ w:List UInt8,v=.str w∧w.length≤30) (hd:=rfl) (hw:=rfl) (hex:=⟨_,q1,rfl,hq1l⟩) (h:=fun x hx=>Go.AM.le rfl rfl hq1 rfl (nl ⟨_,rfl,⟨q1,rfl,hq1l⟩,hx⟩));rintro v ⟨w,rfl,wl⟩;apply diQ (hd:=rfl) (hw:=rfl) (h:=fun x hx=>bsh (cs:=[.str [120],.str [121]]) rfl rfl rfl rfl rfl (nl ⟨_,rfl,rfl,rfl⟩));repeat (first|apply diQ (hd:=rfl) (hw:=rfl) (h:=fun st1 hI=>lc rfl rfl (hM st1 hI) rfl rfl (nl ⟨_,rfl,rfl,rfl⟩))|apply diQ (hd:=rfl) (hw:=rfl) (h:=fun _ _=>ZA (z:=nz))|apply diQ (hd:=rfl) (hw:=rfl) (h:=fun _ _=>ZC (z:=nz)))
    apply diE (Q:=fun v=>∃ m:Nat,v=.int .i64 (m:Int)∧m < 2) (hd:=rfl) (hw:=rfl) (hex:=⟨_,0,rfl,by decide⟩) (h:=fun x hx=>cl rfl rfl (next_j E (hvB _) hx 2 (by decide) (by decide)) fun v s' ⟨⟨n,hv,hn⟩,hs⟩=>nl ⟨v,rfl,⟨n,hv,by omega⟩,hs⟩);rintro v ⟨m2,rfl,hm2⟩;apply diE (Q:=fun v=>∃ m:Nat,v=.eptr 1 (chunk (0 + 1) 2 [AV.str [120],AV.str [121]]) m 0∧m < 2) (hd:=rfl) (hw:=rfl) (hex:=⟨_,m2,rfl,hm2⟩) (h:=fun x hx=>ix (m:=m2) rfl rfl rfl rfl (by exact hm2) (nl ⟨_,rfl,⟨m2,rfl,hm2⟩,hx⟩));rintro v ⟨m3,rfl,hm3⟩;obtain ⟨b3,hb3,hb3l⟩:=fxy m3 hm3;apply diE (Q:=fun v=>∃ w:List UInt8,v=.str w∧w.length≤1) (hd:=rfl) (hw:=rfl) (hex:=⟨_,b3,rfl,hb3l⟩) (h:=fun x hx=>Go.AM.le rfl rfl hb3 rfl (nl ⟨_,rfl,⟨b3,rfl,hb3l⟩,hx⟩));rintro v ⟨fw,rfl,fl⟩;refine diN fun s4 hs4=>?_;obtain ⟨j4,hj4,rfl⟩:=hs4;refine bds (cs:=exRow 2 0 w fw nilV) rfl rfl rfl rfl ?_;refine goD ?_;rw [hE];unfold stC;refine YB (row':=stRow 2 0 [] [] [] (.view 6 [exRow 2 0 w fw nilV] .shared) nilV nilV nilV) (hle:=by exact Nat.le_of_ble_eq_true rfl) (he:=by exact rfl) (z:=?_);refine nl ?_;exact ⟨(j4,.view 6 [exRow 2 0 w fw nilV] .shared,[exRow 2 0 w fw noE]),⟨hj4,ex_one _ _ _ _,rfl,Nat.le_refl _,fun r hr=>by rw [List.mem_singleton.1 hr]; exact ⟨2,0,w,fw,[],rfl,by decide,by decide,by decide,by decide,wl,fl,by decide,fun r hr=>(by cases hr)⟩⟩,(tl3 rfl rfl rfl),by rw [hE]; exact .refl _⟩
   by_cases c2:(k:Int)=7∧(0:Int) < ((nrows a.A).length:Int)
   ·obtain ⟨c2,hA⟩:=c2;refine goD ?_;refine cl rfl rfl (element_j E (hvB _) ⟨j,hj,rfl⟩ (by rw [nrows_len] at hA; omega)) fun v s' ⟨⟨row2,hv,hg⟩,j3,hj3,hs⟩=>?_;subst hv hs;obtain ⟨p1,p2,p3,p4,p5,rfl⟩:=GE_row hg;refine goE ?_;rw [hE];unfold stC;refine YB (row':=stRow 2 0 [] [] [] (vw 6 [exRow p1 p2 p3 p4 (.view 6 p5 .shared)]) nilV nilV nilV) (hle:=by exact Nat.le_of_ble_eq_true rfl) (he:=by exact rfl) (z:=?_);refine nl ?_;exact ⟨(j3,vw 6 [exRow p1 p2 p3 p4 (.view 6 p5 .shared)],[exRow p1 p2 p3 p4 (.view 6 p5 .shared)]),⟨hj3,.refl _,rfl,Nat.le_refl _,fun r hr=>by rw [List.mem_singleton.1 hr]; exact hg⟩,(tl3 rfl rfl rfl),by rw [hE]; exact .refl _⟩
   refine goC ?_;refine midk [(56,.bool false),(4,.int .i64 (k:Int)),(3,.cptr o3 13 0 0),(2,.cptr o2 13 0 0),(0,.cptr E.oM 9 0 0)] (E.st (B (stC (stRow 2 0 [] [] [] nilV nilV nilV nilV))) { a with j:=j }) ?_ ?_
   ·by_cases e6:(k:Int)=6
    ·have hD:¬ (0:Int) < ((nrows a.D).length:Int):=fun h=>c1 ⟨e6,h⟩;refine goD ?_;exact ⟨TLe.consE rfl (congrArg AV.bool (decide_eq_false hD)) (tl4 rfl rfl rfl rfl),.refl _⟩
    ·refine goD ?_;exact ⟨(tl5 rfl rfl rfl rfl rfl),.refl _⟩
   refine AWP.cond_false rfl ?_;refine goC ?_;refine midk [(94,.bool false),(4,.int .i64 (k:Int)),(3,.cptr o3 13 0 0),(2,.cptr o2 13 0 0),(0,.cptr E.oM 9 0 0)] (E.st (B (stC (stRow 2 0 [] [] [] nilV nilV nilV nilV))) { a with j:=j }) ?_ ?_
   ·by_cases e7:(k:Int)=7
    ·have hA:¬ (0:Int) < ((nrows a.A).length:Int):=fun h=>c2 ⟨e7,h⟩;refine goD ?_;exact ⟨TLe.consE rfl (congrArg AV.bool (decide_eq_false hA)) (tl4 rfl rfl rfl rfl),.refl _⟩
    ·refine goD ?_;exact ⟨(tl5 rfl rfl rfl rfl rfl),.refl _⟩
   refine AWP.cond_false rfl ?_;by_cases hS:(0:Int) < ((nrows a.S).length:Int)
   ·refine goD ?_;apply AWP.drawI (hm:=rfl) (k:=14) (I:=MJ E (B (stC (stRow 2 0 [] [] [] nilV nilV nilV nilV))) a) (hI:=⟨j,hj,rfl⟩)
    case hok=>rfl
    have hM:=fun s (h:MJ E (B (stC (stRow 2 0 [] [] [] nilV nilV nilV nilV))) a s)=>h.M;repeat (first|apply diQ (hd:=rfl) (hw:=rfl) (h:=fun st1 hI=>lc rfl rfl (hM st1 hI) rfl rfl (nl ⟨_,rfl,rfl,rfl⟩))|apply diQ (hd:=rfl) (hw:=rfl) (h:=fun _ _=>ZA (z:=nz))|apply diQ (hd:=rfl) (hw:=rfl) (h:=fun _ _=>ZC (z:=nz))|apply diQ (hd:=rfl) (hw:=rfl) (h:=fun _ _=>ZJ (z:=nz)))
    apply diE (Q:=fun v=>∃ n:Nat,v=.int .i64 (n:Int)∧n < (nrows a.S).length) (hd:=rfl) (hw:=rfl) (hex:=⟨_,0,rfl,by omega⟩) (h:=fun x hx=>cl rfl rfl (next_j E (hvB _) hx ((nrows a.S).length:Int) hS (by rw [nrows_len]; have:=hv0.lS; have:=hv0.c; omega)) fun v s' ⟨⟨n,hv,hn⟩,hs⟩=>nl ⟨v,rfl,⟨n,hv,by omega⟩,hs⟩);rintro v ⟨m,rfl,hm⟩;refine diN fun s4 hs4=>?_;obtain ⟨j4,hj4,rfl⟩:=hs4;obtain ⟨w,hw,wl⟩:=MA.S_get hv0.nS hm;refine goD ?_;rw [hE];unfold stC;refine YB (row':=stRow 2 0 [] [] [] (vw 6 [exRow 1 0 w [] noE]) nilV nilV nilV) (hle:=by exact Nat.le_of_ble_eq_true rfl) (he:=by exact rfl) (z:=?_);refine nl ?_;exact ⟨(j4,vw 6 [exRow 1 0 w [] noE],[exRow 1 0 w [] noE]),⟨hj4,.refl _,rfl,Nat.le_refl _,fun r hr=>by rw [List.mem_singleton.1 hr]; exact GE_var 3 wl⟩,(tl3 rfl rfl rfl),by rw [hE]; exact .refl _⟩
   ·refine goD ?_;refine cl rfl rfl (expr_j E (hvB _) ⟨j,hj,rfl⟩ 0 (by decide) (by decide)) fun v s' ⟨⟨row2,hv,hg⟩,j3,hj3,hs⟩=>?_;subst hv hs;obtain ⟨p1,p2,p3,p4,p5,rfl⟩:=GE_row hg;refine goD ?_;refine bds (cs:=stRow 9 0 [] [] [] nilV (vw 6 [exRow p1 p2 p3 p4 (.view 6 p5 .shared)]) nilV nilV) rfl rfl rfl rfl ?_;rw [hE];unfold stC zSt;refine soU rfl n32 rfl rfl rfl rfl rfl ?_;refine goD ?_;exact AWP.ret (rets (resCW rfl (St.obj_under n32 _ _) rfl rfl rfl rfl) (st_le (.nilShared _ _) (.refl _) (.nilShared _ _) (.nilShared _ _) rfl rfl rfl rfl) (fin' _ _ _) ⟨⟨_,rfl,GS_one (by decide) (by decide) (by decide) (by decide) (by decide) (by decide) (by decide) (Nat.zero_le _) (by simp) (fun r hr=>(by cases hr)) (fun r hr=>by rw [List.mem_singleton.1 hr]; exact hg)⟩,j3,hj3,rfl⟩)
  ·rintro ⟨j,tg,tgr⟩ ⟨hj,t1,t2,t3,t4⟩;simp only at hj t1 t2 t3 t4;show AWP _ _ _ _ _ _ (E.st (B (stC (stRow 2 0 [] [] [] tg nilV nilV nilV))) { a with j:=j });refine goD ?_;refine cl rfl rfl (expr_j E (hvB _) ⟨j,hj,rfl⟩ 0 (by decide) (by decide)) fun v s' ⟨⟨row2,hv,hg⟩,j3,hj3,hs⟩=>?_;subst hv hs;obtain ⟨p1,p2,p3,p4,p5,rfl⟩:=GE_row hg;refine goD ?_;rw [hE];unfold stC zSt;refine YB (row':=stRow 2 0 [] [] [] tg (vw 6 [exRow p1 p2 p3 p4 (.view 6 p5 .shared)]) nilV nilV) (hle:=by exact Nat.le_of_ble_eq_true rfl) (he:=by exact rfl) (z:=?_);refine goD ?_;refine soU rfl n32 rfl rfl rfl rfl rfl ?_;refine goD ?_;exact AWP.ret (rets (resCW rfl (St.obj_under n32 _ _) rfl rfl rfl rfl) (st_le t1 (.refl _) (.nilShared _ _) (.nilShared _ _) rfl rfl rfl rfl) (fin' _ _ _) ⟨⟨_,rfl,GS_one (by decide) (by decide) (by decide) (by decide) (by decide) (by decide) (by decide) t3 (by simp) t4 (fun r hr=>by rw [List.mem_singleton.1 hr]; exact hg)⟩,j3,hj3,rfl⟩)
end Go.Proofs
namespace Go.Proofs
open Go.AM
attribute [local irreducible] AWP AOps ACalls AAny
set_option linter.unusedSimpArgs false
theorem addTok_toks (st:St) (tk:Nat) (L:List (Option Nat)):(st.toks L).addTok tk=(st.addTok tk).toks L:=by
 refine St.ext3 rfl (funext fun p=>?_) rfl;show (if p=tk then true else (decide (some p ∈ L) || st.tok p))=(decide (some p ∈ L) || if p=tk then true else st.tok p);by_cases h:p=tk
 ·rw [if_pos h,if_pos h,Bool.or_true]
 ·rw [if_neg h,if_neg h]
theorem MEnv.tokk (E:MEnv) (st0:St) (a:MA) (tk:Nat):(E.st st0 a).addTok tk=E.st (st0.addTok tk) a:=addTok_toks _ _ _
theorem MV.newTok {E:MEnv} {st0:St} {a:MA} (h:MV E st0 a) {tk:Nat} (hf:(E.st st0 a).tok tk=false):st0.tok tk=false∧MV E (st0.addTok tk) a:=by
 have h1:(decide (some tk ∈ a.toks) || st0.tok tk)=false:=hf;rw [Bool.or_eq_false_iff] at h1;refine ⟨h1.2,{ h with tk:=⟨h.tk.one,fun i t hi=>?_⟩ }⟩;show (if t=tk then true else st0.tok t)=false;rw [if_neg (fun e=>by subst e; have:=h1.1; rw [decide_eq_false_iff_not] at this; exact this (List.mem_of_getElem? hi))];exact h.tk.fresh i t hi
theorem MV.unTok {E:MEnv} {st0:St} {a:MA} {tk:Nat} (h:MV E (st0.addTok tk) a):MV E st0 a :=
 { h with tk:=⟨h.tk.one,fun i t hi=>by
   have h1:(if t=tk then true else st0.tok t)=false:=h.tk.fresh i t hi;by_cases e:t=tk
   ·rw [if_pos e] at h1; cases h1
   ·rwa [if_neg e] at h1⟩ }
theorem MEnv.tokLe (E:MEnv) (st0:St) (a:MA) (tk:Nat):StLe (E.st (st0.addTok tk) a) (E.st st0 a):=by
 rw [← E.tokk];exact StLe.addTok tk (.refl _)
section
variable {n:Nat} {K:Post} {X:EPost} {T:Tmps} {ops:Array Oper} {rest:List Oper}
variable {ty:TypeId} {pos:String} {es:Array Edge} {gd:Option (Nat × Bool)} {d:Tmp} {x y:Operand} {dd:Option Tmp}
theorem ap_out (E:MEnv) {st0:St} {a:MA} {rows rows2:List (List AV)} {tk:Nat} {tk2:Go.AM.Tok}
  (hg:goes ops n T ⟨dd,.call ⟨.builtin .append,#[x,y],#[34,34]⟩,ty,pos,es,gd⟩=some d) (hx:ev (E.st (st0.addTok tk) a) T x=some (.view 13 rows (.own tk 41))) (hy:ev (E.st (st0.addTok tk) a) T y=some (.view 13 rows2 tk2))
  (h0:st0.tok tk=false) (hv:MV E (st0.addTok tk) a) (hl:rows.length + rows2.length≤1000)
  (k:∀ tk',st0.tok tk'=false→MV E (st0.addTok tk') a→AOps Tryz.prog n ops rest K X ((d,.view 13 (rows++rows2) (.own tk' 41))::T) (E.st (st0.addTok tk') a)) :
  AOps Tryz.prog n ops (⟨dd,.call ⟨.builtin .append,#[x,y],#[34,34]⟩,ty,pos,es,gd⟩::rest) K X T (E.st (st0.addTok tk) a):=by
 refine ap hg hx hy (by rw [← E.tokk]; exact St.tok_addTok _ _) rfl (by omega) (by simp only [maxLen]; omega) fun tk' htk'=>?_;have h1:(E.st st0 a).tok tk'=false:=by rw [← E.tokk] at htk'; exact St.tok_of_add htk'
 have h2:(E.st st0 a).tok tk=false:=by
  have:=hv.tk.fresh
  show (decide (some tk ∈ a.toks) || st0.tok tk)=false;rw [h0,Bool.or_false,decide_eq_false_iff_not];intro hm;obtain ⟨i,hi⟩:=List.getElem?_of_mem hm;have h3:(if tk=tk then true else st0.tok tk)=false:=this i tk hi;rw [if_pos rfl] at h3;cases h3
 obtain ⟨h3,h4⟩:=hv.unTok.newTok h1;refine AOps.weaken (TLe.refl _) ?_ (k tk' h3 h4);rw [← E.tokk,← E.tokk];exact StLe.reTok h2 tk'
end
def BlockRt (E:MEnv) (st0:St) (a:MA) (d:Nat) (v:AV) (s':St):Prop :=
 ∃ (rows:List (List AV)) (tk:Nat) (b:MA),v=.view 13 rows (.own tk 41)∧(∀ r ∈ rows,GS (d + 1) r)∧rows.length≤20∧st0.tok tk=false∧MV E (st0.addTok tk) b∧MLe a b∧b.count + b.left≤a.count + a.left∧s'=E.st (st0.addTok tk) b
def StmtsC (d:Nat):Prop:=∀ (E:MEnv) (st0:St) (a:MA),MV E st0 a→∀ most:Nat,most≤10 →
 ACalls Tryz.prog 38 [.cptr E.oM 9 0 0,.int .i64 (4 - (d:Int)),.int .i64 (most:Int)] (E.st st0 a) (BlockRt E st0 a d) (fun _ _=>False)
def tslot (rows:List (List AV)):Option AV→Option Nat→Prop
 | none,none=>True
 | some u,some k=>u=.view 1 rows (.own k 9)
 | _,_=>False
def BJ (E:MEnv) (s0:St) (c:MA) (r1 r2 r3:List (List AV)) (vs:List (Option AV)) (s:St):Prop :=
 match vs with
 | [v1,v2,v3,w1,w2,w3]=>∃ k1 k2 k3:Option Nat,tslot r1 v1 k1∧tslot r2 v2 k2∧tslot r3 v3 k3∧TokL s0 [k1,k2,k3] ∧
   s=(s0.toks [k1,k2,k3]).set E.oM (mkC E.oT (E.f:Int) (E.funcs:Int) E.pv (bif w1.isSome then v1.getD nilV else gnv c.S c.kS) (bif w2.isSome then v2.getD nilV else gnv c.D c.kD) (bif w3.isSome then v3.getD nilV else gnv c.A c.kA) (c.count:Int) (c.left:Int))
 | _=>False
theorem toks_add {st:St} {L:List (Option Nat)} {i:Nat} (hi:L[i]?=some none) (k:Nat):(st.toks L).addTok k=st.toks (L.set i (some k)):=by
 refine St.ext3 rfl (funext fun p=>?_) rfl;show (if p=k then true else (decide (some p ∈ L) || st.tok p))=(decide (some p ∈ L.set i (some k)) || st.tok p)
 have hil:=(List.getElem?_eq_some_iff.1 hi).1;by_cases h:p=k
 ·subst h;rw [if_pos rfl,decide_eq_true (List.mem_of_getElem? (List.getElem?_set_self hil)),Bool.true_or]
 ·rw [if_neg h]
  congr 1
  rw [decide_eq_decide];constructor
  ·intro hm;obtain ⟨j,hj⟩:=List.getElem?_of_mem hm;have hne:i≠j:=fun e=>by rw [e,hj] at hi; cases hi
   exact List.mem_of_getElem? (by rw [List.getElem?_set_ne hne]; exact hj)
  ·intro hm;rcases List.mem_or_eq_of_mem_set hm with hm|hm
   ·exact hm
   ·cases hm; exact absurd rfl h
theorem TokL.add {st:St} {L:List (Option Nat)} (h:TokL st L) {i k:Nat} (hf:(st.toks L).tok k=false):TokL st (L.set i (some k)):=h.set hf i
theorem toks_le (st:St) (L1 L2:List (Option Nat)):StLe ((st.toks L1).toks L2) (st.toks L2):=⟨fun _ _ h=>h,fun t h=>by
 have h':(decide (some t ∈ L2) || st.tok t)=true:=h
 show (decide (some t ∈ L2) || (decide (some t ∈ L1) || st.tok t))=true;rw [Bool.or_eq_true] at h' ⊢;rcases h' with h'|h'
 ·exact .inl h'
 ·exact .inr (by rw [h',Bool.or_true]),rfl⟩
theorem isN {v:Option AV} (h:v.isSome=false):v=none:=by cases v with|none=>rfl|some u=>cases h
theorem isT {v:Option AV} (h:v.isSome=true):∃ u,v=some u:=by cases v with|none=>cases h|some u=>exact ⟨u,rfl⟩
theorem BJ.parts {E:MEnv} {s0:St} {c:MA} {r1 r2 r3:List (List AV)} {v1 v2 v3 w1 w2 w3:Option AV} {s:St} (h:BJ E s0 c r1 r2 r3 [v1,v2,v3,w1,w2,w3] s):∃ k1 k2 k3:Option Nat,tslot r1 v1 k1∧tslot r2 v2 k2∧tslot r3 v3 k3∧TokL s0 [k1,k2,k3] ∧
   s=(s0.toks [k1,k2,k3]).set E.oM (mkC E.oT (E.f:Int) (E.funcs:Int) E.pv (bif w1.isSome then v1.getD nilV else gnv c.S c.kS) (bif w2.isSome then v2.getD nilV else gnv c.D c.kD) (bif w3.isSome then v3.getD nilV else gnv c.A c.kA) (c.count:Int) (c.left:Int)):=h
theorem tslot.none' {rows:List (List AV)} {k:Option Nat} (h:tslot rows none k):k=none:=by
 cases k with
 | none=>rfl
 | some k=>exact h.elim
theorem tslot.some' {rows:List (List AV)} {u:AV} {k:Option Nat} (h:tslot rows (some u) k):∃ k',k=some k'∧u=.view 1 rows (.own k' 9):=by
 cases k with
 | none=>exact h.elim
 | some k=>exact ⟨k,rfl,h⟩
theorem vs6 {vs:List (Option AV)} {b1 b2 b3 b4 b5 b6:Bool} (h:vs.map Option.isSome=[b1,b2,b3,b4,b5,b6]):∃ v1 v2 v3 v4 v5 v6,vs=[v1,v2,v3,v4,v5,v6]∧v1.isSome=b1∧v2.isSome=b2∧v3.isSome=b3∧v4.isSome=b4∧v5.isSome=b5∧v6.isSome=b6:=by
 match vs,h with
 | [v1,v2,v3,v4,v5,v6],h =>
  simp only [List.map_cons,List.map_nil,List.cons.injEq] at h;obtain ⟨h1,h2,h3,h4,h5,h6,_⟩:=h;exact ⟨v1,v2,v3,v4,v5,v6,rfl,h1,h2,h3,h4,h5,h6⟩
set_option maxRecDepth 4000 in
set_option maxHeartbeats 4000000 in
theorem body_m (d:Nat) (hS:StmtsC d) (E:MEnv) {st0:St} {a:MA} (hv:MV E st0 a) (most:Nat) (hm:most≤10) :
  ACalls Tryz.prog 68 [.cptr E.oM 9 0 0,.int .i64 (4 - (d:Int)),.int .i64 (most:Int)] (E.st st0 a) (BlockRt E st0 a d) (fun _ _=>False):=by
 refine ACalls.ofBody Tryz.func68 rfl Tryz.ntmps68 rfl ?_;have hM:=E.obj_M st0 a;refine goD ?_;refine AWP.draw rfl 18 18 (fun _ _=>False) rfl ?_;refine goF ?_;refine dn ⟨fun _=>?_,fun h=>absurd h (by decide)⟩;refine goD ?_;refine cl rfl rfl (hS E st0 a hv most hm) fun v s' ⟨rows,tk,c,hv',hg,hl,h0,hvc,hle,hsum,hs⟩=>?_;subst hv' hs;refine goD ?_;rw [nrows_len,nrows_len,nrows_len];refine AWP.weaken (tl5 (i0:=10) (i1:=9) (i2:=8) (i3:=7) (i4:=0) rfl rfl rfl rfl rfl) (.refl _) ?_;obtain ⟨s0,hs0⟩:∃ s0,s0=E.st (st0.addTok tk) c:=⟨_,rfl⟩;rw [← hs0];have hs0e:(s0.toks [none,none,none]).set E.oM (E.c c)=s0:=by
  rw [show s0.toks [none,none,none]=s0 from St.toks_none s0 3,hs0];refine St.ext3 (funext fun p=>?_) rfl rfl;by_cases e:p=E.oM
  ·subst e; rw [St.obj_set]; exact (E.obj_M _ _).symm
  ·rw [St.obj_set_ne e]
 skip
 refine AWP.any rfl ?_;apply AAny.segX (X:=fun _ _=>False) (hX:=fun _ _ h=>h.elim) (k':=36) (Es:=[10,18,26,29,32,35]) (J:=BJ E s0 c ((nrows c.S).take a.S.length) ((nrows c.D).take a.D.length) ((nrows c.A).take a.A.length)) (base:=St.bareOf s0) (hok:=by decide +kernel) (hJ:=⟨none,none,none,trivial,trivial,trivial,TokL.none s0 3,hs0e.symm⟩) (hb:=StLe.bare rfl);repeat (first|apply dsP (hi:=rfl) (hs:=rfl)|apply dqP (hi:=rfl) (hd:=rfl) (hw:=rfl) (h:=fun _ _=>bs0 (z:=nz))|apply dqP (hi:=rfl) (hd:=rfl) (hw:=rfl) (h:=fun _ _=>ZC (z:=nz)))
 apply dwP (v:=gnv c.S c.kS) (L:=[[false,false,false,false,false,false]]) (hi:=rfl) (hL:=rfl) (hd:=rfl) (hw:=rfl) (h:=by
  refine ⟨?_,trivial⟩ <;>
  ·intro vs hvs hlk s hJ;obtain ⟨v1,v2,v3,v4,v5,v6,rfl,e1,e2,e3,e4,e5,e6⟩:=vs6 hvs;obtain ⟨k1,k2,k3,t1,t2,t3,htk,rfl⟩:=hJ.parts;rw [e4,e5,e6];exact lc rfl rfl (St.obj_set _ _ _) rfl rfl nz)
 repeat (apply dsP (hi:=rfl) (hs:=rfl))
 apply dqP (hi:=rfl) (hd:=rfl) (hw:=rfl) (h:=fun _ _=>svh (b:=a.S.length) rfl rfl rfl (by rw [nrows_len]; exact hle.S) nz);apply deP0 (Q:=fun v=>∃ k,v=.view 1 ((nrows c.S).take a.S.length) (.own k 9)) (L:=[[false,false,false,false,false,false]]) (hL:=rfl) (hd:=rfl) (hw:=rfl) (hex:=⟨_,0,rfl⟩) (h:=by
  refine ⟨?_,trivial⟩;intro vs hvs hlk s hJ hb;obtain ⟨v1,v2,v3,v4,v5,v6,rfl,e1,e2,e3,e4,e5,e6⟩:=vs6 hvs;obtain rfl:=isN e1;obtain rfl:=isN e2;obtain rfl:=isN e3;obtain rfl:=isN e4;obtain rfl:=isN e5;obtain rfl:=isN e6;obtain ⟨k1,k2,k3,t1,t2,t3,htk,rfl⟩:=hJ.parts;obtain rfl:=t1.none';refine apf rfl rfl rfl rfl (by simp only [List.length_take,nrows_len]; have:=hvc.lS; have:=hvc.lD; have:=hvc.lA; have:=hvc.c; omega) (by simp only [List.length_take,nrows_len,maxLen]; have:=hvc.lS; have:=hvc.lD; have:=hvc.lA; have:=hvc.c; omega) fun tk' htk'=>nl ⟨_,rfl,⟨tk',rfl⟩,?_,StLe.bare rfl⟩;refine ⟨some tk',k2,k3,rfl,t2,t3,TokL.add htk htk' (i:=0),?_⟩;show ((s0.toks _).addTok tk').set E.oM _=_;rw [toks_add (i:=0) rfl];rfl)
 rintro u1 ⟨q1,rfl⟩;repeat (first|apply dsP (hi:=rfl) (hs:=rfl)|apply dqP (hi:=rfl) (hd:=rfl) (hw:=rfl) (h:=fun _ _=>bs0 (z:=nz))|apply dqP (hi:=rfl) (hd:=rfl) (hw:=rfl) (h:=fun _ _=>ZC (z:=nz)))
 apply dwP (v:=gnv c.D c.kD) (L:=[[false,false,false,false,false,false],[true,false,false,false,false,false]]) (hi:=rfl) (hL:=rfl) (hd:=rfl) (hw:=rfl) (h:=by
  refine ⟨?_,?_,trivial⟩ <;>
  ·intro vs hvs hlk s hJ;obtain ⟨v1,v2,v3,v4,v5,v6,rfl,e1,e2,e3,e4,e5,e6⟩:=vs6 hvs;obtain ⟨k1,k2,k3,t1,t2,t3,htk,rfl⟩:=hJ.parts;rw [e4,e5,e6];exact lc rfl rfl (St.obj_set _ _ _) rfl rfl nz)
 repeat (apply dsP (hi:=rfl) (hs:=rfl))
 apply dqP (hi:=rfl) (hd:=rfl) (hw:=rfl) (h:=fun _ _=>svh (b:=a.D.length) rfl rfl rfl (by rw [nrows_len]; exact hle.D) nz);apply deP0 (Q:=fun v=>∃ k,v=.view 1 ((nrows c.D).take a.D.length) (.own k 9)) (L:=[[true,false,false,false,false,false]]) (hL:=rfl) (hd:=rfl) (hw:=rfl) (hex:=⟨_,0,rfl⟩) (h:=by
  refine ⟨?_,trivial⟩;intro vs hvs hlk s hJ hb;obtain ⟨v1,v2,v3,v4,v5,v6,rfl,e1,e2,e3,e4,e5,e6⟩:=vs6 hvs;obtain ⟨x1,rfl⟩:=isT e1;obtain rfl:=isN e2;obtain rfl:=isN e3;obtain rfl:=isN e4;obtain rfl:=isN e5;obtain rfl:=isN e6;obtain ⟨k1,k2,k3,t1,t2,t3,htk,rfl⟩:=hJ.parts;obtain rfl:=t2.none';refine apf rfl rfl rfl rfl (by simp only [List.length_take,nrows_len]; have:=hvc.lS; have:=hvc.lD; have:=hvc.lA; have:=hvc.c; omega) (by simp only [List.length_take,nrows_len,maxLen]; have:=hvc.lS; have:=hvc.lD; have:=hvc.lA; have:=hvc.c; omega) fun tk' htk'=>nl ⟨_,rfl,⟨tk',rfl⟩,?_,StLe.bare rfl⟩;refine ⟨k1,some tk',k3,t1,rfl,t3,TokL.add htk htk' (i:=1),?_⟩;show ((s0.toks _).addTok tk').set E.oM _=_;rw [toks_add (i:=1) rfl];rfl)
 rintro u2 ⟨q2,rfl⟩;repeat (first|apply dsP (hi:=rfl) (hs:=rfl)|apply dqP (hi:=rfl) (hd:=rfl) (hw:=rfl) (h:=fun _ _=>bs0 (z:=nz))|apply dqP (hi:=rfl) (hd:=rfl) (hw:=rfl) (h:=fun _ _=>ZC (z:=nz)))
 apply dwP (v:=gnv c.A c.kA) (L:=[[false,false,false,false,false,false],[true,false,false,false,false,false],[false,true,false,false,false,false],[true,true,false,false,false,false]]) (hi:=rfl) (hL:=rfl) (hd:=rfl) (hw:=rfl) (h:=by
  refine ⟨?_,?_,?_,?_,trivial⟩ <;>
  ·intro vs hvs hlk s hJ;obtain ⟨v1,v2,v3,v4,v5,v6,rfl,e1,e2,e3,e4,e5,e6⟩:=vs6 hvs;obtain ⟨k1,k2,k3,t1,t2,t3,htk,rfl⟩:=hJ.parts;rw [e4,e5,e6];exact lc rfl rfl (St.obj_set _ _ _) rfl rfl nz)
 repeat (apply dsP (hi:=rfl) (hs:=rfl))
 apply dqP (hi:=rfl) (hd:=rfl) (hw:=rfl) (h:=fun _ _=>svh (b:=a.A.length) rfl rfl rfl (by rw [nrows_len]; exact hle.A) nz);apply deP0 (Q:=fun v=>∃ k,v=.view 1 ((nrows c.A).take a.A.length) (.own k 9)) (L:=[[true,true,false,false,false,false]]) (hL:=rfl) (hd:=rfl) (hw:=rfl) (hex:=⟨_,0,rfl⟩) (h:=by
  refine ⟨?_,trivial⟩;intro vs hvs hlk s hJ hb;obtain ⟨v1,v2,v3,v4,v5,v6,rfl,e1,e2,e3,e4,e5,e6⟩:=vs6 hvs;obtain ⟨x1,rfl⟩:=isT e1;obtain ⟨x2,rfl⟩:=isT e2;obtain rfl:=isN e3;obtain rfl:=isN e4;obtain rfl:=isN e5;obtain rfl:=isN e6;obtain ⟨k1,k2,k3,t1,t2,t3,htk,rfl⟩:=hJ.parts;obtain rfl:=t3.none';refine apf rfl rfl rfl rfl (by simp only [List.length_take,nrows_len]; have:=hvc.lS; have:=hvc.lD; have:=hvc.lA; have:=hvc.c; omega) (by simp only [List.length_take,nrows_len,maxLen]; have:=hvc.lS; have:=hvc.lD; have:=hvc.lA; have:=hvc.c; omega) fun tk' htk'=>nl ⟨_,rfl,⟨tk',rfl⟩,?_,StLe.bare rfl⟩;refine ⟨k1,k2,some tk',t1,t2,rfl,TokL.add htk htk' (i:=2),?_⟩;show ((s0.toks _).addTok tk').set E.oM _=_;rw [toks_add (i:=2) rfl];rfl)
 rintro u3 ⟨q3,rfl⟩;repeat (first|apply dsP (hi:=rfl) (hs:=rfl)|apply dqP (hi:=rfl) (hd:=rfl) (hw:=rfl) (h:=fun _ _=>ZC (z:=nz)))
 apply dnWP (L:=[[true,true,true,false,false,false]]) (hL:=rfl) (hd:=rfl) (hw:=rfl) (h:=by
  refine ⟨?_,trivial⟩;intro vs hvs hlk s hJ hb;obtain ⟨v1,v2,v3,v4,v5,v6,rfl,e1,e2,e3,e4,e5,e6⟩:=vs6 hvs;obtain ⟨x1,rfl⟩:=isT e1;obtain ⟨x2,rfl⟩:=isT e2;obtain ⟨x3,rfl⟩:=isT e3;obtain rfl:=isN e4;obtain rfl:=isN e5;obtain rfl:=isN e6;have y1:x1=.view 1 ((nrows c.S).take a.S.length) (.own q1 9):=hlk (10,some x1) (.head _) (Nat.le_of_ble_eq_true rfl) x1 rfl;subst y1;have y2:x2=.view 1 ((nrows c.D).take a.D.length) (.own q2 9):=hlk (18,some x2) (.tail _ (.head _)) (Nat.le_of_ble_eq_true rfl) x2 rfl;subst y2;have y3:x3=.view 1 ((nrows c.A).take a.A.length) (.own q3 9):=hlk (26,some x3) (.tail _ (.tail _ (.head _))) (Nat.le_of_ble_eq_true rfl) x3 rfl;subst y3;obtain ⟨k1,k2,k3,t1,t2,t3,htk,rfl⟩:=hJ.parts;simp only [Option.isSome_none,Option.isSome_some,cond_false,cond_true,Option.getD_some];unfold mkC;refine YB (row':=mkRow E.oT E.f E.funcs E.pv (.view 1 ((nrows c.S).take a.S.length) (.own q1 9)) (gnv c.D c.kD) (gnv c.A c.kA) c.count c.left) (hle:=by exact Nat.le_of_ble_eq_true rfl) (he:=by exact rfl) (z:=?_);exact nl ⟨rfl,fun u=>⟨k1,k2,k3,t1,t2,t3,htk,rfl⟩,StLe.bare rfl⟩)
 intro z1;repeat (first|apply dsP (hi:=rfl) (hs:=rfl)|apply dqP (hi:=rfl) (hd:=rfl) (hw:=rfl) (h:=fun _ _=>ZC (z:=nz)))
 apply dnWP (L:=[[true,true,true,true,false,false]]) (hL:=rfl) (hd:=rfl) (hw:=rfl) (h:=by
  refine ⟨?_,trivial⟩;intro vs hvs hlk s hJ hb;obtain ⟨v1,v2,v3,v4,v5,v6,rfl,e1,e2,e3,e4,e5,e6⟩:=vs6 hvs;obtain ⟨x1,rfl⟩:=isT e1;obtain ⟨x2,rfl⟩:=isT e2;obtain ⟨x3,rfl⟩:=isT e3;obtain ⟨x4,rfl⟩:=isT e4;obtain rfl:=isN e5;obtain rfl:=isN e6;have y1:x1=.view 1 ((nrows c.S).take a.S.length) (.own q1 9):=hlk (10,some x1) (.head _) (Nat.le_of_ble_eq_true rfl) x1 rfl;subst y1;have y2:x2=.view 1 ((nrows c.D).take a.D.length) (.own q2 9):=hlk (18,some x2) (.tail _ (.head _)) (Nat.le_of_ble_eq_true rfl) x2 rfl;subst y2;have y3:x3=.view 1 ((nrows c.A).take a.A.length) (.own q3 9):=hlk (26,some x3) (.tail _ (.tail _ (.head _))) (Nat.le_of_ble_eq_true rfl) x3 rfl;subst y3;obtain ⟨k1,k2,k3,t1,t2,t3,htk,rfl⟩:=hJ.parts;simp only [Option.isSome_none,Option.isSome_some,cond_false,cond_true,Option.getD_some];unfold mkC;refine YB (row':=mkRow E.oT E.f E.funcs E.pv (.view 1 ((nrows c.S).take a.S.length) (.own q1 9)) (.view 1 ((nrows c.D).take a.D.length) (.own q2 9)) (gnv c.A c.kA) c.count c.left) (hle:=by exact Nat.le_of_ble_eq_true rfl) (he:=by exact rfl) (z:=?_);exact nl ⟨rfl,fun u=>⟨k1,k2,k3,t1,t2,t3,htk,rfl⟩,StLe.bare rfl⟩)
 intro z2;repeat (first|apply dsP (hi:=rfl) (hs:=rfl)|apply dqP (hi:=rfl) (hd:=rfl) (hw:=rfl) (h:=fun _ _=>ZC (z:=nz)))
 apply dnWP (L:=[[true,true,true,true,true,false]]) (hL:=rfl) (hd:=rfl) (hw:=rfl) (h:=by
  refine ⟨?_,trivial⟩;intro vs hvs hlk s hJ hb;obtain ⟨v1,v2,v3,v4,v5,v6,rfl,e1,e2,e3,e4,e5,e6⟩:=vs6 hvs;obtain ⟨x1,rfl⟩:=isT e1;obtain ⟨x2,rfl⟩:=isT e2;obtain ⟨x3,rfl⟩:=isT e3;obtain ⟨x4,rfl⟩:=isT e4;obtain ⟨x5,rfl⟩:=isT e5;obtain rfl:=isN e6;have y1:x1=.view 1 ((nrows c.S).take a.S.length) (.own q1 9):=hlk (10,some x1) (.head _) (Nat.le_of_ble_eq_true rfl) x1 rfl;subst y1;have y2:x2=.view 1 ((nrows c.D).take a.D.length) (.own q2 9):=hlk (18,some x2) (.tail _ (.head _)) (Nat.le_of_ble_eq_true rfl) x2 rfl;subst y2;have y3:x3=.view 1 ((nrows c.A).take a.A.length) (.own q3 9):=hlk (26,some x3) (.tail _ (.tail _ (.head _))) (Nat.le_of_ble_eq_true rfl) x3 rfl;subst y3;obtain ⟨k1,k2,k3,t1,t2,t3,htk,rfl⟩:=hJ.parts;simp only [Option.isSome_none,Option.isSome_some,cond_false,cond_true,Option.getD_some];unfold mkC;refine YB (row':=mkRow E.oT E.f E.funcs E.pv (.view 1 ((nrows c.S).take a.S.length) (.own q1 9)) (.view 1 ((nrows c.D).take a.D.length) (.own q2 9)) (.view 1 ((nrows c.A).take a.A.length) (.own q3 9)) c.count c.left) (hle:=by exact Nat.le_of_ble_eq_true rfl) (he:=by exact rfl) (z:=?_);exact nl ⟨rfl,fun u=>⟨k1,k2,k3,t1,t2,t3,htk,rfl⟩,StLe.bare rfl⟩)
 intro z3;refine dnP fun s hJ=>?_;have hJ':BJ E s0 c ((nrows c.S).take a.S.length) ((nrows c.D).take a.D.length) ((nrows c.A).take a.A.length) [some (.view 1 ((nrows c.S).take a.S.length) (.own q1 9)),some (.view 1 ((nrows c.D).take a.D.length) (.own q2 9)),some (.view 1 ((nrows c.A).take a.A.length) (.own q3 9)),some z1,some z2,some z3] s:=hJ;clear hJ;obtain ⟨k1,k2,k3,t1,t2,t3,htk,rfl⟩:=hJ'.parts;obtain ⟨p1,rfl,e1⟩:=t1.some';obtain ⟨p2,rfl,e2⟩:=t2.some';obtain ⟨p3,rfl,e3⟩:=t3.some';cases e1;cases e2;cases e3;refine AAny.text (by decide +kernel) ?_;refine nl ?_;refine goD ?_;have hle2:StLe ((s0.toks [some q1,some q2,some q3]).set E.oM (mkC E.oT (E.f:Int) (E.funcs:Int) E.pv (.view 1 ((nrows c.S).take a.S.length) (.own q1 9)) (.view 1 ((nrows c.D).take a.D.length) (.own q2 9)) (.view 1 ((nrows c.A).take a.A.length) (.own q3 9)) (c.count:Int) (c.left:Int)))
   (E.st (st0.addTok tk) { c with S:=c.S.take a.S.length,D:=c.D.take a.D.length,A:=c.A.take a.A.length,kS:=q1,kD:=q2,kA:=q3 }):=by
  rw [nrows_take,nrows_take,nrows_take,hs0];show StLe (((((((st0.addTok tk).set E.oT (tapeC E.l c.j)).set E.oM (E.c c)).set E.oM _).toks c.toks).toks [some q1,some q2,some q3])) _;rw [St.set_set];exact toks_le _ _ _
 refine AWP.ret (rets rfl (.refl _) hle2 ⟨rows,tk,{ c with S:=c.S.take a.S.length,D:=c.D.take a.D.length,A:=c.A.take a.A.length,kS:=q1,kD:=q2,kA:=q3 },rfl,hg,hl,h0,{ hvc with nS:=fun s hs=>hvc.nS s (List.mem_of_mem_take hs),nD:=fun s hs=>hvc.nD s (List.mem_of_mem_take hs),nA:=fun s hs=>hvc.nA s (List.mem_of_mem_take hs),lS:=?_,lD:=?_,lA:=?_,tk:=?_ },⟨?_,?_,?_,hle.left⟩,hsum,rfl⟩)
 ·simp only [List.length_take]; have:=hvc.lS; omega
 ·simp only [List.length_take]; have:=hvc.lD; omega
 ·simp only [List.length_take]; have:=hvc.lA; omega
 ·refine ⟨htk.one,fun i t hi=>?_⟩;have h1:=htk.fresh i t hi;rw [hs0] at h1;have h2:(decide (some t ∈ c.toks) || (st0.addTok tk).tok t)=false:=h1;rw [Bool.or_eq_false_iff] at h2;exact h2.2
 ·simp only [List.length_take]; have:=hle.S; omega
 ·simp only [List.length_take]; have:=hle.D; omega
 ·simp only [List.length_take]; have:=hle.A; omega
end Go.Proofs
