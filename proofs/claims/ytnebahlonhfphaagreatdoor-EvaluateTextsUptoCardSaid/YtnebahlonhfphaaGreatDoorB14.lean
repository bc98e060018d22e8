/- strconv.Itoa at this program: the kit's contract, laid by the kit's own tool in plain words. No conditions: lemmas only. -/
import Derived.Shelf.Strconv.Itoa3
import Derived.Test.YtnebahlonhfphaaGreatDoorProg
import Derived.Shelf.Strings.OnBuilder
import Derived.Lib.ItoaNum
import Derived.Test.YtnebahlonhfphaaGreatDoorB13
namespace Go.Proofs
open Go.Shelf
def Tryz.laysItoa_ren:Go.Shelf.Ren:=⟨fun|171=>20|243=>41|246=>82|283=>153|284=>154|285=>155|286=>156|129=>224|317=>223|318=>225|319=>226|320=>227|337=>267|338=>268|n=>n,fun|3=>3|9=>9|2=>2|4=>4|171=>331|0=>0|53=>305|37=>34|5=>5|173=>334|212=>393|51=>394|20=>20|213=>395|46=>59|232=>441|233=>442|n=>n,fun|17=>0|18=>2|19=>3|n=>n⟩
theorem Tryz.laysItoa:Go.Proofs.LaysM.n171 Tryz.prog Tryz.laysItoa_ren:={
 mixed:=by kernel_rfl
 f129:=Tryz.func224.trans (congrArg some (by kernel_rfl))
 f171:=Tryz.func20.trans (congrArg some (by kernel_rfl))
 f243:=Tryz.func41.trans (congrArg some (by kernel_rfl))
 f246:=Tryz.func82.trans (congrArg some (by kernel_rfl))
 f283:=Tryz.func153.trans (congrArg some (by kernel_rfl))
 f284:=Tryz.func154.trans (congrArg some (by kernel_rfl))
 f285:=Tryz.func155.trans (congrArg some (by kernel_rfl))
 f286:=Tryz.func156.trans (congrArg some (by kernel_rfl))
 f317:=Tryz.func223.trans (congrArg some (by kernel_rfl))
 f318:=Tryz.func225.trans (congrArg some (by kernel_rfl))
 f319:=Tryz.func226.trans (congrArg some (by kernel_rfl))
 f320:=Tryz.func227.trans (congrArg some (by kernel_rfl))
 f337:=Tryz.func267.trans (congrArg some (by kernel_rfl))
 f338:=Tryz.func268.trans (congrArg some (by kernel_rfl))
 t0:=Tryz.underlying0
 a0:=Tryz.isAgg0
 z0:=Tryz.sizeOf0
 v0:=Tryz.zeroValue0
 t2:=Tryz.underlying2
 a2:=Tryz.isAgg2
 z2:=Tryz.sizeOf2
 v2:=Tryz.zeroValue2
 t3:=Tryz.underlying3
 a3:=Tryz.isAgg3
 z3:=Tryz.sizeOf3
 v3:=Tryz.zeroValue3
 t4:=Tryz.underlying4
 a4:=Tryz.isAgg4
 z4:=Tryz.sizeOf4
 v4:=Tryz.zeroValue4
 t5:=Tryz.underlying5
 a5:=Tryz.isAgg5
 z5:=Tryz.sizeOf5
 v5:=Tryz.zeroValue5
 t9:=Tryz.underlying9
 a9:=Tryz.isAgg9
 z9:=Tryz.sizeOf9
 v9:=Tryz.zeroValue9
 t20:=Tryz.underlying20
 a20:=Tryz.isAgg20
 z20:=Tryz.sizeOf20
 v20:=Tryz.zeroValue20
 t37:=Tryz.underlying34
 a37:=Tryz.isAgg34
 z37:=Tryz.sizeOf34
 v37:=Tryz.zeroValue34
 t46:=Tryz.underlying59
 a46:=Tryz.isAgg59
 z46:=Tryz.sizeOf59
 v46:=Tryz.zeroValue59
 t51:=Tryz.underlying394
 a51:=Tryz.isAgg394
 z51:=Tryz.sizeOf394
 v51:=Tryz.zeroValue394
 t53:=Tryz.underlying305
 a53:=Tryz.isAgg305
 z53:=Tryz.sizeOf305
 v53:=Tryz.zeroValue305
 t171:=Tryz.underlying331
 a171:=Tryz.isAgg331
 z171:=Tryz.sizeOf331
 v171:=Tryz.zeroValue331
 t173:=Tryz.underlying334
 a173:=Tryz.isAgg334
 z173:=Tryz.sizeOf334
 v173:=Tryz.zeroValue334
 t212:=Tryz.underlying393
 a212:=Tryz.isAgg393
 z212:=Tryz.sizeOf393
 v212:=Tryz.zeroValue393
 t213:=Tryz.underlying395
 a213:=Tryz.isAgg395
 z213:=Tryz.sizeOf395
 t232:=Tryz.underlying441
 a232:=Tryz.isAgg441
 z232:=Tryz.sizeOf441
 v232:=Tryz.zeroValue441
 t233:=Tryz.underlying442
 a233:=Tryz.isAgg442
 z233:=Tryz.sizeOf442
 v233:=Tryz.zeroValue442
 g17:=by kernel_rfl
 g18:=by kernel_rfl
 g19:=by kernel_rfl
 i0:=by kernel_rfl
 i2:=by kernel_rfl
 i3:=by kernel_rfl
 i4:=by kernel_rfl
 i5:=by kernel_rfl
 i9:=by kernel_rfl
 i20:=by kernel_rfl
 i37:=by kernel_rfl
 i46:=by kernel_rfl
 i51:=by kernel_rfl
 i53:=by kernel_rfl
 i171:=by kernel_rfl
 i173:=by kernel_rfl
 i212:=by kernel_rfl
 i232:=by kernel_rfl
 i233:=by kernel_rfl
 m17:=by kernel_rfl
 m18:=by kernel_rfl
 m19:=by kernel_rfl }
theorem itoaC (n : Int) (h0 : -9223372036854775808 ≤ n) (h1 : n ≤ 9223372036854775807) (w : World) (htab : Lib.TabIs Tryz.prog w "internal/strconv.uint64pow10" .u64 Lib.pow10Tab) :
  Calls Tryz.prog 20 #[.int .i64 n] w fun e w'=>e=.returned (.string ⟨(Lib.itoa n).toArray⟩)∧∃ k os,w'=Sort.grow (w.drewN k) os:=Any.strconv_Itoa Tryz.laysItoa n h0 h1 w htab
end Go.Proofs
namespace Go.Proofs
open Go.Shelf
def Tryz.laysJoin_ren:Go.Shelf.Ren:=⟨fun|156=>21|165=>42|166=>43|169=>44|240=>83|241=>84|276=>157|277=>158|n=>n,fun|31=>56|9=>9|3=>3|4=>4|0=>0|20=>20|72=>131|76=>135|70=>129|37=>34|75=>134|127=>227|164=>336|5=>5|80=>137|n=>n,fun|n=>n⟩
theorem Tryz.laysJoin:Go.Proofs.Lays.n156 Tryz.prog Tryz.laysJoin_ren:={
 mixed:=by kernel_rfl
 f156:=Tryz.func21.trans (congrArg some (by kernel_rfl))
 f165:=Tryz.func42.trans (congrArg some (by kernel_rfl))
 f166:=Tryz.func43.trans (congrArg some (by kernel_rfl))
 f169:=Tryz.func44.trans (congrArg some (by kernel_rfl))
 f240:=Tryz.func83.trans (congrArg some (by kernel_rfl))
 f241:=Tryz.func84.trans (congrArg some (by kernel_rfl))
 f276:=Tryz.func157.trans (congrArg some (by kernel_rfl))
 f277:=Tryz.func158.trans (congrArg some (by kernel_rfl))
 t0:=Tryz.underlying0
 a0:=Tryz.isAgg0
 z0:=Tryz.sizeOf0
 v0:=Tryz.zeroValue0
 t3:=Tryz.underlying3
 a3:=Tryz.isAgg3
 z3:=Tryz.sizeOf3
 v3:=Tryz.zeroValue3
 t4:=Tryz.underlying4
 a4:=Tryz.isAgg4
 z4:=Tryz.sizeOf4
 v4:=Tryz.zeroValue4
 t9:=Tryz.underlying9
 a9:=Tryz.isAgg9
 z9:=Tryz.sizeOf9
 v9:=Tryz.zeroValue9
 t20:=Tryz.underlying20
 a20:=Tryz.isAgg20
 z20:=Tryz.sizeOf20
 v20:=Tryz.zeroValue20
 t31:=Tryz.underlying56
 a31:=Tryz.isAgg56
 z31:=Tryz.sizeOf56
 v31:=Tryz.zeroValue56
 t37:=Tryz.underlying34
 a37:=Tryz.isAgg34
 z37:=Tryz.sizeOf34
 v37:=Tryz.zeroValue34
 t70:=Tryz.underlying129
 a70:=Tryz.isAgg129
 z70:=Tryz.sizeOf129
 v70:=Tryz.zeroValue129
 t72:=Tryz.underlying131
 a72:=Tryz.isAgg131
 z72:=Tryz.sizeOf131
 v72:=Tryz.zeroValue131
 t75:=Tryz.underlying134
 a75:=Tryz.isAgg134
 z75:=Tryz.sizeOf134
 v75:=Tryz.zeroValue134
 t76:=Tryz.underlying135
 a76:=Tryz.isAgg135
 z76:=Tryz.sizeOf135
 v76:=Tryz.zeroValue135
 t127:=Tryz.underlying227
 a127:=Tryz.isAgg227
 z127:=Tryz.sizeOf227
 v127:=Tryz.zeroValue227
 t164:=Tryz.underlying336
 a164:=Tryz.isAgg336
 z164:=Tryz.sizeOf336
 v164:=Tryz.zeroValue336 }
theorem Tryz.laysJoinX:Builder.Extra Tryz.prog Tryz.laysJoin_ren:={
 sizeBuilder:=by kernel_rfl
 liesBuilder:=by kernel_rfl
 t5:=Tryz.underlying5
 a5:=Tryz.isAgg5
 z5:=Tryz.sizeOf5
 v5:=Tryz.zeroValue5
 infoByte:=by kernel_rfl
 cellsByte:=by kernel_rfl
 sizeByte:=by kernel_rfl
 neB5:=by decide }
theorem joinC (bk o c:Nat) (xs:List ByteArray) (sep:ByteArray) (w:World) (hcells:∀ (j:Nat) x,xs[j]?=some x→w.cell? ⟨bk,o + j,none⟩=some (.string x)) (hbk:bk < w.heap.size) (hN:xs.length≤140737488355328) (hcap:xs.length≤c) (hlen:(Lib.join (xs.map (·.data.toList)) sep.data.toList).length≤140737488355328) :
  Calls Tryz.prog 21 #[.slice (some ⟨bk,o,none⟩) xs.length c,.string sep] w fun e w'=>e=.returned (.string ⟨(Lib.join (xs.map (·.data.toList)) sep.data.toList).toArray⟩)∧Go.RowKit.Below w.heap.size w w':=Any.strings_Join Tryz.laysJoin Tryz.laysJoinX bk o c xs sep w hcells hbk hN hcap hlen
end Go.Proofs
namespace Go.Proofs
open Go.AM
open Go.RowKit (Below)
attribute [local irreducible] AWP AOps ACalls AAny
set_option linter.unusedSimpArgs false

theorem wrap8 {a:Int} (h:0≤a∧a < 256):IntKind.u8.wrap a=a:=by
 simp only [IntKind.wrap,IntKind.bits,IntKind.signed]
 simp
 omega
theorem nDigits_le:∀ (k u:Nat),1≤k→u < 10 ^ k→Lib.nDigits u≤k
 | 0,_,h,_=>by omega
 | k + 1,u,_,h=>by
  rw [Lib.nDigits]
  split
  ·omega
  ·rename_i hu
   cases k with
   | zero=>simp at h; omega
   | succ k =>
    have:=nDigits_le (k + 1) (u / 10) (by omega) (by rw [Nat.pow_succ] at h; omega)
    omega
theorem dec_len {u:Nat} (h:u < 10000000000000000000):(Lib.decDigits u).length≤19:=by
 rw [Lib.decDigits_length]
 exact nDigits_le 19 u (by decide) h
theorem itoa_len {n:Int} (h:w64 n):(Lib.itoa n).length≤20:=by
 unfold w64 at h
 unfold Lib.itoa
 split
 ·have:=dec_len (u:=n.natAbs) (by omega)
  simp only [List.length_cons]
  omega
 ·have:=dec_len (u:=n.toNat) (by omega)
  omega
theorem itoa_nat (u:Nat):Lib.itoa (u:Int)=Lib.decDigits u:=by
 unfold Lib.itoa
 rw [if_neg (by omega),Int.toNat_natCast]
theorem dig_nat (u:Nat):∀ (_:u < 9223372036854775808) (st:St),ACalls Tryz.prog 22 [.int .i64 (u:Int)] st (fun v st'=>v=.str (Lib.decDigits u)∧st'=st) (fun _ _=>False):=by
 induction u using Nat.strongRecOn with
 | _ u ih =>
  intro hu st
  refine ACalls.ofBody Tryz.func22 rfl Tryz.ntmps22 rfl ?_
  refine goD ?_
  refine AWP.cond_dec rfl (fun h=>?_) (fun h=>AWP.skip ?_)
  ·have h':u < 10:=by have h0:(u:Int) < 10:=h; omega
   refine goD ?_
   refine Go.AM.ad rfl rfl rfl (by omega) ?_
   refine cv (c:=((UInt8.ofNat (48 + u)).toNat:Int)) rfl rfl ?_ ?_
   ·have e:(UInt8.ofNat (48 + u)).toNat=48 + u:=by rw [UInt8.toNat_ofNat']; omega
    rw [e,wrap8 (by omega)]
    omega
   refine goD ?_
   refine cbs (l:=[UInt8.ofNat (48 + u)]) rfl rfl ?_
   refine goD ?_
   exact AWP.ret (rets rfl (.refl _) (.refl _) ⟨by rw [Lib.decDigits_one h']; rfl,rfl⟩)
  ·have h':¬ u < 10:=by have h0:¬ (u:Int) < 10:=h; omega
   have hd:=dec_len (u:=u / 10) (by omega)
   have hm:=dec_len (u:=u % 10) (by omega)
   have e1:(u:Int).tdiv 10=((u / 10:Nat):Int):=by rw [Int.tdiv_eq_ediv_of_nonneg (by omega)]; omega
   have e2:(u:Int).tmod 10=((u % 10:Nat):Int):=by rw [Int.tmod_eq_emod_of_nonneg (by omega)]; omega
   refine goD ?_
   refine qu rfl rfl rfl (by decide) (by rw [e1]; omega) ?_
   rw [e1]
   refine goE ?_
   refine cle rfl rfl (ih (u / 10) (by omega) (by omega) _) ?_
   refine goE ?_
   refine rm rfl rfl rfl (by decide) ?_
   rw [e2]
   refine goE ?_
   refine cle rfl rfl (ih (u % 10) (by omega) (by omega) _) ?_
   refine sad rfl rfl rfl (by omega) ?_
   refine goD ?_
   refine AWP.ret (rets rfl (.refl _) (.refl _) ⟨?_,rfl⟩)
   rw [Lib.decDigits_one (i:=u % 10) (by omega)]
   conv=>rhs; rw [Lib.decDigits,dif_neg h']
   rfl
theorem dig_ok (n:Int) (hn:w64 n) (st:St):ACalls Tryz.prog 22 [.int .i64 n] st (fun v st'=>v=.str (Lib.itoa n)∧st'=st) (fun _ _=>False):=by
 by_cases h0:n < 0
 ·refine ACalls.ofBody Tryz.func22 rfl Tryz.ntmps22 rfl ?_
  unfold w64 at hn
  refine goD ?_
  refine AWP.cond_dec rfl (fun h=>?_) (fun h=>AWP.skip ?_)
  ·have h':n=-9223372036854775808:=h
   refine goD ?_
   refine AWP.ret (rets rfl (.refl _) (.refl _) ⟨?_,rfl⟩)
   subst h'
   have e:Lib.itoa (-9223372036854775808)=[45,57,50,50,51,51,55,50,48,51,54,56,53,52,55,55,53,56,48,56]:=by
    unfold Lib.itoa
    rw [if_pos (by decide),show Int.natAbs (-9223372036854775808)=9223372036854775808 by decide]
    simp [Lib.decDigits]
   rw [e]
   rfl
  ·have h':¬ n=-9223372036854775808:=h
   obtain ⟨u,hu⟩:∃ u:Nat,(0:Int) - n=(u:Int):=⟨(0 - n).toNat,by omega⟩
   have hd:=dec_len (u:=u) (by omega)
   refine goD ?_
   refine Go.AM.sb rfl rfl rfl (by omega) ?_
   rw [hu]
   refine goE ?_
   refine cle rfl rfl (dig_nat u (by omega) _) ?_
   refine sad rfl rfl rfl (by simp; omega) ?_
   refine goD ?_
   refine AWP.ret (rets rfl (.refl _) (.refl _) ⟨?_,rfl⟩)
   unfold Lib.itoa
   rw [if_pos h0,show n.natAbs=u by omega]
   rfl
 ·obtain ⟨u,rfl⟩:∃ u:Nat,n=(u:Int):=⟨n.toNat,by omega⟩
  rw [itoa_nat]
  exact dig_nat u (by have:=hn.2; omega) st
def powRow:List AV:=Lib.pow10Tab.map fun z=>.int .u64 z
theorem itoa_ok (n:Int) (hn:w64 n) (st:St) (hT:(0,powRow) ∈ st.glob):ACalls Tryz.prog 20 [.int .i64 n] st (fun v st'=>v=.str (Lib.itoa n)∧st'=st) (fun _ _=>False):=by
 refine ACalls.grown fun g w rargs hs hl hr=>?_
 have hra:rargs=#[.int .i64 n]:=by
  have h1:rargs.size=1:=by simpa using hl.symm
  obtain ⟨v,rfl⟩:=Array.size_eq_one_iff.1 h1
  have:=hr 0 _ v rfl rfl
  cases this
  rfl
 subst hra
 have h64:=hn
 unfold w64 at h64
 refine (itoaC n h64.1 (by omega) w (tabIs hs (by kernel_rfl) hT)).mono fun e w' ⟨he,k,os,hw⟩=>⟨_,he,fun g w=>.str _,os,by rw [hw]; rfl,by rw [hw]; rfl,by rw [hw]; rfl,by rw [hw]; rfl⟩

abbrev Names:=List (List UInt8)
def nrow (l:Names):List (List AV):=l.map fun s=>[.str s]
theorem nrow_len (l:Names):(nrow l).length=l.length:=List.length_map ..
def jnT:Names→List UInt8
 | []=>[]
 | [a]=>a
 | a::b::r=>a++[44,32]++jnT (b::r)
def JoinOk (l:Names):Prop:=∀ st,ACalls Tryz.prog 21 [.view 1 (nrow l) .shared,.str [44,32]] st (fun v st'=>v=.str (jnT l)∧st'=st) (fun _ _=>False)
theorem join_one {l:Names} (h:l.length≤1):JoinOk l:=by
 intro st
 refine ACalls.ofBody Tryz.func21 rfl Tryz.ntmps21 rfl ?_
 match l,h with
 | [],_ =>
  refine goD ?_
  exact AWP.ret (rets rfl (.refl _) (.refl _) ⟨rfl,rfl⟩)
 | [a],_ =>
  refine goD ?_
  exact AWP.ret (rets rfl (.refl _) (.refl _) ⟨rfl,rfl⟩)
 | _::_::_,h=>exact absurd h (by simp)
theorem below_new {w w':World} (h:Below w.heap.size w w'):∃ os,w'.heap=w.heap++os:=by
 refine ⟨w'.heap.extract w.heap.size w'.heap.size,?_⟩
 apply Array.ext_getElem?
 intro k
 by_cases hk:k < w.heap.size
 ·rw [h.block k hk,Array.getElem?_append_left hk]
 ·rw [Array.getElem?_append_right (by omega),Array.getElem?_extract]
  have:=h.size
  by_cases h2:k < w'.heap.size
  ·rw [if_pos (by omega)]
   congr 1
   omega
  ·rw [if_neg (by omega)]
   exact Array.getElem?_eq_none (by omega)
theorem join_jnT:∀ l:Names,Lib.join l [44,32]=jnT l
 | []=>rfl
 | [a]=>by simp [Lib.join,jnT]
 | a::b::l=>by
  rw [jnT,← join_jnT (b::l)]
  simp [Lib.join]
theorem join_ok (l:Names) (hl:l.length≤100000) (hb:(jnT l).length≤140737488355328):JoinOk l:=by
 by_cases h1:l.length≤1
 ·exact join_one h1
 intro st
 refine ACalls.grown fun g w rargs hs hlen hr=>?_
 obtain ⟨v0,v1,rfl⟩:∃ v0 v1,rargs=#[v0,v1]:=by
  obtain ⟨a⟩:=rargs
  match a,hlen with
  | [v0,v1],_=>exact ⟨v0,v1,rfl⟩
 have r0:=hr 0 _ v0 rfl rfl
 have r1:=hr 1 _ v1 rfl rfl
 cases r1
 have hnl:=nrow_len l
 generalize hrows:nrow l=rows at r0 hnl
 cases r0 with
 | vnil=>simp only [List.length_nil] at hnl; omega
 | vemp=>simp only [List.length_nil] at hnl; omega
 | view _ _ _ b off cap f hc hm hsz ho ht himm hh =>
  subst hrows
  have hbk:b < w.heap.size:=hs.immlt b _ (himm 0 0 (by omega) (by decide)).1
  have hcell:∀ (j:Nat) x,(l.map fun s=>(⟨⟨s⟩⟩:ByteArray))[j]?=some x→w.cell? ⟨b,off + j,none⟩=some (.string x):=fun j x hx=>by
   rw [List.getElem?_map] at hx
   cases hlj:l[j]? with
   | none=>rw [hlj] at hx; cases hx
   | some s =>
    rw [hlj] at hx
    cases hx
    have hj:j < l.length:=(List.getElem?_eq_some_iff.1 hlj).1
    have hrj:(nrow l)[j]?=some [.str s]:=by unfold nrow; rw [List.getElem?_map,hlj]; rfl
    have h3:=(himm j 0 (by omega) (by decide)).2
    have h4:=hh j 0 _ _ hrj rfl
    rw [show off + (j * 1 + 0)=off + j by omega] at h3
    rw [h3]
    generalize f j 0=fv at h4
    cases h4
    rfl
  have hmap:(l.map fun s=>(⟨⟨s⟩⟩:ByteArray)).map (·.data.toList)=l:=by
   rw [List.map_map]
   exact List.map_id'' (fun _=>rfl) l
  have hC:=joinC b off cap (l.map fun s=>(⟨⟨s⟩⟩:ByteArray)) ⟨⟨[44,32]⟩⟩ w hcell hbk (by rw [List.length_map]; omega) (by rw [List.length_map]; omega) (by rw [hmap,join_jnT]; exact hb)
  rw [hmap,join_jnT,List.length_map] at hC
  rw [hnl]
  refine hC.mono fun e w' ⟨he,hB⟩=>?_
  obtain ⟨os,hos⟩:=below_new hB
  exact ⟨_,he,fun _ _=>.str _,os,hos,hB.os,hB.tape,hB.output⟩
end Go.Proofs
namespace Go.Proofs
open Go.AM
attribute [local irreducible] AWP AOps ACalls AAny
set_option linter.unusedSimpArgs false

def brs (l:List Bool):List (List AV):=l.map fun b=>[.bool b]
def irs (l:List Int):List (List AV):=l.map fun n=>[.int .i64 n]
theorem brs_len (l:List Bool):(brs l).length=l.length:=List.length_map ..
theorem irs_len (l:List Int):(irs l).length=l.length:=List.length_map ..
theorem brs_at {l:List Bool} {i:Nat} {b:Bool} (h:l[i]?=some b):(brs l)[i]?=some [.bool b]:=by unfold brs; rw [List.getElem?_map,h]; rfl
theorem irs_at {l:List Int} {i:Nat} {b:Int} (h:l[i]?=some b):(irs l)[i]?=some [.int .i64 b]:=by unfold irs; rw [List.getElem?_map,h]; rfl

set_option maxHeartbeats 2000000 in
theorem sEqual_ok (a b:List Bool) (_:a.length≤100000) (st:St):ACalls Tryz.prog 23 [.view 1 (brs a) .shared,.view 1 (brs b) .shared] st (fun v st'=>v=.bool (decide (a=b))∧st'=st) (fun _ _=>False):=by
 refine ACalls.ofBody Tryz.func23 rfl Tryz.ntmps23 rfl ?_
 have la:=brs_len a
 have lb:=brs_len b
 by_cases hl:a.length=b.length
 ·have hl':((brs a).length:Int)=(brs b).length:=by omega
  refine goD ?_
  refine AWP.loop (α:=Nat) (fun i=>[(13,.int .i64 (i:Int)),(12,.int .i64 ((brs a).length:Int)),(1,.view 1 (brs b) .shared),(0,.view 1 (brs a) .shared)]) (fun _=>st) (fun i=>i≤a.length∧a.take i=b.take i) (fun i=>a.length - i) 0 ⟨Nat.zero_le _,rfl⟩ (tl4 rfl rfl rfl rfl) (.refl _) ?_
  rintro i ⟨hi,he⟩
  refine AWP.weaken (T':=[(13,.int .i64 (i:Int)),(12,.int .i64 ((brs a).length:Int)),(1,.view 1 (brs b) .shared),(0,.view 1 (brs a) .shared)]) (tl4 rfl rfl rfl rfl) (.refl _) ?_
  by_cases hlt:i < a.length
  ·obtain ⟨x,hx⟩:∃ x,a[i]?=some x:=⟨_,List.getElem?_eq_getElem hlt⟩
   obtain ⟨y,hy⟩:∃ x,b[i]?=some x:=⟨_,List.getElem?_eq_getElem (by omega)⟩
   have hxr:=brs_at hx
   have hyr:=brs_at hy
   have hir:i < (brs a).length:=by omega
   have hir2:i < (brs b).length:=by omega
   by_cases hxy:x=y
   ·have hq:(!(x == y))=false:=by rw [hxy]; cases y <;> rfl
    refine goD ?_
    refine AWP.any rfl ?_
    apply AAny.segQ (k':=8) (hok:=by decide +kernel)
    repeat (first|apply dsY (hi:=rfl) (hs:=rfl)|apply dqY (hi:=rfl) (hd:=rfl) (hw:=rfl) (h:=fun _ _=>ZD (z:=nz))|apply dqY (hi:=rfl) (hd:=rfl) (hw:=rfl) (h:=fun _ _=>ZF (z:=nz))|apply dqY (hi:=rfl) (hd:=rfl) (hw:=rfl) (h:=fun _ _=>ZC (z:=nz))|apply dqY (hi:=rfl) (hd:=rfl) (hw:=rfl) (h:=fun _ _=>ZJ (z:=nz))|apply dqY (hi:=rfl) (hd:=rfl) (hw:=rfl) (h:=fun _ _=>ZK (z:=nz))|apply dqY (hi:=rfl) (hd:=rfl) (hw:=rfl) (h:=fun _ _=>ZM (z:=nz))|apply dqY (hi:=rfl) (hd:=rfl) (hw:=rfl) (h:=fun _ _=>ZN (z:=nz))|apply dqY (hi:=rfl) (hd:=rfl) (hw:=rfl) (h:=fun _ _=>ZH (z:=nz))|apply dqY (hi:=rfl) (hd:=rfl) (hw:=rfl) (h:=fun _ _=>ZQ (z:=nz))|apply dqY (hi:=rfl) (hd:=rfl) (hw:=rfl) (h:=fun _ _=>ZO (z:=nz))|apply dqY (hi:=rfl) (hd:=rfl) (hw:=rfl) (h:=fun _ _=>YC (z:=nz)))
    refine dnQ ?_
    refine AAny.text rfl ?_
    refine goD ?_
    exact ⟨i + 1,⟨by omega,by rw [List.take_add_one,List.take_add_one,he,hx,hy,hxy]⟩,by omega,(tl4 rfl rfl rfl rfl),.refl _⟩
   ·have hne:a≠b:=fun h=>by subst h; rw [hx] at hy; cases hy; exact hxy rfl
    have hq:(!(x == y))=true:=by cases x <;> cases y <;> first|rfl|exact absurd rfl hxy
    refine goD ?_
    refine AWP.any rfl ?_
    apply AAny.segQ (k':=8) (hok:=by decide +kernel)
    repeat (first|apply dsY (hi:=rfl) (hs:=rfl)|apply dqY (hi:=rfl) (hd:=rfl) (hw:=rfl) (h:=fun _ _=>ZD (z:=nz))|apply dqY (hi:=rfl) (hd:=rfl) (hw:=rfl) (h:=fun _ _=>ZF (z:=nz))|apply dqY (hi:=rfl) (hd:=rfl) (hw:=rfl) (h:=fun _ _=>ZC (z:=nz))|apply dqY (hi:=rfl) (hd:=rfl) (hw:=rfl) (h:=fun _ _=>ZJ (z:=nz))|apply dqY (hi:=rfl) (hd:=rfl) (hw:=rfl) (h:=fun _ _=>ZK (z:=nz))|apply dqY (hi:=rfl) (hd:=rfl) (hw:=rfl) (h:=fun _ _=>ZM (z:=nz))|apply dqY (hi:=rfl) (hd:=rfl) (hw:=rfl) (h:=fun _ _=>ZN (z:=nz))|apply dqY (hi:=rfl) (hd:=rfl) (hw:=rfl) (h:=fun _ _=>ZH (z:=nz))|apply dqY (hi:=rfl) (hd:=rfl) (hw:=rfl) (h:=fun _ _=>ZQ (z:=nz))|apply dqY (hi:=rfl) (hd:=rfl) (hw:=rfl) (h:=fun _ _=>ZO (z:=nz))|apply dqY (hi:=rfl) (hd:=rfl) (hw:=rfl) (h:=fun _ _=>YC (z:=nz)))
    refine dnQ ?_
    refine AAny.text rfl ?_
    refine goD ?_
    exact AWP.ret (rets rfl (.refl _) (.refl _) ⟨by rw [decide_eq_false hne]; rfl,rfl⟩)
  ·have hil:i=a.length:=by omega
   have heq:a=b:=by
    subst hil
    rw [List.take_of_length_le (Nat.le_refl _),List.take_of_length_le (by omega)] at he
    exact he
   refine goD ?_
   refine AWP.exit (blk_hit ?_)
   refine goD ?_
   exact AWP.ret (rets rfl (.refl _) (.refl _) ⟨by rw [decide_eq_true heq]; rfl,rfl⟩)
 ·have hl':¬ ((brs a).length:Int)=(brs b).length:=by omega
  have hne:a≠b:=fun h=>by subst h; exact hl rfl
  refine goD ?_
  exact AWP.ret (rets rfl (.refl _) (.refl _) ⟨by rw [decide_eq_false hne]; rfl,rfl⟩)
end Go.Proofs
namespace Go.Proofs
open Go.AM
attribute [local irreducible] AWP AOps ACalls AAny
set_option linter.unusedSimpArgs false

structure Dt where
 kind:Int
 rc:Int
 known:List Bool
 words:List Int
def dV (d:Dt):AV:=.agg [.int .i64 d.kind,.int .i64 d.rc,.view 1 (brs d.known) .shared,.view 1 (irs d.words) .shared]
def wag:List Bool→List Int→List Int→Bool
 | [],x::a,y::b=>decide (x=y) && wag [] a b
 | c::k,x::a,y::b=>(!c || decide (x=y)) && wag k a b
 | _,_,_=>true
def eqD (a b:Dt):Bool:=decide (a.kind=b.kind) && (decide (a.rc=b.rc) && (decide (a.known=b.known) && (decide (a.words.length=b.words.length) && wag a.known a.words b.words)))
theorem wag_step {k:List Bool} {a b:List Int} {i:Nat} {x y:Int} (ha:a[i]?=some x) (hb:b[i]?=some y) :
  wag (k.drop i) (a.drop i) (b.drop i)=((!((k[i]?).getD true) || decide (x=y)) && wag (k.drop (i + 1)) (a.drop (i + 1)) (b.drop (i + 1))):=by
 have h1:a.drop i=x::a.drop (i + 1):=by rw [List.drop_eq_getElem_cons (List.getElem?_eq_some_iff.1 ha).1,(List.getElem?_eq_some_iff.1 ha).2]
 have h2:b.drop i=y::b.drop (i + 1):=by rw [List.drop_eq_getElem_cons (List.getElem?_eq_some_iff.1 hb).1,(List.getElem?_eq_some_iff.1 hb).2]
 rw [h1,h2]
 cases hk:k[i]? with
 | none =>
  have hl:k.length≤i:=List.getElem?_eq_none_iff.1 hk
  have h4:k.drop (i + 1)=[]:=List.drop_eq_nil_of_le (by omega)
  rw [List.drop_eq_nil_of_le hl,h4,wag]
  rfl
 | some c =>
  have h3:k.drop i=c::k.drop (i + 1):=by rw [List.drop_eq_getElem_cons (List.getElem?_eq_some_iff.1 hk).1,(List.getElem?_eq_some_iff.1 hk).2]
  rw [h3,wag]
  rfl
theorem wag_end {k:List Bool} {a b:List Int}:wag (k.drop a.length) (a.drop a.length) (b.drop a.length)=true:=by
 rw [List.drop_length]
 cases k.drop a.length <;> rfl

set_option maxHeartbeats 4000000 in
theorem equal_ok (a b:Dt) (ha:a.known.length≤100000) (ha2:a.words.length≤100000) (st:St):ACalls Tryz.prog 12 [dV a,dV b] st (fun v st'=>v=.bool (eqD a b)∧st'=st) (fun _ _=>False):=by
 refine ACalls.ofBody Tryz.func12 rfl Tryz.ntmps12 rfl ?_
 obtain ⟨k1,r1,kn1,w1⟩:=a
 obtain ⟨k2,r2,kn2,w2⟩:=b
 simp only at ha ha2
 unfold dV
 simp only
 have l1:=brs_len kn1
 have l2:=brs_len kn2
 have l3:=irs_len w1
 have l4:=irs_len w2
 have no:∀ {v:Bool},v=false→AV.bool v=AV.bool false:=fun h=>by rw [h]
 by_cases h1:k1=k2
 ·have h1':¬ (k1≠k2):=fun h=>h h1
  by_cases h2:r1=r2
  ·have h2':¬ (r1≠r2):=fun h=>h h2
   refine goD ?_
   refine cle rfl rfl (sEqual_ok kn1 kn2 ha st) ?_
   by_cases h3:kn1=kn2
   ·rw [decide_eq_true h3]
    subst h3
    by_cases h4:w1.length=w2.length
    ·have h4':¬ (((irs w1).length:Int)≠((irs w2).length:Int)):=fun h=>h (by omega)
     have h4'':((irs w1).length:Int)=((irs w2).length:Int):=by omega
     refine goD ?_
     have E:eqD ⟨k1,r1,kn1,w1⟩ ⟨k2,r2,kn1,w2⟩=wag kn1 w1 w2:=by simp [eqD,h1,h2,h4]
     rw [E]
     refine AWP.loop (α:=Nat) (fun i=>[(39,.int .i64 (i:Int)),(38,.int .i64 ((irs w1).length:Int)),(37,.view 1 (irs w1) .shared),(3,.eptr 4 [[.int .i64 k2,.int .i64 r2,.view 1 (brs kn1) .shared,.view 1 (irs w2) .shared]] 0 0),(2,.eptr 4 [[.int .i64 k1,.int .i64 r1,.view 1 (brs kn1) .shared,.view 1 (irs w1) .shared]] 0 0)]) (fun _=>st)
      (fun i=>i≤w1.length∧wag kn1 w1 w2=wag (kn1.drop i) (w1.drop i) (w2.drop i)) (fun i=>w1.length - i) 0 ⟨Nat.zero_le _,rfl⟩ (tl5 rfl rfl rfl rfl rfl) (.refl _) ?_
     rintro i ⟨hi,he⟩
     refine AWP.weaken (T':=[(39,.int .i64 (i:Int)),(38,.int .i64 ((irs w1).length:Int)),(37,.view 1 (irs w1) .shared),(3,.eptr 4 [[.int .i64 k2,.int .i64 r2,.view 1 (brs kn1) .shared,.view 1 (irs w2) .shared]] 0 0),(2,.eptr 4 [[.int .i64 k1,.int .i64 r1,.view 1 (brs kn1) .shared,.view 1 (irs w1) .shared]] 0 0)]) (tl5 rfl rfl rfl rfl rfl) (.refl _) ?_
     by_cases hlt:i < w1.length
     ·obtain ⟨x,hx⟩:∃ x,w1[i]?=some x:=⟨_,List.getElem?_eq_getElem hlt⟩
      obtain ⟨y,hy⟩:∃ x,w2[i]?=some x:=⟨_,List.getElem?_eq_getElem (by omega)⟩
      have hxr:=irs_at hx
      have hyr:=irs_at hy
      have hir:i < (irs w1).length:=by omega
      have hir2:i < (irs w2).length:=by omega
      rw [wag_step hx hy] at he
      cases hk:kn1[i]? with
      | none =>
       have hge:(i:Int) ≥ ((brs kn1).length:Int):=by have:=List.getElem?_eq_none_iff.1 hk; omega
       rw [hk] at he
       by_cases hxy:x=y
       ·have hxy':¬ (x≠y):=fun h=>h hxy
        refine goD ?_
        exact ⟨i + 1,⟨by omega,by rw [he,decide_eq_true hxy]; rfl⟩,by omega,(tl5 rfl rfl rfl rfl rfl),.refl _⟩
       ·refine goD ?_
        exact AWP.ret (rets rfl (.refl _) (.refl _) ⟨by rw [he,decide_eq_false hxy]; rfl,rfl⟩)
      | some c =>
       have hlk:=(List.getElem?_eq_some_iff.1 hk).1
       have hge:¬ (i:Int) ≥ ((brs kn1).length:Int):=by omega
       have hkr:=brs_at hk
       have hir3:i < (brs kn1).length:=by omega
       rw [hk] at he
       cases c with
       | false =>
        refine goD ?_
        exact ⟨i + 1,⟨by omega,by rw [he]; rfl⟩,by omega,(tl5 rfl rfl rfl rfl rfl),.refl _⟩
       | true =>
        by_cases hxy:x=y
        ·have hxy':¬ (x≠y):=fun h=>h hxy
         refine goD ?_
         exact ⟨i + 1,⟨by omega,by rw [he,decide_eq_true hxy]; rfl⟩,by omega,(tl5 rfl rfl rfl rfl rfl),.refl _⟩
        ·refine goD ?_
         exact AWP.ret (rets rfl (.refl _) (.refl _) ⟨by rw [he,decide_eq_false hxy]; rfl,rfl⟩)
     ·have hil:i=w1.length:=by omega
      subst hil
      refine goD ?_
      refine AWP.exit (blk_hit ?_)
      refine goD ?_
      exact AWP.ret (rets rfl (.refl _) (.refl _) ⟨by rw [he,wag_end]; rfl,rfl⟩)
    ·have h4':((irs w1).length:Int)≠((irs w2).length:Int):=by omega
     refine goD ?_
     exact AWP.ret (rets rfl (.refl _) (.refl _) ⟨(by simp [eqD,h4]; rfl),rfl⟩)
   ·rw [decide_eq_false h3]
    refine goD ?_
    exact AWP.ret (rets rfl (.refl _) (.refl _) ⟨(by simp [eqD,h3]; rfl),rfl⟩)
  ·refine goD ?_
   exact AWP.ret (rets rfl (.refl _) (.refl _) ⟨(by simp [eqD,h2]; rfl),rfl⟩)
 ·refine goD ?_
  exact AWP.ret (rets rfl (.refl _) (.refl _) ⟨(by simp [eqD,h1]; rfl),rfl⟩)
end Go.Proofs
namespace Go.Proofs
open Go.AM
attribute [local irreducible] AWP AOps ACalls AAny
set_option linter.unusedSimpArgs false

set_option maxHeartbeats 8000000 in
theorem requal_ok (a b:Dt) (ha:a.known.length≤100000) (ha2:a.words.length≤100000) (st:St):ACalls Tryz.prog 13 [dV a,dV b] st (fun v st'=>v=.bool (eqD a b)∧st'=st) (fun _ _=>False):=by
 refine ACalls.ofBody Tryz.func13 rfl Tryz.ntmps13 rfl ?_
 obtain ⟨k1,r1,kn1,w1⟩:=a
 obtain ⟨k2,r2,kn2,w2⟩:=b
 simp only at ha ha2
 unfold dV
 simp only
 have l1:=brs_len kn1
 have l2:=brs_len kn2
 have l3:=irs_len w1
 have l4:=irs_len w2
 by_cases h1:k1=k2
 case neg =>
  refine goD ?_
  exact AWP.ret (rets rfl (.refl _) (.refl _) ⟨(by simp [eqD,h1]; rfl),rfl⟩)
 have h1':¬ (k1≠k2):=fun h=>h h1
 by_cases h2:r1=r2
 case neg =>
  refine goD ?_
  exact AWP.ret (rets rfl (.refl _) (.refl _) ⟨(by simp [eqD,h2]; rfl),rfl⟩)
 have h2':¬ (r1≠r2):=fun h=>h h2
 by_cases h5:kn1.length=kn2.length
 case neg =>
  have h5':((brs kn1).length:Int)≠((brs kn2).length:Int):=by omega
  have h3:kn1≠kn2:=fun h=>h5 (by rw [h])
  refine goD ?_
  exact AWP.ret (rets rfl (.refl _) (.refl _) ⟨(by simp [eqD,h3]; rfl),rfl⟩)
 have h5':¬ (((brs kn1).length:Int)≠((brs kn2).length:Int)):=fun h=>h (by omega)
 by_cases h4:w1.length=w2.length
 case neg =>
  have h4':((irs w1).length:Int)≠((irs w2).length:Int):=by omega
  refine goD ?_
  exact AWP.ret (rets rfl (.refl _) (.refl _) ⟨(by simp [eqD,h4]; rfl),rfl⟩)
 have h4':¬ (((irs w1).length:Int)≠((irs w2).length:Int)):=fun h=>h (by omega)
 refine goD ?_
 refine AWP.loop (α:=Nat) (fun i=>[(5,.int .i64 (i:Int)),(3,.eptr 4 [[.int .i64 k2,.int .i64 r2,.view 1 (brs kn2) .shared,.view 1 (irs w2) .shared]] 0 0),(2,.eptr 4 [[.int .i64 k1,.int .i64 r1,.view 1 (brs kn1) .shared,.view 1 (irs w1) .shared]] 0 0)]) (fun _=>st)
  (fun i=>i≤kn1.length∧kn1.take i=kn2.take i) (fun i=>kn1.length - i) 0 ⟨Nat.zero_le _,rfl⟩ (tl3 rfl rfl rfl) (.refl _) ?_
 rintro i ⟨hi,he⟩
 refine AWP.weaken (T':=[(5,.int .i64 (i:Int)),(3,.eptr 4 [[.int .i64 k2,.int .i64 r2,.view 1 (brs kn2) .shared,.view 1 (irs w2) .shared]] 0 0),(2,.eptr 4 [[.int .i64 k1,.int .i64 r1,.view 1 (brs kn1) .shared,.view 1 (irs w1) .shared]] 0 0)]) (tl3 rfl rfl rfl) (.refl _) ?_
 by_cases hlt:i < kn1.length
 ·obtain ⟨x,hx⟩:∃ x,kn1[i]?=some x:=⟨_,List.getElem?_eq_getElem hlt⟩
  obtain ⟨y,hy⟩:∃ x,kn2[i]?=some x:=⟨_,List.getElem?_eq_getElem (by omega)⟩
  have hxr:=brs_at hx
  have hyr:=brs_at hy
  have hir:i < (brs kn1).length:=by omega
  have hir2:i < (brs kn2).length:=by omega
  by_cases hxy:x=y
  ·have hq:(!(x == y))=false:=by rw [hxy]; cases y <;> rfl
   refine goD ?_
   refine AWP.any rfl ?_
   apply AAny.segQ (k':=10) (hok:=by decide +kernel)
   repeat (first|apply dsY (hi:=rfl) (hs:=rfl)|apply dqY (hi:=rfl) (hd:=rfl) (hw:=rfl) (h:=fun _ _=>ZD (z:=nz))|apply dqY (hi:=rfl) (hd:=rfl) (hw:=rfl) (h:=fun _ _=>ZF (z:=nz))|apply dqY (hi:=rfl) (hd:=rfl) (hw:=rfl) (h:=fun _ _=>ZC (z:=nz))|apply dqY (hi:=rfl) (hd:=rfl) (hw:=rfl) (h:=fun _ _=>ZJ (z:=nz))|apply dqY (hi:=rfl) (hd:=rfl) (hw:=rfl) (h:=fun _ _=>ZK (z:=nz))|apply dqY (hi:=rfl) (hd:=rfl) (hw:=rfl) (h:=fun _ _=>ZM (z:=nz))|apply dqY (hi:=rfl) (hd:=rfl) (hw:=rfl) (h:=fun _ _=>ZN (z:=nz))|apply dqY (hi:=rfl) (hd:=rfl) (hw:=rfl) (h:=fun _ _=>ZH (z:=nz))|apply dqY (hi:=rfl) (hd:=rfl) (hw:=rfl) (h:=fun _ _=>ZQ (z:=nz))|apply dqY (hi:=rfl) (hd:=rfl) (hw:=rfl) (h:=fun _ _=>ZO (z:=nz))|apply dqY (hi:=rfl) (hd:=rfl) (hw:=rfl) (h:=fun _ _=>YC (z:=nz)))
   refine dnQ ?_
   refine AAny.text rfl ?_
   refine goD ?_
   exact ⟨i + 1,⟨by omega,by rw [List.take_add_one,List.take_add_one,he,hx,hy,hxy]⟩,by omega,(tl3 rfl rfl rfl),.refl _⟩
  ·have hne:kn1≠kn2:=fun h=>by subst h; rw [hx] at hy; cases hy; exact hxy rfl
   have hq:(!(x == y))=true:=by cases x <;> cases y <;> first|rfl|exact absurd rfl hxy
   refine goD ?_
   refine AWP.any rfl ?_
   apply AAny.segQ (k':=10) (hok:=by decide +kernel)
   repeat (first|apply dsY (hi:=rfl) (hs:=rfl)|apply dqY (hi:=rfl) (hd:=rfl) (hw:=rfl) (h:=fun _ _=>ZD (z:=nz))|apply dqY (hi:=rfl) (hd:=rfl) (hw:=rfl) (h:=fun _ _=>ZF (z:=nz))|apply dqY (hi:=rfl) (hd:=rfl) (hw:=rfl) (h:=fun _ _=>ZC (z:=nz))|apply dqY (hi:=rfl) (hd:=rfl) (hw:=rfl) (h:=fun _ _=>ZJ (z:=nz))|apply dqY (hi:=rfl) (hd:=rfl) (hw:=rfl) (h:=fun _ _=>ZK (z:=nz))|apply dqY (hi:=rfl) (hd:=rfl) (hw:=rfl) (h:=fun _ _=>ZM (z:=nz))|apply dqY (hi:=rfl) (hd:=rfl) (hw:=rfl) (h:=fun _ _=>ZN (z:=nz))|apply dqY (hi:=rfl) (hd:=rfl) (hw:=rfl) (h:=fun _ _=>ZH (z:=nz))|apply dqY (hi:=rfl) (hd:=rfl) (hw:=rfl) (h:=fun _ _=>ZQ (z:=nz))|apply dqY (hi:=rfl) (hd:=rfl) (hw:=rfl) (h:=fun _ _=>ZO (z:=nz))|apply dqY (hi:=rfl) (hd:=rfl) (hw:=rfl) (h:=fun _ _=>YC (z:=nz)))
   refine dnQ ?_
   refine AAny.text rfl ?_
   refine goD ?_
   exact AWP.ret (rets rfl (.refl _) (.refl _) ⟨(by simp [eqD,hne]; rfl),rfl⟩)
 have hil:i=kn1.length:=by omega
 have heq:kn1=kn2:=by
  subst hil
  rw [List.take_of_length_le (Nat.le_refl _),List.take_of_length_le (by omega)] at he
  exact he
 subst hil
 subst heq
 refine goD ?_
 refine AWP.exit (blk_hit ?_)
 refine goD ?_
 have E:eqD ⟨k1,r1,kn1,w1⟩ ⟨k2,r2,kn1,w2⟩=wag kn1 w1 w2:=by simp [eqD,h1,h2,h4]
 rw [E]
 refine AWP.loop (α:=Nat) (fun i=>[(6,.int .i64 (i:Int)),(3,.eptr 4 [[.int .i64 k2,.int .i64 r2,.view 1 (brs kn1) .shared,.view 1 (irs w2) .shared]] 0 0),(2,.eptr 4 [[.int .i64 k1,.int .i64 r1,.view 1 (brs kn1) .shared,.view 1 (irs w1) .shared]] 0 0)]) (fun _=>st)
  (fun i=>i≤w1.length∧wag kn1 w1 w2=wag (kn1.drop i) (w1.drop i) (w2.drop i)) (fun i=>w1.length - i) 0 ⟨Nat.zero_le _,rfl⟩ (tl3 rfl rfl rfl) (.refl _) ?_
 rintro i ⟨hi,he⟩
 refine AWP.weaken (T':=[(6,.int .i64 (i:Int)),(3,.eptr 4 [[.int .i64 k2,.int .i64 r2,.view 1 (brs kn1) .shared,.view 1 (irs w2) .shared]] 0 0),(2,.eptr 4 [[.int .i64 k1,.int .i64 r1,.view 1 (brs kn1) .shared,.view 1 (irs w1) .shared]] 0 0)]) (tl3 rfl rfl rfl) (.refl _) ?_
 by_cases hlt:i < w1.length
 ·obtain ⟨x,hx⟩:∃ x,w1[i]?=some x:=⟨_,List.getElem?_eq_getElem hlt⟩
  obtain ⟨y,hy⟩:∃ x,w2[i]?=some x:=⟨_,List.getElem?_eq_getElem (by omega)⟩
  have hxr:=irs_at hx
  have hyr:=irs_at hy
  have hir:i < (irs w1).length:=by omega
  have hir2:i < (irs w2).length:=by omega
  rw [wag_step hx hy] at he
  cases hk:kn1[i]? with
  | none =>
   have hge:(i:Int) ≥ ((brs kn1).length:Int):=by have:=List.getElem?_eq_none_iff.1 hk; omega
   rw [hk] at he
   by_cases hxy:x=y
   ·have hxy':¬ (x≠y):=fun h=>h hxy
    refine goD ?_
    refine AWP.draw rfl 25 25 (fun _ _=>False) rfl ?_
    refine goG ?_
    refine dn ⟨fun _=>?_,fun h=>absurd h (by decide)⟩
    refine goD ?_
    exact ⟨i + 1,⟨by omega,by rw [he,decide_eq_true hxy]; rfl⟩,by omega,(tl3 rfl rfl rfl),.refl _⟩
   ·refine goD ?_
    refine AWP.draw rfl 25 25 (fun _ _=>False) rfl ?_
    refine goG ?_
    refine dn ⟨fun _=>?_,fun h=>absurd h (by decide)⟩
    refine goD ?_
    exact AWP.ret (rets rfl (.refl _) (.refl _) ⟨by rw [he,decide_eq_false hxy]; rfl,rfl⟩)
  | some c =>
   have hlk:=(List.getElem?_eq_some_iff.1 hk).1
   have hge:¬ (i:Int) ≥ ((brs kn1).length:Int):=by omega
   have hkr:=brs_at hk
   have hir3:i < (brs kn1).length:=by omega
   rw [hk] at he
   cases c with
   | false =>
    refine goD ?_
    refine AWP.draw rfl 25 25 (fun _ _=>False) rfl ?_
    refine goG ?_
    refine dn ⟨fun _=>?_,fun h=>absurd h (by decide)⟩
    refine goD ?_
    exact ⟨i + 1,⟨by omega,by rw [he]; rfl⟩,by omega,(tl3 rfl rfl rfl),.refl _⟩
   | true =>
    by_cases hxy:x=y
    ·have hxy':¬ (x≠y):=fun h=>h hxy
     refine goD ?_
     refine AWP.draw rfl 25 25 (fun _ _=>False) rfl ?_
     refine goG ?_
     refine dn ⟨fun _=>?_,fun h=>absurd h (by decide)⟩
     refine goD ?_
     exact ⟨i + 1,⟨by omega,by rw [he,decide_eq_true hxy]; rfl⟩,by omega,(tl3 rfl rfl rfl),.refl _⟩
    ·refine goD ?_
     refine AWP.draw rfl 25 25 (fun _ _=>False) rfl ?_
     refine goG ?_
     refine dn ⟨fun _=>?_,fun h=>absurd h (by decide)⟩
     refine goD ?_
     exact AWP.ret (rets rfl (.refl _) (.refl _) ⟨by rw [he,decide_eq_false hxy]; rfl,rfl⟩)
 ·have hil:i=w1.length:=by omega
  subst hil
  refine goD ?_
  refine AWP.exit (blk_hit ?_)
  refine goD ?_
  exact AWP.ret (rets rfl (.refl _) (.refl _) ⟨by rw [he,wag_end]; rfl,rfl⟩)
end Go.Proofs
namespace Go.Proofs
open Go.AM

def wtx:List Bool→List Int→Names
 | k::ks,w::ws=>(if k=true then Lib.itoa w else [63])::wtx ks ws
 | _,_=>[]
def lab:Names→Names→Names
 | f::fs,w::ws=>(f++[58,32]++w)::lab fs ws
 | _,_=>[]
abbrev Rc:=List UInt8 × Names
def fieldsAt (recs:List Rc) (r:Int):Option Names:=if 0≤r then (recs[r.toNat]?).map (·.2) else none
def txt (recs:List Rc) (d:Dt):List UInt8 :=
 if d.known.length≠d.words.length then [63]
 else if d.kind=1 then (if d.words.length=1 then jnT (wtx d.known d.words) else [63])
 else if d.kind=3 then (if 1≤d.words.length∧d.words.length≤8 then [91]++jnT (wtx d.known d.words)++[93] else [63])
 else if d.kind=2 then (match fieldsAt recs d.rc with
  | some fs=>if fs.length=d.words.length then [123]++jnT (lab fs (wtx d.known d.words))++[125] else [63]
  | none=>[63])
 else [63]
theorem wtx_len:∀ {k:List Bool} {w:List Int},k.length=w.length→(wtx k w).length=w.length
 | [],[],_=>rfl
 | _::ks,_::ws,h=>by rw [wtx,List.length_cons,List.length_cons,wtx_len (by simpa using h)]
 | [],_::_,h=>by simp at h
 | _::_,[],h=>by simp at h
theorem wtx_at:∀ {k:List Bool} {w:List Int} {i:Nat} {c:Bool} {x:Int},k[i]?=some c→w[i]?=some x→(wtx k w)[i]?=some (if c=true then Lib.itoa x else [63])
 | [],_,_,_,_,h,_=>by simp at h
 | _::_,[],_,_,_,_,h=>by simp at h
 | _::ks,_::ws,0,_,_,h1,h2=>by cases h1; cases h2; rfl
 | _::ks,_::ws,i + 1,_,_,h1,h2=>by
  rw [wtx,List.getElem?_cons_succ]
  exact wtx_at (by simpa using h1) (by simpa using h2)
theorem lab_len:∀ {f w:Names},f.length=w.length→(lab f w).length=w.length
 | [],[],_=>rfl
 | _::ks,_::ws,h=>by rw [lab,List.length_cons,List.length_cons,lab_len (by simpa using h)]
 | [],_::_,h=>by simp at h
 | _::_,[],h=>by simp at h
theorem lab_at:∀ {k w:Names} {i:Nat} {c x:List UInt8},k[i]?=some c→w[i]?=some x→(lab k w)[i]?=some (c++[58,32]++x)
 | [],_,_,_,_,h,_=>by simp at h
 | _::_,[],_,_,_,_,h=>by simp at h
 | _::ks,_::ws,0,_,_,h1,h2=>by cases h1; cases h2; rfl
 | _::ks,_::ws,i + 1,_,_,h1,h2=>by
  rw [lab,List.getElem?_cons_succ]
  exact lab_at (by simpa using h1) (by simpa using h2)
def mixL (a b:Names) (i:Nat):Names:=a.take i++b.drop i
theorem mixL_len {a b:Names} (h:a.length=b.length) (i:Nat):(mixL a b i).length=b.length:=by
 unfold mixL
 rw [List.length_append,List.length_take,List.length_drop]
 omega
theorem mixL_zero (a b:Names):mixL a b 0=b:=rfl
theorem mixL_all {a b:Names} (h:a.length=b.length):mixL a b b.length=a:=by
 unfold mixL
 rw [List.drop_length,List.append_nil,List.take_of_length_le (by omega)]
theorem mixL_at {a b:Names} (h:a.length=b.length) (i:Nat):(mixL a b i)[i]?=b[i]?:=by
 unfold mixL
 rcases Nat.lt_or_ge i b.length with h1|h1
 ·rw [List.getElem?_append_right (by rw [List.length_take]; omega),List.length_take,List.getElem?_drop]
  congr 1
  omega
 ·rw [List.getElem?_eq_none (by rw [List.length_append,List.length_take,List.length_drop]; omega),List.getElem?_eq_none h1]
theorem mixL_set {a b:Names} (h:a.length=b.length) {i:Nat} {x:List UInt8} (hx:a[i]?=some x):(mixL a b i).set i x=mixL a b (i + 1):=by
 have hi:=(List.getElem?_eq_some_iff.1 hx).1
 apply List.ext_getElem?
 intro j
 rw [List.getElem?_set,mixL_len h]
 unfold mixL
 by_cases hj:i=j
 ·subst hj
  rw [if_pos rfl,if_pos (by omega),List.getElem?_append_left (by rw [List.length_take]; omega),List.getElem?_take_of_lt (by omega),hx]
 ·rw [if_neg hj]
  rcases Nat.lt_or_ge j i with h1|h1
  ·rw [List.getElem?_append_left (by rw [List.length_take]; omega),List.getElem?_append_left (by rw [List.length_take]; omega),List.getElem?_take_of_lt h1,List.getElem?_take_of_lt (by omega)]
  ·rw [List.getElem?_append_right (by rw [List.length_take]; omega),List.getElem?_append_right (by rw [List.length_take]; omega),List.length_take,List.length_take,List.getElem?_drop,List.getElem?_drop]
   congr 1
   omega
theorem nrow_set (l:Names) (i:Nat) (x:List UInt8):(nrow l).set i [.str x]=nrow (l.set i x):=by unfold nrow; rw [List.map_set]
theorem nrow_at {l:Names} {i:Nat} {x:List UInt8} (h:l[i]?=some x):(nrow l)[i]?=some [.str x]:=by unfold nrow; rw [List.getElem?_map,h]; rfl
theorem jnT_len {M:Nat}:∀ {l:Names},(∀ x ∈ l,x.length≤M)→(jnT l).length≤l.length * (M + 2)
 | [],_=>Nat.zero_le _
 | [a],h=>by
  have:=h a (List.mem_cons_self ..)
  rw [jnT]
  simp
  omega
 | a::b::r,h=>by
  have h1:=h a (List.mem_cons_self ..)
  have h2:=jnT_len (l:=b::r) fun x hx=>h x (List.mem_cons_of_mem _ hx)
  have e:(a::b::r).length * (M + 2)=(b::r).length * (M + 2) + (M + 2):=by rw [List.length_cons (a:=a),Nat.add_mul,Nat.one_mul]
  rw [e,jnT,List.length_append,List.length_append]
  have h3:([44,32]:List UInt8).length=2:=rfl
  omega
theorem jnT_snoc:∀ {l:Names} {a:List UInt8},l≠[]→jnT (l++[a])=jnT l++[44,32]++a
 | [],_,h=>absurd rfl h
 | [x],a,_=>rfl
 | x::y::r,a,_=>by
  rw [List.cons_append,List.cons_append,jnT,jnT,← List.cons_append,jnT_snoc (by simp)]
  simp
theorem wtx_bound {k:List Bool} {w:List Int} (hw:∀ x ∈ w,w64 x):∀ x ∈ wtx k w,x.length≤20:=by
 induction k generalizing w with
 | nil=>intro x hx; rw [wtx] at hx; cases hx; intros; contradiction
 | cons c k ih =>
  cases w with
  | nil=>intro x hx; cases hx
  | cons y w =>
   intro x hx
   rw [wtx] at hx
   rcases List.mem_cons.1 hx with rfl|hx
   ·cases c
    ·exact (by decide:([63]:List UInt8).length≤20)
    ·exact itoa_len (hw y (List.mem_cons_self ..))
   ·exact ih (fun z hz=>hw z (List.mem_cons_of_mem _ hz)) x hx
theorem lab_bound {M:Nat} {f w:Names} (hf:∀ x ∈ f,x.length≤M) (hw:∀ x ∈ w,x.length≤20):∀ x ∈ lab f w,x.length≤M + 22:=by
 induction f generalizing w with
 | nil=>intro x hx; rw [lab] at hx; cases hx; intros; contradiction
 | cons c k ih =>
  cases w with
  | nil=>intro x hx; cases hx
  | cons y w =>
   intro x hx
   rw [lab] at hx
   rcases List.mem_cons.1 hx with rfl|hx
   ·have h1:=hf c (List.mem_cons_self ..)
    have h2:=hw y (List.mem_cons_self ..)
    simp
    omega
   ·exact ih (fun z hz=>hf z (List.mem_cons_of_mem _ hz)) (fun z hz=>hw z (List.mem_cons_of_mem _ hz)) x hx
end Go.Proofs
namespace Go.Proofs
open Go.AM
attribute [local irreducible] AWP AOps ACalls AAny
set_option linter.unusedSimpArgs false

def rrow (r:Rc):List AV:=[.str r.1,.view 1 (nrow r.2) .shared]
def rrs (l:List Rc):List (List AV):=l.map rrow
theorem rrs_len (l:List Rc):(rrs l).length=l.length:=List.length_map ..
theorem rrs_at {l:List Rc} {i:Nat} {r:Rc} (h:l[i]?=some r):(rrs l)[i]?=some (rrow r):=by unfold rrs; rw [List.getElem?_map,h]; rfl
theorem nrow_at0 {l:Names} {i:Nat} {x:List UInt8} (h:l[i]?=some x):(nrow l)[0 + i]?=some [.str x]:=by rw [Nat.zero_add]; exact nrow_at h
theorem nrow_rep (n:Nat):List.replicate n [AV.str []]=nrow (List.replicate n []):=by unfold nrow; rw [List.map_replicate]

set_option maxHeartbeats 8000000 in
theorem text_ok (d0 d1 d3 d4:AV) (recs:List Rc) (d:Dt) (hb:∀ r ∈ recs,∀ f ∈ r.2,f.length≤67108864) (hw:∀ x ∈ d.words,w64 x) (hwl:d.words.length≤100000) (st:St)
  (hT:(0,powRow) ∈ st.glob) :
  ACalls Tryz.prog 10 [.agg [d0,d1,.view 2 (rrs recs) .shared,d3,d4],dV d] st (fun v st'=>v=.str (txt recs d)∧st'=st) (fun _ _=>False):=by
 refine ACalls.ofBody Tryz.func10 rfl Tryz.ntmps10 rfl ?_
 obtain ⟨k,r,kn,w⟩:=d
 simp only at hw hwl
 unfold dV
 simp only
 have l1:=brs_len kn
 have l2:=irs_len w
 have lr:=rrs_len recs
 by_cases hl:kn.length=w.length
 case neg =>
  have hl':((brs kn).length:Int)≠((irs w).length:Int):=by omega
  refine goD ?_
  exact AWP.ret (rets rfl (.refl _) (.refl _) ⟨(by simp [txt,hl]; rfl),rfl⟩)
 have hl':¬ (((brs kn).length:Int)≠((irs w).length:Int)):=fun h=>h (by omega)
 have hfl:=wtx_len hl
 have hrl:(wtx kn w).length=(List.replicate w.length ([]:List UInt8)).length:=by rw [hfl,List.length_replicate]
 refine goD ?_
 refine mk rfl rfl rfl rfl (Nat.le_refl _) (by omega) (by omega) fun o ho=>?_
 refine goD ?_
 refine AWP.loop (α:=Nat) (fun i=>[(25,.int .i64 (i:Int)),(24,.int .i64 ((irs w).length:Int)),(23,.view 1 (irs w) .shared),(5,.msl o 1 0 (irs w).length),(3,.eptr 4 [[.int .i64 k,.int .i64 r,.view 1 (brs kn) .shared,.view 1 (irs w) .shared]] 0 0),(2,.eptr 5 [[d0,d1,.view 2 (rrs recs) .shared,d3,d4]] 0 0)])
  (fun i=>st.set o (.cells 9 1 (nrow (mixL (wtx kn w) (List.replicate w.length []) i)))) (fun i=>i≤w.length) (fun i=>w.length - i) 0 (Nat.zero_le _) (tl6 rfl rfl rfl rfl rfl rfl) (by
   rw [mixL_zero,← nrow_rep,← l2]
   exact .refl _) ?_
 intro i hi
 refine AWP.weaken (T':=[(25,.int .i64 (i:Int)),(24,.int .i64 ((irs w).length:Int)),(23,.view 1 (irs w) .shared),(5,.msl o 1 0 (irs w).length),(3,.eptr 4 [[.int .i64 k,.int .i64 r,.view 1 (brs kn) .shared,.view 1 (irs w) .shared]] 0 0),(2,.eptr 5 [[d0,d1,.view 2 (rrs recs) .shared,d3,d4]] 0 0)]) (tl6 rfl rfl rfl rfl rfl rfl) (.refl _) ?_
 by_cases hlt:i < w.length
 ·obtain ⟨x,hx⟩:∃ x,w[i]?=some x:=⟨_,List.getElem?_eq_getElem hlt⟩
  obtain ⟨c,hc⟩:∃ x,kn[i]?=some x:=⟨_,List.getElem?_eq_getElem (by omega)⟩
  have hxr:=irs_at hx
  have hcr:=brs_at hc
  have hir:i < (irs w).length:=by omega
  have hir2:i < (brs kn).length:=by omega
  have hwx:=hw x (List.mem_of_getElem? hx)
  have hat:=mixL_at hrl i
  have hsl:=mixL_len hrl i
  rw [List.getElem?_replicate,if_pos hlt] at hat
  have h63:=wtx_at hc hx
  have hr0:=nrow_at0 hat
  refine goD ?_
  refine so (rows':=(nrow (mixL (wtx kn w) (List.replicate w.length []) i)).set (0 + i) [.str [63]]) rfl rfl rfl (St.obj_set _ _ _) hr0 rfl rfl rfl rfl ?_
  rw [St.set_set,Nat.zero_add,nrow_set]
  have hset:∀ y,((mixL (wtx kn w) (List.replicate w.length []) i).set i y)[i]?=some y:=fun y=>by rw [List.getElem?_set,if_pos rfl,if_pos (by rw [hsl,List.length_replicate]; exact hlt)]
  cases c with
  | false =>
   have h63:(wtx kn w)[i]?=some [63]:=h63
   rw [mixL_set hrl h63]
   refine goD ?_
   exact ⟨i + 1,by omega,by omega,(tl6 rfl rfl rfl rfl rfl rfl),.refl _⟩
  | true =>
   have h63:(wtx kn w)[i]?=some (Lib.itoa x):=h63
   have hr1:=nrow_at0 (hset [63])
   refine goD ?_
   refine cle rfl rfl (itoa_ok x hwx _ hT) ?_
   refine goD ?_
   refine so (rows':=(nrow ((mixL (wtx kn w) (List.replicate w.length []) i).set i [63])).set (0 + i) [.str (Lib.itoa x)]) rfl rfl rfl (St.obj_set _ _ _) hr1 rfl rfl rfl rfl ?_
   rw [St.set_set,Nat.zero_add,nrow_set,List.set_set,mixL_set hrl h63]
   refine goD ?_
   exact ⟨i + 1,by omega,by omega,(tl6 rfl rfl rfl rfl rfl rfl),.refl _⟩
 have hil:i=w.length:=by omega
 subst hil
 have hall:mixL (wtx kn w) (List.replicate w.length []) w.length=wtx kn w:=by
  have:=mixL_all hrl
  rwa [List.length_replicate] at this
 rw [hall]
 refine goD ?_
 refine AWP.exit (blk_hit ?_)
 have hwb:=wtx_bound (k:=kn) hw
 have htk:∀ l:Names,l.length=w.length→List.take (irs w).length (List.drop 0 (nrow l))=nrow l:=fun l h=>by rw [List.drop_zero,List.take_of_length_le (by rw [nrow_len]; omega)]
 have hnw:=nrow_len (wtx kn w)
 by_cases h1:k=1
 ·by_cases hn:w.length=1
  ·obtain ⟨a,ha⟩:∃ a,wtx kn w=[a]:=List.length_eq_one_iff.1 (by omega)
   have hres:txt recs ⟨k,r,kn,w⟩=a:=by simp [txt,hl,h1,hn,ha,jnT]
   rw [hres,ha]
   have hz:(nrow [a])[0 + 0]?=some [.str a]:=rfl
   have hi0:0 < (irs w).length:=by omega
   refine goD ?_
   exact AWP.ret (rets rfl (.refl _) (StLe.new ho (.refl _)) ⟨rfl,rfl⟩)
  ·refine goD ?_
   exact AWP.ret (rets rfl (.refl _) (StLe.new ho (.refl _)) ⟨(by simp [txt,hl,h1,hn]; rfl),rfl⟩)
 by_cases h3:k=3
 ·by_cases hn:1≤w.length∧w.length≤8
  ·have hj:=jnT_len hwb
   have hJ:=join_ok (wtx kn w) (by omega) (by rw [hfl] at hj; omega)
   obtain ⟨n1,n8⟩:=hn
   have hres:txt recs ⟨k,r,kn,w⟩=[91]++jnT (wtx kn w)++[93]:=by simp [txt,hl,h3,n1,n8]
   rw [hres]
   refine goD ?_
   refine AOps.fzM 64 rfl (St.obj_set _ _ _) (by omega) ?_
   rw [htk _ hfl]
   refine cle rfl rfl (hJ _) ?_
   refine sad rfl rfl rfl (by show 1 + (jnT (wtx kn w)).length≤_; omega) ?_
   refine sad rfl rfl rfl (by show ([91]++jnT (wtx kn w)).length + 1≤_; rw [List.length_append]; show 1 + (jnT (wtx kn w)).length + 1≤_; omega) ?_
   refine goD ?_
   exact AWP.ret (rets rfl (.refl _) (StLe.ofNew ho) ⟨rfl,rfl⟩)
  ·have hres:txt recs ⟨k,r,kn,w⟩=[63]:=by simp [txt,hl,h3,hn]
   rw [hres]
   by_cases n1:1≤w.length
   ·have n8:¬ w.length≤8:=fun h=>hn ⟨n1,h⟩
    refine goD ?_
    exact AWP.ret (rets rfl (.refl _) (StLe.new ho (.refl _)) ⟨rfl,rfl⟩)
   ·refine goD ?_
    exact AWP.ret (rets rfl (.refl _) (StLe.new ho (.refl _)) ⟨rfl,rfl⟩)
 by_cases h2:k=2
 case neg =>
  have hres:txt recs ⟨k,r,kn,w⟩=[63]:=by simp [txt,hl,h1,h3,h2]
  rw [hres]
  refine goD ?_
  exact AWP.ret (rets rfl (.refl _) (StLe.new ho (.refl _)) ⟨rfl,rfl⟩)
 have base:txt recs ⟨k,r,kn,w⟩=(match fieldsAt recs r with
  | some fs=>if fs.length=w.length then [123]++jnT (lab fs (wtx kn w))++[125] else [63]
  | none=>[63]):=by
  simp only [txt]
  rw [if_neg (fun h=>h hl),if_neg h1,if_neg h3,if_pos h2] <;> rfl
 rw [base]
 by_cases hr0:0≤r
 case neg =>
  rw [fieldsAt,if_neg hr0]
  refine goD ?_
  refine AWP.exit (blk_hit ?_)
  refine goD ?_
  exact AWP.ret (rets rfl (.refl _) (StLe.new ho (.refl _)) ⟨rfl,rfl⟩)
 obtain ⟨m,rfl⟩:∃ m:Nat,r=(m:Int):=⟨r.toNat,by omega⟩
 rw [fieldsAt,if_pos hr0,Int.toNat_natCast]
 by_cases hm:m < recs.length
 case neg =>
  rw [List.getElem?_eq_none (by omega)]
  refine goD ?_
  refine AWP.exit (blk_hit ?_)
  refine goD ?_
  exact AWP.ret (rets rfl (.refl _) (StLe.new ho (.refl _)) ⟨rfl,rfl⟩)
 obtain ⟨rec,hrec⟩:∃ x,recs[m]?=some x:=⟨_,List.getElem?_eq_getElem hm⟩
 have hbf:=hb rec (List.mem_of_getElem? hrec)
 obtain ⟨nm,fs⟩:=rec
 have hbf:∀ f ∈ fs,f.length≤67108864:=hbf
 rw [hrec]
 simp only [Option.map_some]
 have hrr:(rrs recs)[m]?=some [.str nm,.view 1 (nrow fs) .shared]:=rrs_at hrec
 have hmr:m < (rrs recs).length:=by omega
 have hnf:=nrow_len fs
 by_cases hfs:fs.length=w.length
 case neg =>
  rw [if_neg hfs]
  have hne:((irs w).length:Int)≠((nrow fs).length:Int):=by omega
  refine goD ?_
  refine AWP.exit (blk_hit ?_)
  refine goD ?_
  exact AWP.ret (rets rfl (.refl _) (StLe.new ho (.refl _)) ⟨rfl,rfl⟩)
 rw [if_pos hfs]
 have hne:¬ ((irs w).length:Int)≠((nrow fs).length:Int):=fun h=>h (by omega)
 have hlb:=lab_len (f:=fs) (w:=wtx kn w) (by omega)
 have hll:(lab fs (wtx kn w)).length=(wtx kn w).length:=hlb
 have hlbb:=lab_bound (M:=67108864) hbf hwb
 have hj:=jnT_len hlbb
 have hJ:=join_ok (lab fs (wtx kn w)) (by omega) (by rw [hll,hfl] at hj; omega)
 refine goD ?_
 refine AWP.loop (α:=Nat) (fun i=>[(95,.int .i64 (i:Int)),(94,.int .i64 ((nrow fs).length:Int)),(93,.view 1 (nrow fs) .shared),(5,.msl o 1 0 (irs w).length)])
  (fun i=>st.set o (.cells 9 1 (nrow (mixL (lab fs (wtx kn w)) (wtx kn w) i)))) (fun i=>i≤w.length) (fun i=>w.length - i) 0 (Nat.zero_le _) (tl4 rfl rfl rfl rfl) (.refl _) ?_
 intro i hi
 refine AWP.weaken (T':=[(95,.int .i64 (i:Int)),(94,.int .i64 ((nrow fs).length:Int)),(93,.view 1 (nrow fs) .shared),(5,.msl o 1 0 (irs w).length)]) (tl4 rfl rfl rfl rfl) (.refl _) ?_
 by_cases hlt:i < w.length
 ·obtain ⟨f,hf⟩:∃ x,fs[i]?=some x:=⟨_,List.getElem?_eq_getElem (by omega)⟩
  obtain ⟨x,hx⟩:∃ x,(wtx kn w)[i]?=some x:=⟨_,List.getElem?_eq_getElem (by omega)⟩
  have hfr:=nrow_at hf
  have hat:=mixL_at hll i
  rw [hx] at hat
  have hr1:=nrow_at0 hat
  have hlabi:=lab_at hf hx
  have hif:i < (nrow fs).length:=by omega
  have hiw:i < (irs w).length:=by omega
  have b1:=hbf f (List.mem_of_getElem? hf)
  have b2:=hwb x (List.mem_of_getElem? hx)
  refine goD ?_
  refine sad rfl rfl rfl (by show f.length + 2≤_; omega) ?_
  refine goD ?_
  refine sad rfl rfl rfl (by show (f++[58,32]).length + x.length≤_; rw [List.length_append]; show f.length + 2 + x.length≤_; omega) ?_
  refine goD ?_
  refine so (rows':=(nrow (mixL (lab fs (wtx kn w)) (wtx kn w) i)).set (0 + i) [.str (f++[58,32]++x)]) rfl rfl rfl (St.obj_set _ _ _) hr1 rfl rfl rfl rfl ?_
  rw [St.set_set,Nat.zero_add,nrow_set,mixL_set hll hlabi]
  refine goD ?_
  exact ⟨i + 1,by omega,by omega,(tl4 rfl rfl rfl rfl),.refl _⟩
 have hil:i=w.length:=by omega
 subst hil
 have hall2:mixL (lab fs (wtx kn w)) (wtx kn w) w.length=lab fs (wtx kn w):=by
  have:=mixL_all hll
  rwa [hfl] at this
 rw [hall2]
 refine goD ?_
 refine AWP.exit (blk_hit ?_)
 refine goD ?_
 refine AOps.fzM 111 rfl (St.obj_set _ _ _) (by rw [nrow_len]; omega) ?_
 rw [htk _ (by omega)]
 refine cle rfl rfl (hJ _) ?_
 refine sad rfl rfl rfl (by show 1 + (jnT (lab fs (wtx kn w))).length≤_; omega) ?_
 refine sad rfl rfl rfl (by show ([123]++jnT (lab fs (wtx kn w))).length + 1≤_; rw [List.length_append]; show 1 + (jnT (lab fs (wtx kn w))).length + 1≤_; omega) ?_
 refine goD ?_
 exact AWP.ret (rets rfl (.refl _) (StLe.ofNew ho) ⟨rfl,rfl⟩)
end Go.Proofs
namespace Go.Proofs
open Go.AM
attribute [local irreducible] AWP AOps ACalls AAny
set_option linter.unusedSimpArgs false

theorem jn_first {l:Names} {x:List UInt8} (h:l[0]?=some x):jnT (l.take (0 + 1))=x:=by
 cases l with
 | nil=>cases h
 | cons a r=>cases h; rfl
theorem jn_next {l:Names} {i:Nat} {x:List UInt8} (hi:0 < i) (h:l[i]?=some x):jnT (l.take (i + 1))=jnT (l.take i)++[44,32]++x:=by
 rw [List.take_add_one,h]
 refine jnT_snoc ?_
 intro he
 have h1:=(List.getElem?_eq_some_iff.1 h).1
 have h2:=congrArg List.length he
 rw [List.length_take] at h2
 have h3:min i l.length=0:=h2
 omega
theorem jn_take_len {M:Nat} {l:Names} (h:∀ x ∈ l,x.length≤M) (i:Nat) (hi:i≤100000):(jnT (l.take i)).length≤100000 * (M + 2):=by
 refine Nat.le_trans (jnT_len fun x hx=>h x (List.mem_of_mem_take hx)) (Nat.mul_le_mul_right _ ?_)
 rw [List.length_take]
 omega

set_option maxHeartbeats 16000000 in
theorem rtext_ok (d0 d1 d3 d4:AV) (recs:List Rc) (d:Dt) (hb:∀ r ∈ recs,∀ f ∈ r.2,f.length≤67108864) (hw:∀ x ∈ d.words,w64 x) (hwl:d.words.length≤100000) (st:St) :
  ACalls Tryz.prog 11 [.agg [d0,d1,.view 2 (rrs recs) .shared,d3,d4],dV d] st (fun v st'=>v=.str (txt recs d)∧st'=st) (fun _ _=>False):=by
 refine ACalls.ofBody Tryz.func11 rfl Tryz.ntmps11 rfl ?_
 obtain ⟨k,r,kn,w⟩:=d
 simp only at hw hwl
 unfold dV
 simp only
 have l1:=brs_len kn
 have l2:=irs_len w
 have lr:=rrs_len recs
 have hwb:=wtx_bound (k:=kn) hw
 by_cases h1:k=1
 ·by_cases hn:w.length=1
  case neg =>
   have hres:txt recs ⟨k,r,kn,w⟩=[63]:=by simp [txt,h1,hn]
   rw [hres]
   have hq:((irs w).length:Int)≠1:=by omega
   refine goD ?_
   exact AWP.ret (rets rfl (.refl _) (.refl _) ⟨rfl,rfl⟩)
  have hq:¬ ((irs w).length:Int)≠1:=fun h=>h (by omega)
  by_cases hl:kn.length=w.length
  case neg =>
   have hres:txt recs ⟨k,r,kn,w⟩=[63]:=by simp [txt,h1,hl]
   rw [hres]
   have hq2:((brs kn).length:Int)≠1:=by omega
   refine goD ?_
   exact AWP.ret (rets rfl (.refl _) (.refl _) ⟨rfl,rfl⟩)
  have hq2:¬ ((brs kn).length:Int)≠1:=fun h=>h (by omega)
  have hfl:=wtx_len hl
  have hres:txt recs ⟨k,r,kn,w⟩=jnT (wtx kn w):=by simp [txt,h1,hl,hn]
  rw [hres]
  refine goD ?_
  have h1w:(1:Int)=(w.length:Int):=by omega
  refine AWP.weaken (T':=[(8,.int .i64 ((0:Nat):Int)),(7,.str []),(5,.int .i64 (w.length:Int)),(3,.eptr 4 [[.int .i64 k,.int .i64 r,.view 1 (brs kn) .shared,.view 1 (irs w) .shared]] 0 0)]) ?_ (.refl _) ?_
  ·rw [← h1w]; exact (tl4 rfl rfl rfl rfl)
  refine AWP.loop (α:=Nat) (fun i=>[(8,.int .i64 (i:Int)),(7,.str (jnT ((wtx kn w).take i))),(5,.int .i64 (w.length:Int)),(3,.eptr 4 [[.int .i64 k,.int .i64 r,.view 1 (brs kn) .shared,.view 1 (irs w) .shared]] 0 0)])
   (fun _=>st) (fun i=>i≤w.length) (fun i=>w.length - i) 0 (Nat.zero_le _) (tl4 rfl rfl rfl rfl) (.refl _) ?_
  intro i hi
  refine AWP.weaken (T':=[(8,.int .i64 (i:Int)),(7,.str (jnT ((wtx kn w).take i))),(5,.int .i64 (w.length:Int)),(3,.eptr 4 [[.int .i64 k,.int .i64 r,.view 1 (brs kn) .shared,.view 1 (irs w) .shared]] 0 0)]) (tl4 rfl rfl rfl rfl) (.refl _) ?_
  by_cases hlt:i < w.length
  ·obtain ⟨x,hx⟩:∃ x,w[i]?=some x:=⟨_,List.getElem?_eq_getElem hlt⟩
   obtain ⟨c,hc⟩:∃ x,kn[i]?=some x:=⟨_,List.getElem?_eq_getElem (by omega)⟩
   have hxr:=irs_at hx
   have hcr:=brs_at hc
   have hir:i < (irs w).length:=by omega
   have hir2:i < (brs kn).length:=by omega
   have hwx:=hw x (List.mem_of_getElem? hx)
   have hwt:=wtx_at hc hx
   have hit:=hwt
   have hjl:=jn_take_len (l:=(wtx kn w)) (M:=20) hwb i (by omega)
   have b2:=itoa_len hwx
   by_cases hp:0 < i
   case neg =>
    obtain rfl:i=0:=by omega
    have hz:jnT ((wtx kn w).take 0)=[]:=rfl
    rw [hz]
    cases c with
    | false =>
     have E:([]:List UInt8)++[63]=jnT ((wtx kn w).take (0 + 1)):=by
      rw [jn_first hit]
      simp
     refine goD ?_
     refine sad rfl rfl rfl (by first|(simp; done)|(simp; omega)) ?_
     rw [E]
     refine goD ?_
     exact ⟨0 + 1,by omega,by omega,(tl4 rfl rfl rfl rfl),.refl _⟩
    | true =>
     have E:([]:List UInt8)++Lib.itoa x=jnT ((wtx kn w).take (0 + 1)):=by
      rw [jn_first hit]
      simp
     refine goD ?_
     refine cle rfl rfl (dig_ok x hwx _) ?_
     refine goD ?_
     refine sad rfl rfl rfl (by first|(simp; done)|(simp; omega)) ?_
     rw [E]
     refine goD ?_
     exact ⟨0 + 1,by omega,by omega,(tl4 rfl rfl rfl rfl),.refl _⟩
   case pos =>
    exact absurd hp (by omega)
  have hil:i=w.length:=by omega
  subst hil
  have hall:(wtx kn w).take w.length=(wtx kn w):=List.take_of_length_le (by omega)
  have hjl:=jn_take_len (l:=(wtx kn w)) (M:=20) hwb w.length (by omega)
  rw [hall] at hjl ⊢
  refine goD ?_
  refine AWP.exit (blk_hit ?_)
  refine goD ?_
  exact AWP.ret (rets rfl (.refl _) (.refl _) ⟨rfl,rfl⟩)
 by_cases h3:k=3
 ·by_cases n1:1≤w.length
  case neg =>
   have hres:txt recs ⟨k,r,kn,w⟩=[63]:=by simp [txt,h3,n1]
   rw [hres]
   refine goD ?_
   exact AWP.ret (rets rfl (.refl _) (.refl _) ⟨rfl,rfl⟩)
  by_cases n8:w.length≤8
  case neg =>
   have hres:txt recs ⟨k,r,kn,w⟩=[63]:=by simp [txt,h3,n8]
   rw [hres]
   refine goD ?_
   exact AWP.ret (rets rfl (.refl _) (.refl _) ⟨rfl,rfl⟩)
  by_cases hl:kn.length=w.length
  case neg =>
   have hres:txt recs ⟨k,r,kn,w⟩=[63]:=by simp [txt,h3,hl]
   rw [hres]
   have hq2:((brs kn).length:Int)≠((irs w).length:Int):=by omega
   refine goD ?_
   exact AWP.ret (rets rfl (.refl _) (.refl _) ⟨rfl,rfl⟩)
  have hq2:¬ ((brs kn).length:Int)≠((irs w).length:Int):=fun h=>h (by omega)
  have hfl:=wtx_len hl
  have hres:txt recs ⟨k,r,kn,w⟩=[91]++jnT (wtx kn w)++[93]:=by simp [txt,h3,hl,n1,n8]
  rw [hres]
  refine goD ?_
  refine AWP.weaken (T':=[(8,.int .i64 ((0:Nat):Int)),(7,.str []),(5,.int .i64 (w.length:Int)),(3,.eptr 4 [[.int .i64 k,.int .i64 r,.view 1 (brs kn) .shared,.view 1 (irs w) .shared]] 0 0)]) ?_ (.refl _) ?_
  ·rw [← l2]; exact (tl4 rfl rfl rfl rfl)
  refine AWP.loop (α:=Nat) (fun i=>[(8,.int .i64 (i:Int)),(7,.str (jnT ((wtx kn w).take i))),(5,.int .i64 (w.length:Int)),(3,.eptr 4 [[.int .i64 k,.int .i64 r,.view 1 (brs kn) .shared,.view 1 (irs w) .shared]] 0 0)])
   (fun _=>st) (fun i=>i≤w.length) (fun i=>w.length - i) 0 (Nat.zero_le _) (tl4 rfl rfl rfl rfl) (.refl _) ?_
  intro i hi
  refine AWP.weaken (T':=[(8,.int .i64 (i:Int)),(7,.str (jnT ((wtx kn w).take i))),(5,.int .i64 (w.length:Int)),(3,.eptr 4 [[.int .i64 k,.int .i64 r,.view 1 (brs kn) .shared,.view 1 (irs w) .shared]] 0 0)]) (tl4 rfl rfl rfl rfl) (.refl _) ?_
  by_cases hlt:i < w.length
  ·obtain ⟨x,hx⟩:∃ x,w[i]?=some x:=⟨_,List.getElem?_eq_getElem hlt⟩
   obtain ⟨c,hc⟩:∃ x,kn[i]?=some x:=⟨_,List.getElem?_eq_getElem (by omega)⟩
   have hxr:=irs_at hx
   have hcr:=brs_at hc
   have hir:i < (irs w).length:=by omega
   have hir2:i < (brs kn).length:=by omega
   have hwx:=hw x (List.mem_of_getElem? hx)
   have hwt:=wtx_at hc hx
   have hit:=hwt
   have hjl:=jn_take_len (l:=(wtx kn w)) (M:=20) hwb i (by omega)
   have b2:=itoa_len hwx
   by_cases hp:0 < i
   case neg =>
    obtain rfl:i=0:=by omega
    have hz:jnT ((wtx kn w).take 0)=[]:=rfl
    rw [hz]
    cases c with
    | false =>
     have E:([]:List UInt8)++[63]=jnT ((wtx kn w).take (0 + 1)):=by
      rw [jn_first hit]
      simp
     refine goD ?_
     refine sad rfl rfl rfl (by first|(simp; done)|(simp; omega)) ?_
     rw [E]
     refine goD ?_
     exact ⟨0 + 1,by omega,by omega,(tl4 rfl rfl rfl rfl),.refl _⟩
    | true =>
     have E:([]:List UInt8)++Lib.itoa x=jnT ((wtx kn w).take (0 + 1)):=by
      rw [jn_first hit]
      simp
     refine goD ?_
     refine cle rfl rfl (dig_ok x hwx _) ?_
     refine goD ?_
     refine sad rfl rfl rfl (by first|(simp; done)|(simp; omega)) ?_
     rw [E]
     refine goD ?_
     exact ⟨0 + 1,by omega,by omega,(tl4 rfl rfl rfl rfl),.refl _⟩
   case pos =>
    cases c with
    | false =>
     have E:(jnT ((wtx kn w).take i)++[44,32])++[63]=jnT ((wtx kn w).take (i + 1)):=by
      rw [jn_next hp hit]
      simp
     refine goD ?_
     refine sad rfl rfl rfl (by show (jnT ((wtx kn w).take i)).length + 2≤_; omega) ?_
     refine goD ?_
     refine sad rfl rfl rfl (by first|(simp; done)|(simp; omega)) ?_
     rw [E]
     refine goD ?_
     exact ⟨i + 1,by omega,by omega,(tl4 rfl rfl rfl rfl),.refl _⟩
    | true =>
     have E:(jnT ((wtx kn w).take i)++[44,32])++Lib.itoa x=jnT ((wtx kn w).take (i + 1)):=by
      rw [jn_next hp hit]
      simp
     refine goD ?_
     refine sad rfl rfl rfl (by show (jnT ((wtx kn w).take i)).length + 2≤_; omega) ?_
     refine goD ?_
     refine cle rfl rfl (dig_ok x hwx _) ?_
     refine goD ?_
     refine sad rfl rfl rfl (by first|(simp; done)|(simp; omega)) ?_
     rw [E]
     refine goD ?_
     exact ⟨i + 1,by omega,by omega,(tl4 rfl rfl rfl rfl),.refl _⟩
  have hil:i=w.length:=by omega
  subst hil
  have hall:(wtx kn w).take w.length=(wtx kn w):=List.take_of_length_le (by omega)
  have hjl:=jn_take_len (l:=(wtx kn w)) (M:=20) hwb w.length (by omega)
  rw [hall] at hjl ⊢
  refine goD ?_
  refine AWP.exit (blk_hit ?_)
  refine goD ?_
  refine sad rfl rfl rfl (by show 1 + (jnT (wtx kn w)).length≤_; omega) ?_
  refine sad rfl rfl rfl (by show ([91]++jnT (wtx kn w)).length + 1≤_; rw [List.length_append]; show 1 + (jnT (wtx kn w)).length + 1≤_; omega) ?_
  refine goD ?_
  exact AWP.ret (rets rfl (.refl _) (.refl _) ⟨rfl,rfl⟩)
 by_cases h2:k=2
 case neg =>
  have hres:txt recs ⟨k,r,kn,w⟩=[63]:=by simp [txt,h1,h3,h2]
  rw [hres]
  refine goD ?_
  exact AWP.ret (rets rfl (.refl _) (.refl _) ⟨rfl,rfl⟩)
 have base:txt recs ⟨k,r,kn,w⟩=(if kn.length≠w.length then [63] else match fieldsAt recs r with
  | some fs=>if fs.length=w.length then [123]++jnT (lab fs (wtx kn w))++[125] else [63]
  | none=>[63]):=by
  simp only [txt]
  rw [if_neg h1,if_neg h3,if_pos h2] <;> rfl
 by_cases hr0:0≤r
 case neg =>
  have hres:txt recs ⟨k,r,kn,w⟩=[63]:=by rw [base,fieldsAt,if_neg hr0]; simp
  rw [hres]
  refine goD ?_
  exact AWP.ret (rets rfl (.refl _) (.refl _) ⟨rfl,rfl⟩)
 obtain ⟨m,rfl⟩:∃ m:Nat,r=(m:Int):=⟨r.toNat,by omega⟩
 by_cases hm:m < recs.length
 case neg =>
  have hres:txt recs ⟨k,(m:Int),kn,w⟩=[63]:=by rw [base,fieldsAt,if_pos hr0,Int.toNat_natCast,List.getElem?_eq_none (by omega)]; simp
  rw [hres]
  refine goD ?_
  exact AWP.ret (rets rfl (.refl _) (.refl _) ⟨rfl,rfl⟩)
 obtain ⟨rec,hrec⟩:∃ x,recs[m]?=some x:=⟨_,List.getElem?_eq_getElem hm⟩
 have hbf:=hb rec (List.mem_of_getElem? hrec)
 obtain ⟨nm,fs⟩:=rec
 have hbf:∀ f ∈ fs,f.length≤67108864:=hbf
 rw [fieldsAt,if_pos hr0,Int.toNat_natCast,hrec] at base
 simp only [Option.map_some] at base
 have hrr:(rrs recs)[m]?=some [.str nm,.view 1 (nrow fs) .shared]:=rrs_at hrec
 have hmr:m < (rrs recs).length:=by omega
 have hnf:=nrow_len fs
 by_cases hfs:fs.length=w.length
 case neg =>
  have hres:txt recs ⟨k,(m:Int),kn,w⟩=[63]:=by rw [base,if_neg hfs]; simp
  rw [hres]
  have hne:((irs w).length:Int)≠((nrow fs).length:Int):=by omega
  refine goD ?_
  exact AWP.ret (rets rfl (.refl _) (.refl _) ⟨rfl,rfl⟩)
 have hne:¬ ((irs w).length:Int)≠((nrow fs).length:Int):=fun h=>h (by omega)
 by_cases hl:kn.length=w.length
 case neg =>
  have hres:txt recs ⟨k,(m:Int),kn,w⟩=[63]:=by rw [base,if_pos hl]
  rw [hres]
  have hq2:((brs kn).length:Int)≠((nrow fs).length:Int):=by omega
  refine goD ?_
  exact AWP.ret (rets rfl (.refl _) (.refl _) ⟨rfl,rfl⟩)
 have hq2:¬ ((brs kn).length:Int)≠((nrow fs).length:Int):=fun h=>h (by omega)
 have hfl:=wtx_len hl
 have hlb:=lab_len (f:=fs) (w:=wtx kn w) (by omega)
 have hlbb:=lab_bound (M:=67108864) hbf hwb
 have hres:txt recs ⟨k,(m:Int),kn,w⟩=[123]++jnT (lab fs (wtx kn w))++[125]:=by rw [base,if_neg (fun h=>h hl),if_pos hfs]
 rw [hres]
 refine goD ?_
 have hnw:((nrow fs).length:Int)=(w.length:Int):=by omega
 refine AWP.weaken (T':=[(8,.int .i64 ((0:Nat):Int)),(7,.str []),(6,.view 1 (nrow fs) .shared),(5,.int .i64 (w.length:Int)),(3,.eptr 4 [[.int .i64 k,.int .i64 (m:Int),.view 1 (brs kn) .shared,.view 1 (irs w) .shared]] 0 0)]) ?_ (.refl _) ?_
 ·rw [← hnw]; exact (tl5 rfl rfl rfl rfl rfl)
 refine AWP.loop (α:=Nat) (fun i=>[(8,.int .i64 (i:Int)),(7,.str (jnT ((lab fs (wtx kn w)).take i))),(6,.view 1 (nrow fs) .shared),(5,.int .i64 (w.length:Int)),(3,.eptr 4 [[.int .i64 k,.int .i64 (m:Int),.view 1 (brs kn) .shared,.view 1 (irs w) .shared]] 0 0)])
  (fun _=>st) (fun i=>i≤w.length) (fun i=>w.length - i) 0 (Nat.zero_le _) (tl5 rfl rfl rfl rfl rfl) (.refl _) ?_
 intro i hi
 refine AWP.weaken (T':=[(8,.int .i64 (i:Int)),(7,.str (jnT ((lab fs (wtx kn w)).take i))),(6,.view 1 (nrow fs) .shared),(5,.int .i64 (w.length:Int)),(3,.eptr 4 [[.int .i64 k,.int .i64 (m:Int),.view 1 (brs kn) .shared,.view 1 (irs w) .shared]] 0 0)]) (tl5 rfl rfl rfl rfl rfl) (.refl _) ?_
 by_cases hlt:i < w.length
 ·obtain ⟨x,hx⟩:∃ x,w[i]?=some x:=⟨_,List.getElem?_eq_getElem hlt⟩
  obtain ⟨c,hc⟩:∃ x,kn[i]?=some x:=⟨_,List.getElem?_eq_getElem (by omega)⟩
  have hxr:=irs_at hx
  have hcr:=brs_at hc
  have hir:i < (irs w).length:=by omega
  have hir2:i < (brs kn).length:=by omega
  have hwx:=hw x (List.mem_of_getElem? hx)
  have hwt:=wtx_at hc hx
  obtain ⟨f,hf⟩:∃ x,fs[i]?=some x:=⟨_,List.getElem?_eq_getElem (by omega)⟩
  have hfr:=nrow_at hf
  have hif:i < (nrow fs).length:=by omega
  have hit:=lab_at hf hwt
  have b1:=hbf f (List.mem_of_getElem? hf)
  have hjl:=jn_take_len (l:=(lab fs (wtx kn w))) (M:=67108886) hlbb i (by omega)
  have b2:=itoa_len hwx
  by_cases hp:0 < i
  case neg =>
   obtain rfl:i=0:=by omega
   have hz:jnT ((lab fs (wtx kn w)).take 0)=[]:=rfl
   rw [hz]
   cases c with
   | false =>
    have E:([]:List UInt8)++f++[58,32]++[63]=jnT ((lab fs (wtx kn w)).take (0 + 1)):=by
     rw [jn_first hit]
     simp
    refine goD ?_
    refine sad rfl rfl rfl (by first|(simp; done)|(simp; omega)) ?_
    refine goD ?_
    refine sad rfl rfl rfl (by first|(simp; done)|(simp; omega)) ?_
    refine goD ?_
    refine sad rfl rfl rfl (by first|(simp; done)|(simp; omega)) ?_
    rw [E]
    refine goD ?_
    exact ⟨0 + 1,by omega,by omega,(tl5 rfl rfl rfl rfl rfl),.refl _⟩
   | true =>
    have E:([]:List UInt8)++f++[58,32]++Lib.itoa x=jnT ((lab fs (wtx kn w)).take (0 + 1)):=by
     rw [jn_first hit]
     simp
    refine goD ?_
    refine sad rfl rfl rfl (by first|(simp; done)|(simp; omega)) ?_
    refine goD ?_
    refine sad rfl rfl rfl (by first|(simp; done)|(simp; omega)) ?_
    refine goD ?_
    refine cle rfl rfl (dig_ok x hwx _) ?_
    refine goD ?_
    refine sad rfl rfl rfl (by first|(simp; done)|(simp; omega)) ?_
    rw [E]
    refine goD ?_
    exact ⟨0 + 1,by omega,by omega,(tl5 rfl rfl rfl rfl rfl),.refl _⟩
  case pos =>
   cases c with
   | false =>
    have E:(jnT ((lab fs (wtx kn w)).take i)++[44,32])++f++[58,32]++[63]=jnT ((lab fs (wtx kn w)).take (i + 1)):=by
     rw [jn_next hp hit]
     simp
    refine goD ?_
    refine sad rfl rfl rfl (by show (jnT ((lab fs (wtx kn w)).take i)).length + 2≤_; omega) ?_
    refine goD ?_
    refine sad rfl rfl rfl (by first|(simp; done)|(simp; omega)) ?_
    refine goD ?_
    refine sad rfl rfl rfl (by first|(simp; done)|(simp; omega)) ?_
    refine goD ?_
    refine sad rfl rfl rfl (by first|(simp; done)|(simp; omega)) ?_
    rw [E]
    refine goD ?_
    exact ⟨i + 1,by omega,by omega,(tl5 rfl rfl rfl rfl rfl),.refl _⟩
   | true =>
    have E:(jnT ((lab fs (wtx kn w)).take i)++[44,32])++f++[58,32]++Lib.itoa x=jnT ((lab fs (wtx kn w)).take (i + 1)):=by
     rw [jn_next hp hit]
     simp
    refine goD ?_
    refine sad rfl rfl rfl (by show (jnT ((lab fs (wtx kn w)).take i)).length + 2≤_; omega) ?_
    refine goD ?_
    refine sad rfl rfl rfl (by first|(simp; done)|(simp; omega)) ?_
    refine goD ?_
    refine sad rfl rfl rfl (by first|(simp; done)|(simp; omega)) ?_
    refine goD ?_
    refine cle rfl rfl (dig_ok x hwx _) ?_
    refine goD ?_
    refine sad rfl rfl rfl (by first|(simp; done)|(simp; omega)) ?_
    rw [E]
    refine goD ?_
    exact ⟨i + 1,by omega,by omega,(tl5 rfl rfl rfl rfl rfl),.refl _⟩
 have hil:i=w.length:=by omega
 subst hil
 have hall:(lab fs (wtx kn w)).take w.length=(lab fs (wtx kn w)):=List.take_of_length_le (by omega)
 have hjl:=jn_take_len (l:=(lab fs (wtx kn w))) (M:=67108886) hlbb w.length (by omega)
 rw [hall] at hjl ⊢
 refine goD ?_
 refine AWP.exit (blk_hit ?_)
 refine goD ?_
 refine sad rfl rfl rfl (by show 1 + (jnT (lab fs (wtx kn w))).length≤_; omega) ?_
 refine sad rfl rfl rfl (by show ([123]++jnT (lab fs (wtx kn w))).length + 1≤_; rw [List.length_append]; show 1 + (jnT (lab fs (wtx kn w))).length + 1≤_; omega) ?_
 refine goD ?_
 exact AWP.ret (rets rfl (.refl _) (.refl _) ⟨rfl,rfl⟩)
end Go.Proofs
namespace Go.AM
open Go.RowKit (Below shut_bool)
open Go.ChangeShapes Go.WideShapes Go.ChangeAt

def HasTyM (M:Nat) (P:Program):Nat→TypeId→List AV→Prop
 | 0,_,_=>False
 | n + 1,t,cs=>match P.underlying t with
  | some .bool=>∃ b,cs=[.bool b]
  | some (.int k)=>∃ x,cs=[.int k x]∧(Lit.int k x).wf=true
  | some .string=>∃ l:List UInt8,cs=[.str l]∧l.length≤M
  | some (.slice e)=>∃ rows:List (List AV),cs=[.view (P.cellsOf e) rows .shared]∧rows.length * P.bytesOf e≤M∧∀ row ∈ rows,HasTyM M P n e row
  | some (.struct fs)=>cs.length=P.cellsOf t∧∀ f ∈ fs.toList,HasTyM M P n f.type ((cs.drop f.offset).take (P.cellsOf f.type))
  | some (.array m e)=>cs.length=P.cellsOf t∧∀ i,i < m→HasTyM M P n e ((cs.drop (i * P.cellsOf e)).take (P.cellsOf e))
  | _=>False
section
variable {H:Type} {enc:TypeId × Value→H} {P:Program}
theorem trod_RM {M:Nat} {S:List TypeId} (hS:∀ t ∈ S,kindOk P S t=true) {w:World} {sp:Nat→Bool} (hsp:∀ b,sp b=true):∀ (fuel:Nat) (t:TypeId) (cs:List Value) (d:DataW H) (ps:List MemPlace),t ∈ S →
  DataW.trod enc P w 0 sp true fuel t cs=some (d,ps)→(d.weights P t).all (·≤M)=true→∃ avs,HasTyM M P fuel t avs∧RL (G0 w) w avs cs
 | 0,t,cs,d,ps,_,h,_=>by cases h
 | fuel + 1,t,cs,d,ps,ht,h,hw=>by
  have hk:=hS t ht
  have ih:=fun t cs d ps=>trod_RM (M:=M) hS (w:=w) hsp fuel t cs d ps
  have h0:=h
  unfold DataW.trod at h
  unfold HasTyM
  unfold kindOk at hk
  cases hu:P.underlying t with
  | none=>rw [hu] at hk; cases hk
  | some td =>
   rw [hu] at h hk
   cases td <;> simp only [Bool.false_eq_true] at hk
   case bool =>
    split at h <;> first|(cases h; done)|skip
    all_goals (try (rename_i heq _; cases heq; done))
    all_goals (try (rename_i heq; cases heq; done))
    rename_i b heq
    exact ⟨[.bool b],⟨b,rfl⟩,.single rfl (.bool b)⟩
   case int k =>
    split at h <;> first|(cases h; done)|skip
    all_goals (try (rename_i heq _; cases heq; done))
    all_goals (try (rename_i heq; cases heq; done))
    rename_i k1 k' x heq
    cases heq
    split at h
    ·rename_i hc
     obtain ⟨rfl,hwf⟩:=hc
     exact ⟨[.int k' x],⟨x,rfl,hwf⟩,.single rfl (.int k' x)⟩
    ·cases h
   case string =>
    split at h <;> first|(cases h; done)|skip
    all_goals (try (rename_i heq _; cases heq; done))
    all_goals (try (rename_i heq; cases heq; done))
    rename_i s heq
    split at h
    ·rename_i hc
     obtain ⟨⟨l⟩⟩:=s
     cases h
     simp only [DataW.weights,List.all_cons,List.all_nil,Bool.and_true,decide_eq_true_eq] at hw
     exact ⟨[.str l],⟨l,rfl,hw⟩,.single rfl (.str l)⟩
    ·cases h
   case slice e =>
    simp only [Bool.and_eq_true] at hk
    obtain ⟨⟨_,heS⟩,hes⟩:=hk
    have heS':e ∈ S:=by simpa using heS
    have hs1:=Nat.ble_le hes
    split at h <;> first|(cases h; done)|skip
    all_goals (try (rename_i heq _; cases heq; done))
    all_goals (try (rename_i heq; cases heq; done))
    ·exact ⟨[.view (P.cellsOf e) [] .shared],⟨[],rfl,by simp,fun row hr=>by cases hr⟩,.single rfl (.vnil _ _ trivial)⟩
    ·rename_i e' a len cap heq
     cases heq
     simp only at h
     split at h
     ·rename_i hc
      obtain ⟨_,hlc,hcm⟩:=hc
      obtain ⟨elems,h1,h2⟩:=Option.bind_eq_some_iff.1 h
      rw [hsp,if_pos rfl] at h2
      obtain ⟨rest,h3,h3'⟩:=Option.map_eq_some_iff.1 h2
      cases h3'
      unfold DataW.weights at hw
      rw [hu] at hw
      simp only [List.all_cons,List.all_append,Bool.and_eq_true,decide_eq_true_eq,List.length_map] at hw
      obtain ⟨hw1,hw2,_⟩:=hw
      have hl1:=mapM_some_length h1
      have hl3:=mapM_some_length h3
      simp only [List.length_range] at hl1 hl3
      have elem:∀ q,q < cap→∃ cells x,w.cells? 0 (a.add (q * P.cellsOf e)) (P.cellsOf e)=some cells∧DataW.trod enc P w 0 sp true fuel e cells=some x:=by
       intro q hq
       have hx:∃ x,(w.cells? 0 (a.add (q * P.cellsOf e)) (P.cellsOf e)).bind (DataW.trod enc P w 0 sp true fuel e)=some x:=by
        by_cases hql:q < len
        ·have:=mapM_some_get h1 q q (List.getElem?_range hql)
         rw [List.getElem?_eq_getElem (by omega)] at this
         exact ⟨_,this⟩
        ·have:=mapM_some_get h3 (q - len) (q - len) (List.getElem?_range (by omega))
         rw [List.getElem?_eq_getElem (by omega)] at this
         rw [show len + (q - len)=q by omega] at this
         exact ⟨_,this⟩
       obtain ⟨x,hx⟩:=hx
       obtain ⟨cells,h4,h5⟩:=Option.bind_eq_some_iff.1 hx
       exact ⟨cells,x,h4,h5⟩
      by_cases hcap:cap=0
      ·subst hcap
       have:len=0:=by omega
       subst this
       exact ⟨[.view (P.cellsOf e) [] .shared],⟨[],rfl,by simp,fun row hr=>by cases hr⟩,.single rfl (.vemp _ _ _ (fun h=>by cases h) trivial)⟩
      ·have hspot:a.spot=none∧a.block < w.heap.size:=by
        obtain ⟨cells,x,h4,_⟩:=elem 0 (by omega)
        obtain ⟨h6,h7⟩:=cells?_get h4
        have h8:=h7 0 hs1
        rw [List.getElem?_eq_getElem (by omega)] at h8
        simp only [Nat.zero_mul,Addr.add_zero'] at h8
        exact ⟨World.cell?_spot h8,block_lt_of_cell h8⟩
       obtain ⟨b,off,spot⟩:=a
       obtain ⟨rfl,hb⟩:=hspot
       simp only at hb
       obtain ⟨rows,hrl,hrows⟩:=choose_rows (p:=fun i row=>∃ cells,w.cells? 0 ((⟨b,off,none⟩:Addr).add (i * P.cellsOf e)) (P.cellsOf e)=some cells∧HasTyM M P fuel e row∧RL (G0 w) w row cells) len (fun i hi=>by
        have g1:=mapM_some_get h1 i i (List.getElem?_range hi)
        rw [List.getElem?_eq_getElem (by omega)] at g1
        obtain ⟨cells,h4,h5⟩:=Option.bind_eq_some_iff.1 g1
        obtain ⟨avs,h6,h7⟩:=ih e cells _ _ heS' h5 (weightsAll_get hw2 _ (List.mem_map.2 ⟨_,List.getElem_mem (by omega),rfl⟩))
        exact ⟨avs,cells,h4,h6,h7⟩)
       have hcellat:∀ i row,rows[i]?=some row→row.length=P.cellsOf e∧∀ j,j < P.cellsOf e→∃ v,w.cell? ⟨b,off + (i * P.cellsOf e + j),none⟩=some v∧∀ c,row[j]?=some c→R (G0 w) w c v:=by
        intro i row hr
        obtain ⟨cells,h4,_,h7⟩:=hrows i row hr
        obtain ⟨h8,h9⟩:=cells?_get h4
        refine ⟨h7.len.trans h8,fun j hj=>?_⟩
        have:=h9 j hj
        rw [addr_add,addr_add,Nat.add_assoc,List.getElem?_eq_getElem (by omega)] at this
        exact ⟨_,this,fun c hc=>h7.rel j c _ hc (List.getElem?_eq_getElem (by omega))⟩
       refine ⟨[.view (P.cellsOf e) rows .shared],⟨rows,rfl,Nat.le_trans (Nat.mul_le_mul_right _ (by omega)) hw1,fun row hr=>?_⟩,.single rfl ?_⟩
       ·obtain ⟨i,hi,rfl⟩:=List.getElem_of_mem hr
        obtain ⟨_,_,h6,_⟩:=hrows i _ (List.getElem?_eq_getElem hi)
        exact h6
       ·rw [← hrl]
        refine R.view _ rows .shared b off cap (fun i j=>(w.cell? ⟨b,off + (i * P.cellsOf e + j),none⟩).getD undef) (by omega) hcm (fun row hr=>?_) (fun row hr=>?_) trivial (fun i j hi hj=>⟨hb,?_⟩) (fun i j row c hr hc=>?_)
        ·obtain ⟨i,hi,rfl⟩:=List.getElem_of_mem hr
         exact (hcellat i _ (List.getElem?_eq_getElem hi)).1
        ·obtain ⟨i,hi,rfl⟩:=List.getElem_of_mem hr
         obtain ⟨_,_,_,h7⟩:=hrows i _ (List.getElem?_eq_getElem hi)
         exact h7.one
        ·obtain ⟨v,h1,_⟩:=(hcellat i _ (List.getElem?_eq_getElem hi)).2 j hj
         rw [h1]; rfl
        ·obtain ⟨hl,hh⟩:=hcellat i row hr
         have hj:j < P.cellsOf e:=by rw [← hl]; exact (List.getElem?_eq_some_iff.1 hc).1
         obtain ⟨v,h1,h2⟩:=hh j hj
         rw [h1]
         exact h2 c hc
     ·cases h
   case array m e =>
    simp only [Bool.and_eq_true] at hk
    obtain ⟨hsz,heS⟩:=hk
    have heS':e ∈ S:=by simpa using heS
    have hsz':=Nat.eq_of_beq_eq_true hsz
    clear h
    obtain ⟨xs,m0,hm0,hxd,hlen,hxl,h1⟩:=DataW.trod_array hu h0
    obtain rfl:fuel=m0:=by omega
    cases hxd
    unfold DataW.weights at hw
    rw [hu] at hw
    simp only at hw
    ·skip
     have hcont:contig 0 (((List.range m).map fun i=>(i * P.cellsOf e,P.cellsOf e,e)).map fun x=>(x.1,x.2.1)) cs.length=true:=by
      rw [List.map_map,hlen,← hsz']
      have:=contig_range (P.cellsOf e) m 0
      rw [Nat.zero_mul,Nat.zero_add] at this
      rw [List.range_eq_range']
      exact this
     obtain ⟨_,hle⟩:=contig_le _ _ _ hcont
     obtain ⟨avs,h2,h3⟩:=segs_R (g:=G0 w) (w:=w) (p:=fun x avs=>HasTyM M P fuel x.2.2 avs) (cs:=cs) _ 0 hcont (fun x hx=>by
      simp only [List.mem_map,List.mem_range] at hx
      obtain ⟨i,hi,rfl⟩:=hx
      have:=h1 i hi
      rw [List.getElem?_eq_getElem (by omega)] at this
      exact ih e _ _ _ heS' this (weightsAll_get hw _ (List.mem_map.2 ⟨_,List.getElem_mem (by omega),rfl⟩))) (fun x hx=>by
      have:=hle (x.1,x.2.1) (List.mem_map.2 ⟨x,hx,rfl⟩)
      simp only at this
      simp; omega)
     rw [List.drop_zero] at h2
     refine ⟨avs,⟨h2.len.trans hlen,fun i hi=>?_⟩,h2⟩
     have:=(h3 (i * P.cellsOf e,P.cellsOf e,e) (List.mem_map.2 ⟨i,by simp [hi],rfl⟩)).2
     simpa using this
   case struct fs =>
    simp only [Bool.and_eq_true] at hk
    obtain ⟨hcont0,hall⟩:=hk
    clear h
    obtain ⟨xs,m0,hm0,hxd,hlen,hxl,h1⟩:=DataW.trod_struct hu h0
    obtain rfl:fuel=m0:=by omega
    cases hxd
    unfold DataW.weights at hw
    rw [hu] at hw
    simp only at hw
    ·skip
     have hcont:contig 0 ((fs.toList.map fun f=>(f.offset,P.cellsOf f.type,f.type)).map fun x=>(x.1,x.2.1)) cs.length=true:=by
      rw [List.map_map,hlen]
      exact hcont0
     obtain ⟨_,hle⟩:=contig_le _ _ _ hcont
     obtain ⟨avs,h2,h3⟩:=segs_R (g:=G0 w) (w:=w) (p:=fun x avs=>HasTyM M P fuel x.2.2 avs) (cs:=cs) _ 0 hcont (fun x hx=>by
      simp only [List.mem_map] at hx
      obtain ⟨f,hf,rfl⟩:=hx
      obtain ⟨i,hi,rfl⟩:=List.getElem_of_mem hf
      have:=h1 i _ (by rw [← Array.getElem?_toList]; exact List.getElem?_eq_getElem hi)
      rw [List.getElem?_eq_getElem (by simp at hi; omega)] at this
      have hfS:(fs.toList[i]).type ∈ S:=by
       have:=List.all_eq_true.1 hall _ (List.getElem_mem hi)
       simpa using this
      have hlx:i < xs.length:=by simp at hi; omega
      refine ih _ _ _ _ hfS this (weights_get (us:=[]) (gs:=[]) (ts:=fs.toList.map (·.type)) (ds:=xs.map (·.1)) (by simp [hxl]) (by rw [List.append_nil,List.append_nil]; exact hw) i _ _ (by rw [List.getElem?_map,List.getElem?_eq_getElem hi]; rfl) (by rw [List.getElem?_map,List.getElem?_eq_getElem hlx]; rfl))) (fun x hx=>by
      have:=hle (x.1,x.2.1) (List.mem_map.2 ⟨x,hx,rfl⟩)
      simp only at this
      simp; omega)
     rw [List.drop_zero] at h2
     refine ⟨avs,⟨h2.len.trans hlen,fun f hf=>?_⟩,h2⟩
     have:=(h3 (f.offset,P.cellsOf f.type,f.type) (List.mem_map.2 ⟨f,hf,rfl⟩)).2
     simpa using this

def ArgTyM (M:Nat) (P:Program) (t:TypeId) (a:AV):Prop:=∃ fuel cs,HasTyM M P fuel t cs∧((∃ td,P.underlying t=some td∧aggD td=true∧a=.agg cs)∨(∃ td,P.underlying t=some td∧aggD td=false∧cs=[a]))
theorem HasTyM.one {M:Nat} {fuel:Nat} {t:TypeId} {cs:List AV} (h:HasTyM M P fuel t cs) {td:TypeDesc} (hu:P.underlying t=some td) (ha:aggD td=false):∃ a,cs=[a]∧a.cells=[a]:=by
 cases fuel with
 | zero=>cases h
 | succ n =>
  unfold HasTyM at h
  rw [hu] at h
  cases td <;> simp only [aggD,reduceCtorEq] at ha h
  ·obtain ⟨b,rfl⟩:=h; exact ⟨_,rfl,rfl⟩
  ·obtain ⟨x,rfl,_⟩:=h; exact ⟨_,rfl,rfl⟩
  ·obtain ⟨l,rfl,_⟩:=h; exact ⟨_,rfl,rfl⟩
  ·obtain ⟨rows,rfl,_⟩:=h; exact ⟨_,rfl,rfl⟩
theorem arg_RM {M:Nat} {S:List TypeId} (hS:∀ t ∈ S,kindOk P S t=true) {W:World} {t:TypeId} {v:Value} {d:DataW H} {p:List MemPlace} {base:Nat} (ht:t ∈ S) (hok:Value.okWide P W .any base t v)
  (h:DataW.Trod enc P W 0 (fun _=>true) true t v d p) (hw:(d.weights P t).all (·≤M)=true):∃ a,R (G0 W) W a v∧ArgTyM M P t a:=by
 obtain ⟨fuel,hf⟩:=h
 obtain ⟨avs,h1,h2⟩:=trod_RM hS (fun _=>rfl) fuel t _ d p ht hf hw
 have hk:=hS t ht
 cases hu:P.underlying t with
 | none=>unfold kindOk at hk; rw [hu] at hk; cases hk
 | some td =>
  cases ha:aggD td with
  | true =>
   have hv:∃ cs,v=.agg cs:=by
    unfold Value.okWide at hok
    rw [hu] at hok
    cases td <;> simp only [aggD,Bool.false_eq_true] at ha hok
    ·obtain ⟨cs,h,_⟩:=hok; exact ⟨cs,h⟩
    ·obtain ⟨cs,h,_⟩:=hok; exact ⟨cs,h⟩
   obtain ⟨cs,rfl⟩:=hv
   refine ⟨.agg avs,.agg avs cs (by rw [h2.len]; rfl) h2.one (fun i c v hc hv=>h2.rel i c v hc (by simpa [Value.cells] using hv)),fuel,avs,h1,.inl ⟨td,hu,ha,rfl⟩⟩
  | false =>
   obtain ⟨a,rfl,hc⟩:=HasTyM.one h1 hu ha
   have hl:=h2.len
   have hv:v.cells=#[v]:=by
    cases v <;> first|rfl|skip
    rename_i cs
    exfalso
    unfold Value.okWide at hok
    rw [hu] at hok
    unfold Cell.okWide Cell.ok at hok
    cases td <;> simp only [aggD,reduceCtorEq] at ha hok <;> (try (rw [hu] at hok; simp at hok)) <;> (try (simp [hu] at hok))
   refine ⟨a,h2.rel 0 a v rfl (by rw [hv]; rfl),fuel,[a],h1,.inr ⟨td,hu,ha,rfl⟩⟩
theorem law_contractM {M:Nat} {s:ChangeSpec} {fn:Func} {f:FuncId} {tb:TypeId} {S:List TypeId} (globs:List (Nat × List AV)) (hl:laidOutB P=true) (hS:∀ t ∈ S,kindOk P S t=true) (hparams:∀ t ∈ fn.params.toList,t ∈ S∧P.readableRec t=true∧t < P.types.size)
  (hvars:s.vars=[]) (hfn:∀ ds:List (DataW H),ds.length=fn.params.size→s.fn H ds={ results:=[.lit (.bool true)],args:=ds }) (hres:fn.resultTypes=#[tb]) (hb:P.underlying tb=some .bool)
  (W:World) (base:Nat) (args:Array Value) (ds gs:List (DataW H)) (before:List MemPlace)
  (hval:∀ (j:Nat) t v,fn.params[j]?=some t→args[j]?=some v→Value.okWide P W .any base t v)
  (hW:DataW.Whole enc P fn.params.toList s.vars false W args.toList ds gs before)
  {us:List TypeId} (hwt:(DataW.weightsEach P (fn.params.toList++us) (ds++gs)).all (·≤M)=true)
  (hglob:∀ gi row,(gi,row) ∈ globs→GlobAt (G0 W) W gi row)
  (walk:∀ avs:List AV,avs.length=fn.params.size→(∀ (i:Nat) t a,fn.params[i]?=some t→avs[i]?=some a→ArgTyM M P t a) →
   ACalls P f avs { obj:=fun _=>none,tok:=fun _=>false,glob:=globs } (fun v _=>v=.bool true) (fun _ _=>False)) :
  Calls P f args W fun e W'=>∃ v,e=.returned v∧s.post enc P fn false true false false W args v W':=by
 have hW':=hW
 obtain ⟨p,q,hA,hV,rfl,_,_⟩:=hW
 obtain ⟨l2,l3⟩:=trodAll_len hA
 obtain ⟨avs,l1,hRT⟩:=choose_args (A:=fun i a=>∀ t v,fn.params[i]?=some t→args[i]?=some v→R (G0 W) W a v∧ArgTyM M P t a) args.size (fun i hi=>by
  have hv:args.toList[i]?=some args[i]:=by rw [Array.getElem?_toList]; exact Array.getElem?_eq_getElem hi
  have hpi:i < fn.params.toList.length:=by rw [l2]; simpa using hi
  have ht:fn.params.toList[i]?=some fn.params.toList[i]:=List.getElem?_eq_getElem hpi
  have hd:ds[i]?=some (ds[i]'(by omega)):=List.getElem?_eq_getElem _
  obtain ⟨q,hq⟩:=trodAll_get hA i _ _ _ ht hv hd
  obtain ⟨a,h1,h2⟩:=arg_RM hS (hparams _ (List.getElem_mem hpi)).1 (hval i _ _ (by simp) (by simp)) hq (weights_get (by omega) hwt i _ _ ht hd)
  refine ⟨a,fun t v k1 k2=>?_⟩
  rw [Array.getElem?_eq_getElem hi] at k2
  cases k2
  rw [← Array.getElem?_toList,ht] at k1
  cases k1
  exact ⟨h1,h2⟩)
 rw [hvars] at hV
 obtain ⟨rfl,rfl⟩:=trodVars_none hV
 have hpl:fn.params.size=args.size:=by simpa using l2
 have hlen:avs.length=fn.params.size:=by rw [l1,hpl]
 have hcall:=walk avs hlen (fun i t a h1 h2=>by
  have hi:i < args.size:=by rw [← l1]; exact (List.getElem?_eq_some_iff.1 h2).1
  exact (hRT i a h2 t _ h1 (Array.getElem?_eq_getElem hi)).2) (G0 W) W args (Sim0 W globs hglob) l1 (fun i c v h1 h2=>by
  have hi:i < fn.params.size:=by rw [← hlen]; exact (List.getElem?_eq_some_iff.1 h1).1
  exact (hRT i c h1 _ v (Array.getElem?_eq_getElem hi) h2).1)
 refine hcall.mono fun e W' ⟨g',st',he,_,hq⟩=>?_
 cases e with
 | panicked ch=>obtain ⟨_,_,_,_,h⟩:=hq; exact h.elim
 | outgrown=>exact hq.elim
 | returned rv =>
  obtain ⟨v,hRv,rfl⟩:=hq
  have hrv:rv=.bool true:=by cases hRv; rfl
  subst hrv
  have hbelow:Below W.heap.size W W':=he.below
  have hsp:=hfn (ds++[]) (by simp; rw [l3]; simp)
  refine ⟨_,rfl,ds,[],p++[],[],p++[],[],hW',?_,?_,?_,hbelow.frame _,fun h=>by cases h⟩
  ·rw [hsp,hres]
   exact trodAll_cons_mk (shut_bool hb true) trodAll_mk0
  ·rw [hsp,List.append_nil,List.append_nil]
   exact TrodAll.below hl hbelow _ _ _ _ (fun t ht=>(hparams t ht).2) (fun x hx=>hW'.lt x (by simpa using hx)) hA
  ·rw [hsp,hvars]
   rfl

end
end Go.AM
namespace Go.AM
section
variable {M:Nat} {P:Program} {t:TypeId} {a:AV} {n:Nat} {cs:List AV}
theorem HasTyM.field (h:HasTyM M P (n + 1) t cs) (f:Nat) {off:Nat} {ft:TypeId} [hf:Fld P t f off ft]:HasTyM M P n ft ((cs.drop off).take (P.cellsOf ft)):=by
 obtain ⟨fs,fld,h1,h2,h3,h4⟩:=hf.out
 unfold HasTyM at h
 rw [h1] at h
 have hm:fld ∈ fs.toList:=by
  rw [← Array.getElem?_toList] at h2
  exact List.mem_of_getElem? h2
 have:=h.2 fld hm
 rw [h3,h4] at this
 exact this
theorem HasTyM.len {fs:Array Field} (h:HasTyM M P (n + 1) t cs) (hu:P.underlying t=some (.struct fs)):cs.length=P.cellsOf t:=by
 unfold HasTyM at h
 rw [hu] at h
 exact h.1
theorem HasTyM.int {k:IntKind} (h:HasTyM M P n t cs) (hu:P.underlying t=some (.int k)):∃ x,cs=[.int k x]∧(Lit.int k x).wf=true:=by
 cases n with
 | zero=>cases h
 | succ n =>
  unfold HasTyM at h
  rw [hu] at h
  exact h
theorem HasTyM.str (h:HasTyM M P n t cs) (hu:P.underlying t=some .string):∃ l:List UInt8,cs=[.str l]∧l.length≤M:=by
 cases n with
 | zero=>cases h
 | succ n =>
  unfold HasTyM at h
  rw [hu] at h
  exact h
theorem HasTyM.slice {e:TypeId} (h:HasTyM M P n t cs) (hu:P.underlying t=some (.slice e)):∃ m rows,n=m + 1∧cs=[.view (P.cellsOf e) rows .shared]∧rows.length * P.bytesOf e≤M∧∀ row ∈ rows,HasTyM M P m e row:=by
 cases n with
 | zero=>cases h
 | succ n =>
  unfold HasTyM at h
  rw [hu] at h
  obtain ⟨rows,h1,h2,h3⟩:=h
  exact ⟨n,rows,rfl,h1,h2,h3⟩
theorem HasTyM.bool (h:HasTyM M P n t cs) (hu:P.underlying t=some .bool):∃ b,cs=[.bool b]:=by
 cases n with
 | zero=>cases h
 | succ n =>
  unfold HasTyM at h
  rw [hu] at h
  exact h
theorem rows_map {α:Type} {f:α→List AV} {p:α→Prop}:∀ rows:List (List AV),(∀ row ∈ rows,∃ x,row=f x∧p x)→∃ l:List α,rows=l.map f∧∀ x ∈ l,p x
 | [],_=>⟨[],rfl,fun x h=>by cases h⟩
 | r::rs,h=>by
  obtain ⟨l,rfl,hl⟩:=rows_map rs fun row hr=>h row (List.mem_cons_of_mem _ hr)
  obtain ⟨x,rfl,hx⟩:=h r (List.mem_cons_self ..)
  refine ⟨x::l,rfl,fun y hy=>?_⟩
  rcases List.mem_cons.1 hy with rfl|hy
  ·exact hx
  ·exact hl y hy
theorem ArgTyM.one {td:TypeDesc} (h:ArgTyM M P t a) (hu:P.underlying t=some td) (ha:aggD td=false):∃ fuel,HasTyM M P fuel t [a]:=by
 obtain ⟨fuel,cs,h1,h2⟩:=h
 rcases h2 with ⟨td',hu',ha',_⟩|⟨_,_,_,rfl⟩
 ·rw [hu] at hu'
  cases hu'
  rw [ha] at ha'
  cases ha'
 ·exact ⟨fuel,h1⟩
theorem ArgTyM.agg {td:TypeDesc} (h:ArgTyM M P t a) (hu:P.underlying t=some td) (ha:aggD td=true):∃ fuel cs,a=.agg cs∧HasTyM M P fuel t cs:=by
 obtain ⟨fuel,cs,h1,h2⟩:=h
 rcases h2 with ⟨td',hu',ha',e⟩|⟨td',hu',ha',_⟩
 ·exact ⟨fuel,cs,e,h1⟩
 ·rw [hu] at hu'
  cases hu'
  rw [ha] at ha'
  cases ha'
theorem argM_int {k:IntKind} (hu:P.underlying t=some (.int k)) (h:ArgTyM M P t a):∃ x,a=.int k x∧(Lit.int k x).wf=true:=by
 obtain ⟨fuel,h⟩:=h.one hu rfl
 obtain ⟨x,h1,h2⟩:=h.int hu
 cases h1
 exact ⟨x,rfl,h2⟩
end
end Go.AM
namespace Go.Proofs
open Go.AM

theorem wf64' {x:Int} (h:(Lit.int .i64 x).wf=true):w64 x:=by
 simp only [Lit.wf,Bool.and_eq_true,decide_eq_true_eq] at h
 have h1:(-9223372036854775808:Int)≤x:=h.1
 have h2:x≤(9223372036854775807:Int):=h.2
 unfold w64
 omega
theorem sing {a b:AV} (h:[a]=[b]):a=b:=(List.cons.inj h).1
theorem arg_dat {M:Nat} {a:AV} (h:ArgTyM M Tryz.prog 49 a):∃ d:Dt,a=dV d∧(∀ x ∈ d.words,w64 x):=by
 obtain ⟨fuel,cs,rfl,h2⟩:=h.agg Tryz.underlying49 rfl
 obtain ⟨n,rfl⟩:∃ k,fuel=k + 1:=by
  cases fuel with
  | zero=>exact False.elim h2
  | succ n=>exact ⟨n,rfl⟩
 have c4:Program.cellsOf Tryz.prog 49=4:=by kernel_rfl
 have ci:Program.cellsOf Tryz.prog 3=1:=by kernel_rfl
 have cb:Program.cellsOf Tryz.prog 4=1:=by kernel_rfl
 have cvb:Program.cellsOf Tryz.prog 47=1:=by kernel_rfl
 have cvi:Program.cellsOf Tryz.prog 30=1:=by kernel_rfl
 have hl:cs.length=4:=(h2.len Tryz.underlying49).trans c4
 obtain ⟨c0,c1,c2,c3,rfl⟩:∃ c0 c1 c2 c3,cs=[c0,c1,c2,c3]:=by
  clear h2 h
  match cs,hl with
  | [c0,c1,c2,c3],_=>exact ⟨_,_,_,_,rfl⟩
 have f0:=h2.field 0
 have f1:=h2.field 1
 have f2:=h2.field 2
 have f3:=h2.field 3
 rw [ci] at f0 f1
 rw [cvb] at f2
 rw [cvi] at f3
 obtain ⟨x0,e0,w0⟩:=f0.int Tryz.underlying3
 obtain ⟨x1,e1,w1⟩:=f1.int Tryz.underlying3
 obtain ⟨m2,r2,rfl,e2,_,h3⟩:=f2.slice Tryz.underlying47
 obtain ⟨m3,r3,_,e3,_,h4⟩:=f3.slice Tryz.underlying30
 rw [cb] at e2
 rw [ci] at e3
 have g0:c0=.int .i64 x0:=sing e0
 have g1:c1=.int .i64 x1:=sing e1
 have g2:c2=.view 1 r2 .shared:=sing e2
 have g3:c3=.view 1 r3 .shared:=sing e3
 subst g0; subst g1; subst g2; subst g3
 obtain ⟨l2,rfl,_⟩:=rows_map (f:=fun b:Bool=>[AV.bool b]) (p:=fun _=>True) r2 fun row hr=>by
  obtain ⟨b,hb⟩:=(h3 row hr).bool Tryz.underlying4
  exact ⟨b,hb,trivial⟩
 obtain ⟨l3,rfl,hw⟩:=rows_map (f:=fun x:Int=>[AV.int .i64 x]) (p:=w64) r3 fun row hr=>by
  obtain ⟨x,hx,hwf⟩:=(h4 row hr).int Tryz.underlying3
  exact ⟨x,hx,wf64' hwf⟩
 exact ⟨⟨x0,x1,l2,l3⟩,rfl,hw⟩
theorem arg_recs {M:Nat} {a:AV} (h:ArgTyM M Tryz.prog 22 a):∃ recs:List Rc,a=.view 2 (rrs recs) .shared∧∀ r ∈ recs,∀ f ∈ r.2,f.length≤M:=by
 obtain ⟨fuel,h⟩:=h.one Tryz.underlying22 rfl
 obtain ⟨n,rows,rfl,h1,_,h3⟩:=h.slice Tryz.underlying22
 have c2:Program.cellsOf Tryz.prog 58=2:=by kernel_rfl
 have cs1:Program.cellsOf Tryz.prog 9=1:=by kernel_rfl
 have cv1:Program.cellsOf Tryz.prog 56=1:=by kernel_rfl
 rw [c2] at h1
 have h1:=sing h1
 subst h1
 obtain ⟨recs,rfl,hr⟩:=rows_map (f:=rrow) (p:=fun r:Rc=>∀ f ∈ r.2,f.length≤M) rows fun row hr=>by
  have h4:=h3 row hr
  obtain ⟨n,rfl⟩:∃ k,n=k + 1:=by
   cases n with
   | zero=>exact False.elim h4
   | succ n=>exact ⟨n,rfl⟩
  have hrl:row.length=2:=(h4.len Tryz.underlying58).trans c2
  obtain ⟨c0,c1,rfl⟩:∃ c0 c1,row=[c0,c1]:=by
   clear h4 hr
   match row,hrl with
   | [c0,c1],_=>exact ⟨_,_,rfl⟩
  have f0:=h4.field 0
  have f1:=h4.field 1
  rw [cs1] at f0
  rw [cv1] at f1
  obtain ⟨x0,e0,_⟩:=f0.str Tryz.underlying9
  obtain ⟨m1,r1,_,e1,_,h5⟩:=f1.slice Tryz.underlying56
  rw [cs1] at e1
  have g0:c0=.str x0:=sing e0
  have g1:c1=.view 1 r1 .shared:=sing e1
  subst g0; subst g1
  obtain ⟨l,rfl,hl⟩:=rows_map (f:=fun s:List UInt8=>[AV.str s]) (p:=fun s=>s.length≤M) r1 fun row hr=>(h5 row hr).str Tryz.underlying9
  exact ⟨(x0,l),rfl,hl⟩
 exact ⟨recs,rfl,hr⟩
end Go.Proofs
namespace Go.AM
open Go.RowKit (Below)
section
variable {P:Program} {n:Nat} {K:Post} {E:EPost} {T:Tmps} {st:St} {ops:Array Oper} {rest:List Oper}
variable {ty:TypeId} {pos:String} {es:Array Edge} {gd:Option (Nat × Bool)} {d:Tmp} {x y:Operand} {dd:Option Tmp}
theorem append_emp_msl {g:G} {w:World} (hs:Sim g w st) {t e:TypeId} {sz by_:Nat} {ez:Value} [hu:Und P t (.slice e)] [hie:Inf P e sz by_ ez] (hz:zok sz ez=true) {ty:TypeId} {rows2:List (List AV)} {uy:Value} (ad0:Addr)
  (h2:Src g w sz rows2 uy) (h0:rows2≠[]) (hb:rows2.length * by_≤140737488355328) (hm:rows2.length≤maxLen) :
  ∃ v w' g' o',(Builtin.append_ #[t,t] ty #[.slice (some ad0) 0 0,uy]).run P w=.ok v w'∧Ext g w g' w'∧Sim g' w' (st.set o' (.cells e sz rows2))∧R g' w' (.msl o' sz 0 rows2.length) v∧st.obj o'=none:=by
 obtain ⟨z1,z2,z3,z4⟩:=zok_spec hz
 obtain ⟨inf,i1,i2,i3,i4⟩:=hie.out
 obtain ⟨base2,cap2,f2,rfl,hnil2,hR2,hl2,h12,hcell2,hone2⟩:=h2
 have hpos:0 < rows2.length:=List.length_pos_iff.2 h0
 have hm64:rows2.length≤9223372036854775807:=by simp only [maxLen] at hm; omega
 obtain ⟨ad,rfl⟩:∃ ad,base2=some ad:=by
  cases base2 with
  | none=>exact absurd (hnil2 rfl).1 h0
  | some ad=>exact ⟨ad,rfl⟩
 subst i2
 have hr:=run_append_grow (P:=P) w t ty e inf ez hu.out i1 i4 ad0 0 0 [] (by simp) (fun j v h=>by simp at h) ad rows2.length cap2 (flatV f2 rows2.length inf.size) (flatV_length _ _ _) (hcell2 ad rfl) (by omega) (by omega)
  (growslice_fits (by omega) (by rw [i3]; simpa using hb))
 simp only [Nat.zero_add] at hr
 have hge:=grownCap_ge w rows2.length 0 e
 have hgm:=grownCap_le_maxLen w rows2.length 0 e hm
 obtain ⟨hed,hsd⟩:=hs.draw
 have harr0:(([]:List Value).toArray++(flatV f2 rows2.length inf.size).toArray++Builtin.zeroCells ez.cells (grownCap w rows2.length 0 e - rows2.length))=(flatV f2 rows2.length inf.size).toArray++Builtin.zeroCells ez.cells (grownCap w rows2.length 0 e - rows2.length):=by simp
 rw [harr0] at hr
 generalize hcp:grownCap w rows2.length 0 e=cp at hr hge hgm
 generalize harr:(flatV f2 rows2.length inf.size).toArray++Builtin.zeroCells ez.cells (cp - rows2.length)=arr' at hr
 have hsize':arr'.size=cp * inf.size:=by
  rw [← harr]
  simp only [Array.size_append,List.size_toArray,flatV_length,size_zeroCells,z1,← Nat.add_mul]
  congr 1
  omega
 obtain ⟨g',he,hs',hob',hnone⟩:=hsd.newObj (.cells arr' e) (.cells e inf.size rows2) (cp * inf.size) (fun g' he=>by
  refine ⟨arr',heap_alloc_new _ _,hsize',Nat.mul_le_mul_right _ hge,hl2,h12,fun i j row c hr hcj=>?_⟩
  have hi:i < rows2.length:=(List.getElem?_eq_some_iff.1 hr).1
  have hj:j < inf.size:=by rw [← hl2 row (List.mem_of_getElem? hr)]; exact (List.getElem?_eq_some_iff.1 hcj).1
  have hlt:=mul_add_lt hi hj
  refine ⟨f2 i j,?_,((hR2 i j row c hr hcj).ext hed).ext he⟩
  rw [← harr,← Array.getElem?_toList]
  simp only [Array.toList_append]
  rw [List.getElem?_append_left (by rw [flatV_length]; exact hlt),flatV_at f2 hi hj])
 refine ⟨_,_,g',g.next,hr,hed.trans he,hs',?_,hnone⟩
 have:=R.msl (g:=g') (w:=w.drew.alloc (.cells arr' e)) g.next inf.size 0 rows2.length cp w.drew.heap.size (cp * inf.size) hob' hge hgm (by simp)
 simpa using this
theorem apfM {t e:TypeId} {sz by_:Nat} {ez:Value} [hu:Und P t (.slice e)] [hie:Inf P e (sz + 1) by_ ez] {rows2:List (List AV)} {tk2:Tok}
  (hg:goes ops n T ⟨dd,.call ⟨.builtin .append,#[x,y],#[t,t]⟩,ty,pos,es,gd⟩=some d) (hx:ev st T x=some (.view (sz + 1) [] .full)) (hy:ev st T y=some (.view (sz + 1) rows2 tk2))
  (h0:rows2≠[]) (hz:zok (sz + 1) ez=true) (hb:rows2.length * by_≤140737488355328) (hm:rows2.length≤maxLen)
  (k:∀ o',st.obj o'=none→AOps P n ops rest K E ((d,.msl o' (sz + 1) 0 rows2.length)::T) (st.set o' (.cells e (sz + 1) rows2))) :
  AOps P n ops (⟨dd,.call ⟨.builtin .append,#[x,y],#[t,t]⟩,ty,pos,es,gd⟩::rest) K E T st:=by
 refine AOps.stepAny hg fun g w a hs hk=>?_
 have h1:=ev_R hs hk hx
 have h2:=ev_R hs hk hy
 generalize hux:a.eval x=ux at h1
 generalize huy:a.eval y=uy at h2
 have hemp:∀ ad,ux=.slice (some ad) 0 0→∃ rv g' w' v st1,(execOp a.eval ⟨dd,.call ⟨.builtin .append,#[x,y],#[t,t]⟩,ty,pos,es,gd⟩).run P w=.ok (.value rv) w'∧Ext g w g' w'∧Sim g' w' st1∧R g' w' v rv∧AOps P n ops rest K E ((d,v)::T) st1:=fun ad e=>by
  subst e
  obtain ⟨v,w',g',o',hr,he,hs',hR,hf⟩:=append_emp_msl (P:=P) hs (t:=t) (ty:=ty) hz ad (src_of h2) h0 hb hm
  exact ⟨v,g',w',_,_,by simp [execOp,resolve,invoke,builtin,hux,huy,hr],he,hs',hR,k o' hf⟩
 cases h1 with
 | vnil =>
  obtain ⟨v,w',g',o',hr,he,hs',hR,hf⟩:=append_nil_msl (P:=P) hs (t:=t) (ty:=ty) hz (src_of h2) h0 hb hm
  exact ⟨v,g',w',_,_,by simp [execOp,resolve,invoke,builtin,hux,huy,hr],he,hs',hR,k o' hf⟩
 | vemp _ _ ad=>exact hemp ad rfl
 | view _ _ _ b off cap f hc hmx hl h1x ht himm hh =>
  have hcap:cap=0:=by have:([]:List (List AV)).length=cap:=ht; simpa using this.symm
  subst hcap
  exact hemp _ rfl
theorem apS {t e:TypeId} {sz by_:Nat} {ez:Value} [hu:Und P t (.slice e)] [hie:Inf P e (sz + 1) by_ ez] {rows rows2:List (List AV)} {tk:Nat} {tk2:Tok} (htk:st.tok tk=false)
  (hg:goes ops n T ⟨dd,.call ⟨.builtin .append,#[x,y],#[t,t]⟩,ty,pos,es,gd⟩=some d) (hx:ev (st.addTok tk) T x=some (.view (sz + 1) rows (.own tk e))) (hy:ev (st.addTok tk) T y=some (.view (sz + 1) rows2 tk2))
  (hz:zok (sz + 1) ez=true) (hb:(rows.length + rows2.length) * by_≤140737488355328) (hm:rows.length + rows2.length≤maxLen)
  (k:AOps P n ops rest K E ((d,.view (sz + 1) (rows++rows2) .shared)::T) st) :
  AOps P n ops (⟨dd,.call ⟨.builtin .append,#[x,y],#[t,t]⟩,ty,pos,es,gd⟩::rest) K E T (st.addTok tk):=by
 refine ap hg hx hy (St.tok_addTok _ _) hz hb hm fun tk' _=>?_
 refine AOps.weaken (T':=(d,.view (sz + 1) (rows++rows2) .shared)::T) (st':=st) ?_ ⟨fun _ _ h=>h,fun t ht=>?_,rfl⟩ k
 ·intro i v' hi
  rw [Tmps.get_cons] at hi ⊢
  by_cases h:d=i
  ·rw [if_pos h] at hi ⊢
   cases hi
   exact ⟨_,rfl,.shared _ _ _⟩
  ·rw [if_neg h] at hi ⊢
   exact ⟨_,hi,.refl _⟩
 ·simp only [St.addTok,St.untok]
  by_cases h1:t=tk'
  ·rw [if_pos h1]
  ·rw [if_neg h1]
   by_cases h2:t=tk
   ·rw [h2,htk] at ht
    cases ht
   ·rw [if_neg h2,if_neg h2]
    exact ht
def oslot (sz:Nat) (rows:List (List AV)) (e:TypeId):Option Nat→AV
 | none=>.view 0 [] .nil
 | some tk=>.view sz rows (.own tk e)
def otok (st:St):Option Nat→St
 | none=>st
 | some tk=>st.addTok tk
def ountok (st:St):Option Nat→St
 | none=>st
 | some tk=>st.untok tk
theorem apo {t e:TypeId} {sz by_:Nat} {ez:Value} [hu:Und P t (.slice e)] [hie:Inf P e (sz + 1) by_ ez] {rows rows2:List (List AV)} {ot:Option Nat} {tk2:Tok}
  (hg:goes ops n T ⟨dd,.call ⟨.builtin .append,#[x,y],#[t,t]⟩,ty,pos,es,gd⟩=some d) (hx:ev st T x=some (oslot (sz + 1) rows e ot)) (hy:ev st T y=some (.view (sz + 1) rows2 tk2)) (hn:ot=none→rows=[]) (htk:∀ tk,ot=some tk→st.tok tk=true)
  (hz:zok (sz + 1) ez=true) (hb:(rows.length + rows2.length) * by_≤140737488355328) (hm:rows.length + rows2.length≤maxLen)
  (k:∀ tk',st.tok tk'=false→AOps P n ops rest K E ((d,.view (sz + 1) (rows++rows2) (.own tk' e))::T) ((ountok st ot).addTok tk')) :
  AOps P n ops (⟨dd,.call ⟨.builtin .append,#[x,y],#[t,t]⟩,ty,pos,es,gd⟩::rest) K E T st:=by
 cases ot with
 | none =>
  have h:=hn rfl
  subst h
  exact apn hg hx hy hz (by simpa using hb) (by simpa using hm) k
 | some tk=>exact ap hg hx hy (htk tk rfl) hz hb hm k
theorem StLe.round {B:St} {o:Nat} {c c1 c2:AObj} {o1 o2:Option Nat} {t1 t2:Nat} (hB:∀ t,B.tok t=false) (h1:(otok (otok (B.set o c) o1) o2).tok t1=false∨o1=some t1) (h12:∀ t,o1=some t→o2≠some t) :
  StLe ((((ountok (((ountok (otok (otok (B.set o c) o1) o2) o1).addTok t1).set o c1) o2).addTok t2).set o c2)) (otok (otok (B.set o c2) (some t1)) (some t2)):=by
 refine ⟨fun p q h=>?_,fun t h=>?_,?_⟩
 ·by_cases hp:p=o
  ·simp only [otok,St.addTok,St.set,hp,if_true] at h ⊢
   exact h
  ·have e:∀ (s:St) (ot:Option Nat),(otok s ot).obj=s.obj:=fun s ot=>by cases ot <;> rfl
   have e2:∀ (s:St) (ot:Option Nat),(ountok s ot).obj=s.obj:=fun s ot=>by cases ot <;> rfl
   rw [e,e] at h
   simp only [St.set,hp,if_false] at h
   simp only [St.set,hp,if_false,St.addTok,e2,e]
   exact h
 ·simp only [otok,St.addTok,St.set] at h
  simp only [St.set,St.addTok]
  by_cases k2:t=t2
  ·rw [if_pos k2]
  ·rw [if_neg k2] at h ⊢
   by_cases k1:t=t1
   ·subst k1
    have e0:∀ s:St,(o2≠some t)→(ountok s o2).tok t=s.tok t:=fun s hne=>by
     cases o2 with
     | none=>rfl
     | some q=>simp only [ountok,St.untok]; rw [if_neg fun e=>hne (by rw [e])]
    rw [e0]
    ·simp
    ·rcases h1 with h1|h1
     ·intro e
      rw [e] at h1
      simp [otok,St.addTok] at h1
     ·exact h12 t h1
   ·rw [if_neg k1,hB] at h
    cases h
 ·have e:∀ (s:St) (ot:Option Nat),(otok s ot).glob=s.glob:=fun s ot=>by cases ot <;> rfl
  have e2:∀ (s:St) (ot:Option Nat),(ountok s ot).glob=s.glob:=fun s ot=>by cases ot <;> rfl
  rw [e,e]
  show B.glob=_
  simp only [St.set,St.addTok,e2,e]
theorem Sim.relab {g:G} {w:World} (hs:Sim g w st) {o s:Nat} {oty:TypeId} {rows rows':List (List AV)} (ho:st.obj o=some (.cells oty s rows)) (hl:rows.length=rows'.length) (h1:∀ row ∈ rows',row.length=s) (h2:∀ row ∈ rows',∀ c ∈ row,c.one=true)
  (h:∀ (i j:Nat) row' c',rows'[i]?=some row'→row'[j]?=some c'→∃ row c,rows[i]?=some row∧row[j]?=some c∧Le c c'):Sim g w (st.set o (.cells oty s rows')):=by
 obtain ⟨b,m,hb,_,_,_⟩:=hs.objs o _ ho
 obtain ⟨_,⟨arr,ha,hasz,hml,hlr,h1',hc⟩,_⟩:=hs.objOf ho hb
 exact (hs.write (c':=.cells oty s rows') ho hb w rfl rfl rfl rfl (fun _ _=>rfl) fun _=>⟨arr,ha,hasz,by rw [← hl]; exact hml,h1,h2,fun i j r c hr hcj=>by
  obtain ⟨row,c0,k1,k2,k3⟩:=h i j r c hr hcj
  obtain ⟨v,hv,hR⟩:=hc i j row c0 k1 k2
  exact ⟨v,hv,hR.le k3⟩⟩).2
theorem AWP.relab {c:Code} {o s:Nat} {oty:TypeId} {rows rows':List (List AV)} (ho:st.obj o=some (.cells oty s rows)) (hl:rows.length=rows'.length) (h1:∀ row ∈ rows',row.length=s) (h2:∀ row ∈ rows',∀ c ∈ row,c.one=true)
  (h:∀ (i j:Nat) row' c',rows'[i]?=some row'→row'[j]?=some c'→∃ row c,rows[i]?=some row∧row[j]?=some c∧Le c c') (k:AWP P n c K E T (st.set o (.cells oty s rows'))):AWP P n c K E T st :=
 AWP.ghost fun g _ _ hs hk=>⟨g,T,_,.refl _ _,hs.relab ho hl h1 h2 h,hk,k⟩
theorem AOps.frzIn {o o' s i j sz lo len:Nat} {oty oty':TypeId} {rows rows':List (List AV)} {row:List AV} (hne:o≠o') (ho:st.obj o=some (.cells oty s rows)) (hr:rows[i]?=some row) (hj:row[j]?=some (.msl o' sz lo len))
  (ho':st.obj o'=some (.cells oty' sz rows')) (hl:lo + len≤rows'.length)
  (h:AOps P n ops rest K E T ((st.drop o').set o (.cells oty s (rows.set i (row.set j (.view sz ((rows'.drop lo).take len) .shared)))))):AOps P n ops rest K E T st :=
 AOps.ghost fun g w a hs hk=>by
  obtain ⟨g',he,hs'⟩:=hs.frzIn hne ho hr hj ho' hl
  exact ⟨g',T,_,he,hs',hk.ext he,h⟩
end
end Go.AM
namespace Go.Proofs
open Go.AM
attribute [local irreducible] AWP AOps ACalls AAny
set_option linter.unusedSimpArgs false

def dRow (d:Dt):List AV:=[.int .i64 d.kind,.int .i64 d.rc,.view 1 (brs d.known) .shared,.view 1 (irs d.words) .shared]

structure CL where
 i:Nat
 ks:List Bool
 ws:List Int
 o1:Option Nat
 o2:Option Nat
def crow (kq rq:Int) (z:CL):List AV:=[.int .i64 kq,.int .i64 rq,oslot 1 (brs z.ks) 4 z.o1,oslot 1 (irs z.ws) 3 z.o2]
def cS (st:St) (o:Nat) (kq rq:Int) (z:CL):St:=otok (otok (st.set o (.cells 49 4 [crow kq rq z])) z.o1) z.o2
structure CLok (z:CL):Prop where
 l1:z.ks.length=z.i
 l2:z.ws.length=z.i
 w:∀ x ∈ z.ws,w64 x
 n1:z.o1=none→z.ks=[]
 n2:z.o2=none→z.ws=[]
 ne:∀ t,z.o1=some t→z.o2≠some t
theorem otok_obj (st:St) (o:Option Nat):(otok st o).obj=st.obj:=by cases o <;> rfl
theorem cS_obj (st:St) (o:Nat) (kq rq:Int) (z:CL):(cS st o kq rq z).obj o=some (.cells 49 4 [crow kq rq z]):=by
 unfold cS
 rw [otok_obj,otok_obj]
 exact St.obj_set _ _ _
theorem cS_t1 (st:St) (o:Nat) (kq rq:Int) (z:CL):∀ tk,z.o1=some tk→(cS st o kq rq z).tok tk=true:=by
 intro tk h
 unfold cS
 rw [h]
 cases z.o2 <;> simp [otok,St.addTok]
theorem cS_t2 (st:St) (o:Nat) (kq rq:Int) (z:CL):∀ tk,z.o2=some tk→(cS st o kq rq z).tok tk=true:=by
 intro tk h
 unfold cS
 rw [h]
 simp [otok,St.addTok]

theorem ountok_obj (st:St) (o:Option Nat):(ountok st o).obj=st.obj:=by cases o <;> rfl
theorem ob_un {st:St} {o:Nat} {c:AObj} (h:st.obj o=some c) (ot:Option Nat) (tk:Nat):((ountok st ot).addTok tk).obj o=some c:=by
 show (ountok st ot).obj o=some c
 rw [ountok_obj]
 exact h
theorem cS_t2' (st:St) (o:Nat) (kq rq:Int) (z:CL) (hz:CLok z) (t1:Nat) (c:AObj):∀ tk,z.o2=some tk→(((ountok (cS st o kq rq z) z.o1).addTok t1).set o c).tok tk=true:=by
 intro tk h
 have h2:=cS_t2 st o kq rq z tk h
 show (if tk=t1 then true else (ountok (cS st o kq rq z) z.o1).tok tk)=true
 by_cases e:tk=t1
 ·rw [if_pos e]
 ·rw [if_neg e]
  have hne:=hz.ne
  cases h1:z.o1 with
  | none=>exact h2
  | some q =>
   show (if tk=q then false else (cS st o kq rq z).tok tk)=true
   rw [if_neg fun e=>hne q h1 (by rw [h,e]),h2]
theorem brs_snoc (l:List Bool) (b:Bool):brs l++brs [b]=brs (l++[b]):=(List.map_append ..).symm
theorem irs_snoc (l:List Int) (b:Int):irs l++irs [b]=irs (l++[b]):=(List.map_append ..).symm
theorem wrap_w64 (x:Int):w64 (IntKind.i64.wrap x):=by
 unfold w64
 simp only [IntKind.wrap,IntKind.bits,IntKind.signed]
 simp
 omega
theorem wrap_u {x:Int} (h:0≤x∧x < 1000):IntKind.u64.wrap x=x:=by
 simp only [IntKind.wrap,IntKind.bits,IntKind.signed]
 simp
 omega

theorem irs_set (l:List Int) (i:Nat) (x:Int):(irs l).set i [.int .i64 x]=irs (l.set i x):=by unfold irs; rw [List.map_set]
theorem StLe.froz {st:St} {o2 o3:Nat} {a b c:AObj} (hne:o3≠o2) (h3:st.obj o3=none):StLe ((((st.set o2 a).set o3 b).drop o3).set o2 c) (st.set o2 c):=by
 refine ⟨fun p q h=>?_,fun t h=>h,rfl⟩
 have h:(if p=o2 then some c else st.obj p)=some q:=h
 show (if p=o2 then some c else (if p=o3 then none else (if p=o3 then some b else (if p=o2 then some a else st.obj p))))=some q
 by_cases e:p=o2
 ·rw [if_pos e] at h ⊢; exact h
 ·rw [if_neg e] at h ⊢
  by_cases e3:p=o3
  ·rw [e3,h3] at h; cases h
  ·rw [if_neg e3,if_neg e3,if_neg e]; exact h
theorem oslot_le {sz:Nat} {rows:List (List AV)} {e:TypeId} {ot:Option Nat} (h:ot=none→rows=[]):Le (oslot sz rows e ot) (.view sz rows .shared):=by
 cases ot with
 | none=>rw [h rfl]; exact .nilShared _ _
 | some t=>exact .shared _ _ _
theorem crow_le {kq rq:Int} {z:CL} (hz:CLok z):∀ (i j:Nat) row' c',([[.int .i64 kq,.int .i64 rq,.view 1 (brs z.ks) .shared,.view 1 (irs z.ws) .shared]]:List (List AV))[i]?=some row'→row'[j]?=some c'→∃ row c,[crow kq rq z][i]?=some row∧row[j]?=some c∧Le c c':=by
 intro i j row' c' h1 h2
 match i,h1 with
 | 0,h1 =>
  cases h1
  match j,h2 with
  | 0,h2=>cases h2; exact ⟨_,_,rfl,rfl,.refl _⟩
  | 1,h2=>cases h2; exact ⟨_,_,rfl,rfl,.refl _⟩
  | 2,h2=>cases h2; exact ⟨_,_,rfl,rfl,oslot_le fun h=>by rw [hz.n1 h]; rfl⟩
  | 3,h2=>cases h2; exact ⟨_,_,rfl,rfl,oslot_le fun h=>by rw [hz.n2 h]; rfl⟩
  | j + 4,h2=>simp at h2
 | i + 1,h1=>simp at h1
theorem cS_le {st:St} (hB:∀ t,st.tok t=false) {o:Nat} {kq rq:Int} {z:CL} {c:AObj}:StLe ((cS st o kq rq z).set o c) (st.set o c):=by
 refine ⟨fun p q h=>?_,fun t h=>?_,?_⟩
 ·show (if p=o then some c else (cS st o kq rq z).obj p)=some q
  have h:(if p=o then some c else st.obj p)=some q:=h
  by_cases e:p=o
  ·rw [if_pos e] at h ⊢; exact h
  ·rw [if_neg e] at h ⊢
   unfold cS
   rw [otok_obj,otok_obj]
   show (if p=o then _ else st.obj p)=some q
   rw [if_neg e]
   exact h
 ·exact absurd (show st.tok t=true from h) (by rw [hB]; simp)
 ·show st.glob=(cS st o kq rq z).glob
  unfold cS
  cases z.o1 <;> cases z.o2 <;> rfl

set_option maxHeartbeats 16000000 in
theorem EvaluateTexts_ok (a b:Dt) (ha:∀ x ∈ a.words,w64 x) (hb:∀ x ∈ b.words,w64 x) (recs:List Rc) (hrb:∀ r ∈ recs,∀ f ∈ r.2,f.length≤67108864) (kd rd nn:Int) (hkd:(Lit.int .i64 kd).wf=true) (hrd:(Lit.int .i64 rd).wf=true) (hnn:(Lit.int .i64 nn).wf=true) (st:St)
  (hB:∀ t,st.tok t=false) (hT:(0,powRow) ∈ st.glob) :
  ACalls Tryz.prog 4 [dV a,dV b,.view 2 (rrs recs) .shared,.int .i64 kd,.int .i64 rd,.int .i64 nn] st (fun v _=>v=.bool true) (fun _ _=>False):=by
 refine ACalls.ofBody Tryz.func4 rfl Tryz.ntmps4 rfl ?_
 obtain ⟨ka,ra,kna,wa⟩:=a
 obtain ⟨kb,rb,knb,wb⟩:=b
 unfold dV
 simp only at ha hb ⊢
 have la1:=brs_len kna
 have la2:=irs_len wa
 have lb1:=brs_len knb
 have lb2:=irs_len wb
 have lr:=rrs_len recs
 by_cases s1:((irs wa).length:Int) > 30
 ·refine goD ?_
  exact AWP.ret (rets rfl (.refl _) (.refl _) rfl)
 by_cases s2:((irs wb).length:Int) > 30
 ·refine goD ?_
  exact AWP.ret (rets rfl (.refl _) (.refl _) rfl)
 by_cases s3:((brs kna).length:Int) > 30
 ·refine goD ?_
  exact AWP.ret (rets rfl (.refl _) (.refl _) rfl)
 by_cases s4:((brs knb).length:Int) > 30
 ·refine goD ?_
  exact AWP.ret (rets rfl (.refl _) (.refl _) rfl)
 by_cases s5:((rrs recs).length:Int) > 5
 ·refine goD ?_
  exact AWP.ret (rets rfl (.refl _) (.refl _) rfl)
 refine goD ?_
 refine bsh (cs:=[.str [120],.str [121]]) rfl rfl rfl rfl rfl ?_
 refine bds (cs:=[.str [80],.view 1 (nrow [[120],[121]]) .shared]) rfl rfl rfl rfl ?_
 refine bs (cs:=[.str [80],.view 1 (nrow [[120],[121]]) .shared]) rfl rfl rfl rfl rfl fun tk htk=>?_
 refine goE ?_
 refine apS (rows:=rrs [([80],[[120],[121]])]) (rows2:=rrs recs) htk rfl rfl rfl rfl (by rw [rrs_len,rrs_len]; simp only [List.length_cons,List.length_nil]; omega) (by rw [rrs_len,rrs_len]; simp only [List.length_cons,List.length_nil,maxLen]; omega) ?_
 refine goE ?_
 refine bds (cs:=[.int .i64 0,.int .i64 0,.view 2 (rrs (([80],[[120],[121]])::recs)) .shared,.view 0 [] .nil,.view 0 [] .nil]) rfl rfl rfl rfl ?_
 refine goD ?_
 refine cle rfl rfl (g_mod_ok kd 5 (by omega) (by omega) _) ?_
 refine goE ?_
 refine cle rfl rfl (g_mod_ok rd 3 (by omega) (by omega) _) ?_
 have k0:0≤rd % 3:=Int.emod_nonneg _ (by omega)
 have k1:rd % 3 < 3:=Int.emod_lt_of_pos _ (by omega)
 have k2:0≤kd % 5:=Int.emod_nonneg _ (by omega)
 have k3:kd % 5 < 5:=Int.emod_lt_of_pos _ (by omega)
 have k4:0≤nn % 10:=Int.emod_nonneg _ (by omega)
 have k5:nn % 10 < 10:=Int.emod_lt_of_pos _ (by omega)
 generalize hkq:kd % 5=kq at k2 k3
 generalize hrq:rd % 3=rq at k0 k1
 refine goE ?_
 refine Go.AM.sb rfl rfl rfl (by omega) ?_
 refine goE ?_
 refine bds (cs:=[.int .i64 kq,.int .i64 (rq - 1),.view 0 [] .nil,.view 0 [] .nil]) rfl rfl rfl rfl ?_
 refine al rfl rfl fun o ho=>?_
 refine so (rows':=[[.int .i64 kq,.int .i64 (rq - 1),.view 0 [] .nil,.view 0 [] .nil]]) rfl rfl rfl (St.obj_set _ _ _) rfl rfl rfl rfl rfl ?_
 rw [St.set_set]
 refine goD ?_
 refine AWP.loop (α:=CL) (fun z=>[(15,.int .i64 (z.i:Int)),(14,.cptr o 4 0 0),(13,.eptr 5 [[.int .i64 0,.int .i64 0,.view 2 (rrs (([80],[[120],[121]])::recs)) .shared,.view 0 [] .nil,.view 0 [] .nil]] 0 0),(7,.eptr 4 [[.int .i64 kb,.int .i64 rb,.view 1 (brs knb) .shared,.view 1 (irs wb) .shared]] 0 0),(6,.eptr 4 [[.int .i64 ka,.int .i64 ra,.view 1 (brs kna) .shared,.view 1 (irs wa) .shared]] 0 0),(5,.int .i64 nn),(3,.int .i64 kd)])
  (fun z=>cS st o kq (rq - 1) z) (fun z=>(z.i:Int)≤nn % 10∧CLok z) (fun z=>(nn % 10).toNat - z.i) ⟨0,[],[],none,none⟩ ⟨by omega,rfl,rfl,(fun x h=>by cases h),(fun _=>rfl),(fun _=>rfl),(fun t h=>by cases h)⟩ (tl7 rfl rfl rfl rfl rfl rfl rfl) (.refl _) ?_
 rintro z ⟨hi,hz⟩
 refine AWP.weaken (T':=[(15,.int .i64 (z.i:Int)),(14,.cptr o 4 0 0),(13,.eptr 5 [[.int .i64 0,.int .i64 0,.view 2 (rrs (([80],[[120],[121]])::recs)) .shared,.view 0 [] .nil,.view 0 [] .nil]] 0 0),(7,.eptr 4 [[.int .i64 kb,.int .i64 rb,.view 1 (brs knb) .shared,.view 1 (irs wb) .shared]] 0 0),(6,.eptr 4 [[.int .i64 ka,.int .i64 ra,.view 1 (brs kna) .shared,.view 1 (irs wa) .shared]] 0 0),(5,.int .i64 nn),(3,.int .i64 kd)]) (tl7 rfl rfl rfl rfl rfl rfl rfl) (.refl _) ?_
 have hob:=cS_obj st o kq (rq - 1) z
 refine goD ?_
 refine cle rfl rfl (g_mod_ok nn 10 (by omega) (by omega) _) ?_
 by_cases hlt:(z.i:Int) < nn % 10
 ·refine goD ?_
  refine cv (c:=(z.i:Int)) rfl rfl (wrap_u ⟨by omega,by omega⟩) ?_
  refine goE ?_
  refine shr_ (b:=z.i) rfl rfl rfl rfl ?_
  refine goE ?_
  refine btk (.inl rfl) rfl rfl rfl rfl ?_
  refine goE ?_
  have q1:=hz.l1
  have q2:=hz.l2
  refine apo (rows:=brs z.ks) (rows2:=brs [_]) (ot:=z.o1) rfl rfl rfl (fun h=>by rw [hz.n1 h]; rfl) (cS_t1 _ _ _ _ _) rfl (by rw [brs_len,brs_len]; simp only [List.length_cons,List.length_nil]; omega) (by rw [brs_len,brs_len]; simp only [List.length_cons,List.length_nil,maxLen]; omega) fun tk1 htk1=>?_
  rw [brs_snoc]
  generalize hks:z.ks++[_]=ks1
  refine goE ?_
  refine so (rows':=[[.int .i64 kq,.int .i64 (rq - 1),.view 1 (brs ks1) (.own tk1 4),oslot 1 (irs z.ws) 3 z.o2]]) rfl rfl rfl (ob_un hob _ _) rfl rfl rfl rfl rfl ?_
  refine goD ?_
  refine mlk (c:=IntKind.i64.wrap (nn * z.i)) rfl rfl rfl rfl ?_
  refine goE ?_
  refine apo (rows:=irs z.ws) (rows2:=irs [IntKind.i64.wrap (nn * z.i)]) (ot:=z.o2) rfl rfl rfl (fun h=>by rw [hz.n2 h]; rfl) (cS_t2' _ _ _ _ _ hz _ _) rfl (by rw [irs_len,irs_len]; simp only [List.length_cons,List.length_nil]; omega) (by rw [irs_len,irs_len]; simp only [List.length_cons,List.length_nil,maxLen]; omega) fun tk2 htk2=>?_
  rw [irs_snoc]
  refine goE ?_
  refine so (rows':=[crow kq (rq - 1) ⟨z.i + 1,ks1,z.ws++[IntKind.i64.wrap (nn * z.i)],some tk1,some tk2⟩]) rfl rfl rfl (ob_un (St.obj_set _ _ _) _ _) rfl rfl rfl rfl rfl ?_
  refine goD ?_
  have hne:tk1≠tk2:=fun e=>by
   rw [← e] at htk2
   exact absurd (show (if tk1=tk1 then true else _)=false from htk2) (by simp)
  exact ⟨⟨z.i + 1,ks1,z.ws++[IntKind.i64.wrap (nn * z.i)],some tk1,some tk2⟩,⟨show ((z.i + 1:Nat):Int)≤nn % 10 by omega,(by rw [← hks,List.length_append,q1]; rfl),(by show (z.ws++[_]).length=_; rw [List.length_append,q2]; rfl),(fun x hx=>by
   rcases List.mem_append.1 hx with h|h
   ·exact hz.w x h
   ·rw [List.mem_singleton.1 h]; exact wrap_w64 _),(fun h=>by cases h),(fun h=>by cases h),(fun t h1 h2=>hne ((Option.some.inj h1).trans (Option.some.inj h2).symm))⟩,(show (nn % 10).toNat - (z.i + 1) < (nn % 10).toNat - z.i by omega),(tl7 rfl rfl rfl rfl rfl rfl rfl),by unfold cS; exact StLe.round hB (.inl htk1) hz.ne⟩
 have hzi:(z.i:Int)=nn % 10:=by omega
 refine goD ?_
 refine AWP.exit (blk_hit ?_)
 refine AWP.relab hob (rows':=[[.int .i64 kq,.int .i64 (rq - 1),.view 1 (brs z.ks) .shared,.view 1 (irs z.ws) .shared]]) rfl (fun row h=>by rw [List.mem_singleton.1 h]; rfl) (fun row h c hc=>by
  rw [List.mem_singleton.1 h] at hc
  simp only [List.mem_cons,List.not_mem_nil,or_false] at hc
  rcases hc with rfl|rfl|rfl|rfl <;> rfl) (crow_le hz) ?_
 refine AWP.weaken (.refl _) (cS_le hB) ?_
 refine goC ?_
 refine rg ?_
 refine AOps.fz 14 rfl ho ?_
 refine le rfl rfl rfl rfl ?_
 refine al rfl rfl fun o2 ho2=>?_
 refine so (rows':=[[.int .i64 ka,.int .i64 ra,.view 1 (brs kna) .shared,.view 1 (irs wa) .shared]]) rfl rfl rfl (St.obj_set _ _ _) rfl rfl rfl rfl rfl ?_
 rw [St.set_set]
 refine nl ?_
 refine cut (α:=List Int) (fun ew=>[(16,.cptr o2 4 0 0),(14,.eptr 4 [[.int .i64 kq,.int .i64 (rq - 1),.view 1 (brs z.ks) .shared,.view 1 (irs z.ws) .shared]] 0 0),(13,.eptr 5 [[.int .i64 0,.int .i64 0,.view 2 (rrs (([80],[[120],[121]])::recs)) .shared,.view 0 [] .nil,.view 0 [] .nil]] 0 0),(7,.eptr 4 [[.int .i64 kb,.int .i64 rb,.view 1 (brs knb) .shared,.view 1 (irs wb) .shared]] 0 0),(6,.eptr 4 [[.int .i64 ka,.int .i64 ra,.view 1 (brs kna) .shared,.view 1 (irs wa) .shared]] 0 0)])
  (fun ew=>st.set o2 (.cells 49 4 [[.int .i64 ka,.int .i64 ra,.view 1 (brs kna) .shared,.view 1 (irs ew) .shared]])) (fun ew=>ew.length=wa.length∧∀ x ∈ ew,w64 x) ?_ ?_
 ·by_cases hw0:wa.length=0
  ·refine goD ?_
   exact ⟨wa,⟨rfl,ha⟩,(tl5 rfl rfl rfl rfl rfl),.refl _⟩
  ·refine goD ?_
   refine bs0 rfl ?_
   refine goE ?_
   refine apfM (rows2:=irs wa) rfl rfl rfl (fun e=>hw0 (by rw [← la2,e]; rfl)) rfl (show (irs wa).length * 8≤140737488355328 by omega) (by simp only [la2,maxLen]; omega) fun o3 ho3=>?_
   have hne:o3≠o2:=St.new_ne ho3
   refine goE ?_
   refine so (rows':=[[.int .i64 ka,.int .i64 ra,.view 1 (brs kna) .shared,.msl o3 1 0 (irs wa).length]]) rfl rfl rfl (St.obj_under hne _ _) rfl rfl rfl rfl rfl ?_
   rw [St.set_inner hne]
   have hlp:0 < (irs wa).length:=by omega
   obtain ⟨j,hj⟩:∃ j:Nat,nn % ((irs wa).length:Int)=(j:Int):=⟨(nn % ((irs wa).length:Int)).toNat,by have:=Int.emod_nonneg nn (b:=((irs wa).length:Int)) (by omega); omega⟩
   have hjl:j < (irs wa).length:=by have:=Int.emod_lt_of_pos nn (b:=((irs wa).length:Int)) (by omega); omega
   have hmod:∀ st,ACalls Tryz.prog 6 [.int .i64 nn,.int .i64 ((irs wa).length:Int)] st (fun v st'=>v=.int .i64 (j:Int)∧st'=st) (fun _ _=>False):=fun st=>by rw [← hj]; exact g_mod_ok _ _ (by omega) (by omega) st
   refine goD ?_
   refine AWP.any rfl ?_
   apply AAny.segQ (k':=8) (hok:=by decide +kernel)
   have hO2:=St.obj_under (st:=st) hne (.cells 49 4 [[.int .i64 ka,.int .i64 ra,.view 1 (brs kna) .shared,.msl o3 1 0 (irs wa).length]]) (.cells 3 (0 + 1) (irs wa))
   repeat (first|apply dsY (hi:=rfl) (hs:=rfl)|apply dqY (hi:=rfl) (hd:=rfl) (hw:=rfl) (h:=fun _ _=>ZD (z:=nz))|apply dqY (hi:=rfl) (hd:=rfl) (hw:=rfl) (h:=fun _ _=>ZF (z:=nz))|apply dqY (hi:=rfl) (hd:=rfl) (hw:=rfl) (h:=fun _ _=>ZC (z:=nz))|apply dqY (hi:=rfl) (hd:=rfl) (hw:=rfl) (h:=fun _ _=>ZJ (z:=nz))|apply dqY (hi:=rfl) (hd:=rfl) (hw:=rfl) (h:=fun _ _=>ZK (z:=nz))|apply dqY (hi:=rfl) (hd:=rfl) (hw:=rfl) (h:=fun _ _=>ZM (z:=nz))|apply dqY (hi:=rfl) (hd:=rfl) (hw:=rfl) (h:=fun _ _=>ZN (z:=nz))|apply dqY (hi:=rfl) (hd:=rfl) (hw:=rfl) (h:=fun _ _=>ZH (z:=nz))|apply dqY (hi:=rfl) (hd:=rfl) (hw:=rfl) (h:=fun _ _=>ZQ (z:=nz))|apply dqY (hi:=rfl) (hd:=rfl) (hw:=rfl) (h:=fun _ _=>ZO (z:=nz))|apply dqY (hi:=rfl) (hd:=rfl) (hw:=rfl) (h:=fun _ _=>YC (z:=nz)))
   apply dqY (hi:=rfl) (hd:=rfl) (hw:=rfl) (h:=fun s _=>cle rfl rfl (hmod s) nz)
   repeat (first|apply dsY (hi:=rfl) (hs:=rfl)|apply dqY (hi:=rfl) (hd:=rfl) (hw:=rfl) (h:=fun _ _=>ZD (z:=nz))|apply dqY (hi:=rfl) (hd:=rfl) (hw:=rfl) (h:=fun _ _=>ZF (z:=nz))|apply dqY (hi:=rfl) (hd:=rfl) (hw:=rfl) (h:=fun _ _=>ZC (z:=nz))|apply dqY (hi:=rfl) (hd:=rfl) (hw:=rfl) (h:=fun _ _=>ZJ (z:=nz))|apply dqY (hi:=rfl) (hd:=rfl) (hw:=rfl) (h:=fun _ _=>ZK (z:=nz))|apply dqY (hi:=rfl) (hd:=rfl) (hw:=rfl) (h:=fun _ _=>ZM (z:=nz))|apply dqY (hi:=rfl) (hd:=rfl) (hw:=rfl) (h:=fun _ _=>ZN (z:=nz))|apply dqY (hi:=rfl) (hd:=rfl) (hw:=rfl) (h:=fun _ _=>ZH (z:=nz))|apply dqY (hi:=rfl) (hd:=rfl) (hw:=rfl) (h:=fun _ _=>ZQ (z:=nz))|apply dqY (hi:=rfl) (hd:=rfl) (hw:=rfl) (h:=fun _ _=>ZO (z:=nz))|apply dqY (hi:=rfl) (hd:=rfl) (hw:=rfl) (h:=fun _ _=>YC (z:=nz)))
   refine dnQ ?_
   refine AAny.text rfl ?_
   obtain ⟨x,hx⟩:∃ x,wa[j]?=some x:=⟨_,List.getElem?_eq_getElem (by omega)⟩
   have hr0:(irs wa)[0 + j]?=some [.int .i64 x]:=by rw [Nat.zero_add]; exact irs_at hx
   refine goE ?_
   refine so (rows':=(irs wa).set (0 + j) [.int .i64 kd]) rfl rfl rfl (St.obj_set _ _ _) hr0 rfl rfl rfl rfl ?_
   rw [St.set_set,Nat.zero_add,irs_set]
   have hls:(irs (wa.set j kd)).length=wa.length:=by rw [irs_len,List.length_set]
   refine AOps.frzIn (i:=0) (j:=3) (fun e=>hne e.symm) (St.obj_under hne _ _) rfl rfl (St.obj_set _ _ _) (by omega) ?_
   have etk:List.take (irs wa).length (List.drop 0 (irs (wa.set j kd)))=irs (wa.set j kd):=by rw [List.drop_zero]; exact List.take_of_length_le (by omega)
   rw [etk]
   refine nl ⟨wa.set j kd,⟨by rw [List.length_set],fun y hy=>?_⟩,(tl5 rfl rfl rfl rfl rfl),StLe.froz hne (St.new_old ho3)⟩
   rcases List.mem_or_eq_of_mem_set hy with h|h
   ·exact ha y h
   ·rw [h]; exact wf64' hkd
 rintro ew ⟨hel,hew⟩
 refine goC ?_
 refine rg ?_
 refine AOps.fz 16 rfl ho2 ?_
 refine goE ?_
 refine bsh (cs:=dRow ⟨ka,ra,kna,wa⟩++dRow ⟨kb,rb,knb,wb⟩++dRow ⟨kq,rq - 1,z.ks,z.ws⟩++dRow ⟨ka,ra,kna,ew⟩) rfl rfl rfl rfl rfl ?_
 have hch:chunk (3 + 1) 4 (dRow ⟨ka,ra,kna,wa⟩++dRow ⟨kb,rb,knb,wb⟩++dRow ⟨kq,rq - 1,z.ks,z.ws⟩++dRow ⟨ka,ra,kna,ew⟩)=[⟨ka,ra,kna,wa⟩,⟨kb,rb,knb,wb⟩,⟨kq,rq - 1,z.ks,z.ws⟩,⟨ka,ra,kna,ew⟩].map dRow:=rfl
 rw [hch]
 have hall:∀ d ∈ ([⟨ka,ra,kna,wa⟩,⟨kb,rb,knb,wb⟩,⟨kq,rq - 1,z.ks,z.ws⟩,⟨ka,ra,kna,ew⟩]:List Dt),(∀ x ∈ d.words,w64 x)∧d.words.length≤100000∧d.known.length≤100000:=by
  have q1:=hz.l1
  have q2:=hz.l2
  intro d hd
  simp only [List.mem_cons,List.not_mem_nil,or_false] at hd
  rcases hd with rfl|rfl|rfl|rfl
  ·exact ⟨ha,(by show wa.length≤_; omega),(by show kna.length≤_; omega)⟩
  ·exact ⟨hb,(by show wb.length≤_; omega),(by show knb.length≤_; omega)⟩
  ·exact ⟨hz.w,(by show z.ws.length≤_; omega),(by show z.ks.length≤_; omega)⟩
  ·exact ⟨hew,(by show ew.length≤_; omega),(by show kna.length≤_; omega)⟩
 have hdl:([⟨ka,ra,kna,wa⟩,⟨kb,rb,knb,wb⟩,⟨kq,rq - 1,z.ks,z.ws⟩,⟨ka,ra,kna,ew⟩]:List Dt).length=4:=rfl
 generalize ([⟨ka,ra,kna,wa⟩,⟨kb,rb,knb,wb⟩,⟨kq,rq - 1,z.ks,z.ws⟩,⟨ka,ra,kna,ew⟩]:List Dt)=ds at *
 have hml:(ds.map dRow).length=4:=by rw [List.length_map,hdl]
 refine goD ?_
 have hrb':∀ r ∈ (([80],[[120],[121]])::recs:List Rc),∀ f ∈ r.2,f.length≤67108864:=by
  intro r hr f hf
  rcases List.mem_cons.1 hr with rfl|hr
  ·simp only [List.mem_cons,List.not_mem_nil,or_false] at hf
   rcases hf with rfl|rfl <;> decide
  ·exact hrb r hr f hf
 generalize (([80],[[120],[121]])::recs:List Rc)=recs1 at *
 refine AWP.loop (α:=Nat) (fun i=>[(109,.int .i64 (i:Int)),(108,.int .i64 ((ds.map dRow).length:Int)),(107,.view 4 (ds.map dRow) .shared),(14,.eptr 4 [[.int .i64 kq,.int .i64 (rq - 1),.view 1 (brs z.ks) .shared,.view 1 (irs z.ws) .shared]] 0 0),(13,.eptr 5 [[.int .i64 0,.int .i64 0,.view 2 (rrs recs1) .shared,.view 0 [] .nil,.view 0 [] .nil]] 0 0),(6,.eptr 4 [[.int .i64 ka,.int .i64 ra,.view 1 (brs kna) .shared,.view 1 (irs wa) .shared]] 0 0)])
  (fun _=>st) (fun i=>i≤4) (fun i=>4 - i) 0 (Nat.zero_le _) (tl6 rfl rfl rfl rfl rfl rfl) (.refl _) ?_
 intro i hi
 refine AWP.weaken (T':=[(109,.int .i64 (i:Int)),(108,.int .i64 ((ds.map dRow).length:Int)),(107,.view 4 (ds.map dRow) .shared),(14,.eptr 4 [[.int .i64 kq,.int .i64 (rq - 1),.view 1 (brs z.ks) .shared,.view 1 (irs z.ws) .shared]] 0 0),(13,.eptr 5 [[.int .i64 0,.int .i64 0,.view 2 (rrs recs1) .shared,.view 0 [] .nil,.view 0 [] .nil]] 0 0),(6,.eptr 4 [[.int .i64 ka,.int .i64 ra,.view 1 (brs kna) .shared,.view 1 (irs wa) .shared]] 0 0)]) (tl6 rfl rfl rfl rfl rfl rfl) (.refl _) ?_
 by_cases hlt:i < 4
 ·obtain ⟨d,hd⟩:∃ x,ds[i]?=some x:=⟨_,List.getElem?_eq_getElem (by omega)⟩
  obtain ⟨g1,g2,g3⟩:=hall d (List.mem_of_getElem? hd)
  have hrow:(ds.map dRow)[i]?=some (dRow d):=by rw [List.getElem?_map,hd]; rfl
  obtain ⟨dk,dr,dkn,dw⟩:=d
  have hir:i < (ds.map dRow).length:=by omega
  refine goD ?_
  obtain ⟨tx,htx⟩:∃ tx,txt recs1 ⟨dk,dr,dkn,dw⟩=tx:=⟨_,rfl⟩
  obtain ⟨e1,he1⟩:∃ e,eqD ⟨ka,ra,kna,wa⟩ ⟨dk,dr,dkn,dw⟩=e:=⟨_,rfl⟩
  obtain ⟨e2,he2⟩:∃ e,eqD ⟨dk,dr,dkn,dw⟩ ⟨kq,rq - 1,z.ks,z.ws⟩=e:=⟨_,rfl⟩
  have T1:∀ s:St,st.glob=s.glob→ACalls Tryz.prog 10 [.agg [.int .i64 0,.int .i64 0,.view 2 (rrs recs1) .shared,.view 0 [] .nil,.view 0 [] .nil],dV ⟨dk,dr,dkn,dw⟩] s (fun v st'=>v=.str tx∧st'=s) (fun _ _=>False):=fun s h=>by
   rw [← htx]
   exact text_ok _ _ _ _ recs1 ⟨dk,dr,dkn,dw⟩ hrb' g1 g2 s (by rw [← h]; exact hT)
  have T2:∀ s:St,ACalls Tryz.prog 11 [.agg [.int .i64 0,.int .i64 0,.view 2 (rrs recs1) .shared,.view 0 [] .nil,.view 0 [] .nil],dV ⟨dk,dr,dkn,dw⟩] s (fun v st'=>v=.str tx∧st'=s) (fun _ _=>False):=fun s=>by
   rw [← htx]
   exact rtext_ok _ _ _ _ recs1 ⟨dk,dr,dkn,dw⟩ hrb' g1 g2 s
  have E1:∀ s:St,ACalls Tryz.prog 12 [dV ⟨ka,ra,kna,wa⟩,dV ⟨dk,dr,dkn,dw⟩] s (fun v st'=>v=.bool e1∧st'=s) (fun _ _=>False):=fun s=>by
   rw [← he1]
   exact equal_ok _ _ (show kna.length≤_ by omega) (show wa.length≤_ by omega) s
  have E2:∀ s:St,ACalls Tryz.prog 13 [dV ⟨ka,ra,kna,wa⟩,dV ⟨dk,dr,dkn,dw⟩] s (fun v st'=>v=.bool e1∧st'=s) (fun _ _=>False):=fun s=>by
   rw [← he1]
   exact requal_ok _ _ (show kna.length≤_ by omega) (show wa.length≤_ by omega) s
  have E3:∀ s:St,ACalls Tryz.prog 12 [dV ⟨dk,dr,dkn,dw⟩,dV ⟨kq,rq - 1,z.ks,z.ws⟩] s (fun v st'=>v=.bool e2∧st'=s) (fun _ _=>False):=fun s=>by
   rw [← he2]
   exact equal_ok _ _ g3 g2 s
  have E4:∀ s:St,ACalls Tryz.prog 13 [dV ⟨dk,dr,dkn,dw⟩,dV ⟨kq,rq - 1,z.ks,z.ws⟩] s (fun v st'=>v=.bool e2∧st'=s) (fun _ _=>False):=fun s=>by
   rw [← he2]
   exact requal_ok _ _ g3 g2 s
  have hs:¬ (tx≠tx):=fun h=>h rfl
  have hq1:(!(e1 == e1))=false:=by cases e1 <;> rfl
  have hq2:(!(e2 == e2))=false:=by cases e2 <;> rfl
  clear hB hall hrow
  refine AWP.draw rfl 25 25 (fun _ _=>False) rfl ?_
  refine goG ?_
  refine dq rfl rfl rfl (fun s h=>cle rfl rfl (T1 s h.glob) (nl ⟨_,rfl,rfl,rfl⟩)) ?_
  refine goG ?_
  refine dq rfl rfl rfl (fun s _=>cle rfl rfl (T2 s) (nl ⟨_,rfl,rfl,rfl⟩)) ?_
  refine goG ?_
  refine dq rfl rfl rfl (fun s _=>sm rfl (nl ⟨_,rfl,rfl,rfl⟩)) ?_
  refine goG ?_
  refine dq rfl rfl rfl (fun s _=>cle rfl rfl (E1 s) (nl ⟨_,rfl,rfl,rfl⟩)) ?_
  refine goG ?_
  refine dq rfl rfl rfl (fun s _=>cle rfl rfl (E2 s) (nl ⟨_,rfl,rfl,rfl⟩)) ?_
  refine goG ?_
  refine dq (v:=.bool false) rfl rfl rfl (fun s _=>neb rfl rfl rfl (nl ⟨_,rfl,congrArg AV.bool (by cases e1 <;> rfl),rfl⟩)) ?_
  refine goG ?_
  refine dq rfl rfl rfl (fun s _=>sm rfl (nl ⟨_,rfl,rfl,rfl⟩)) ?_
  refine goG ?_
  refine dq rfl rfl rfl (fun s _=>sm rfl (nl ⟨_,rfl,rfl,rfl⟩)) ?_
  refine goG ?_
  refine dq rfl rfl rfl (fun s _=>cle rfl rfl (E3 s) (nl ⟨_,rfl,rfl,rfl⟩)) ?_
  refine goG ?_
  refine dq rfl rfl rfl (fun s _=>cle rfl rfl (E4 s) (nl ⟨_,rfl,rfl,rfl⟩)) ?_
  refine goG ?_
  refine dq (v:=.bool false) rfl rfl rfl (fun s _=>neb rfl rfl rfl (nl ⟨_,rfl,congrArg AV.bool (by cases e2 <;> rfl),rfl⟩)) ?_
  refine goG ?_
  refine dq rfl rfl rfl (fun s _=>sm rfl (nl ⟨_,rfl,rfl,rfl⟩)) ?_
  refine goG ?_
  refine dn ⟨fun _=>?_,fun h=>absurd h (by decide)⟩
  refine goD ?_
  exact ⟨i + 1,by omega,by omega,(tl6 rfl rfl rfl rfl rfl rfl),.refl _⟩
 have hi4:i=4:=by omega
 subst hi4
 refine goD ?_
 refine AWP.exit (blk_hit ?_)
 refine goD ?_
 exact AWP.ret (rets rfl (.refl _) (.refl _) rfl)
end Go.Proofs
namespace Go.Proofs.YtnebahlonhfphaaGreatDoor
open Go.ChangeShapes Go.WideShapes Go.ChangeAt Go.RowKit Go.AM

def kindL:List TypeId:=[3,4,9,30,47,56,58,22,49,305,393]
theorem kinds7:∀ t ∈ kindL,Go.AM.kindOk Tryz.prog kindL t=true:=by
 intro t ht
 simp only [kindL,List.mem_cons,List.not_mem_nil,or_false] at ht
 rcases ht with rfl|rfl|rfl|rfl|rfl|rfl|rfl|rfl|rfl|rfl|rfl <;> kernel_rfl
theorem kinds64:∀ t ∈ kindL,∀ e,Program.underlying Tryz.prog t=some (.slice e)→Program.bytesOf Tryz.prog e≤64:=by
 intro t ht e he
 have h:(match Program.underlying Tryz.prog t with|some (.slice e)=>Nat.ble (Program.bytesOf Tryz.prog e) 64|_=>true)=true:=by
  simp only [kindL,List.mem_cons,List.not_mem_nil,or_false] at ht
  rcases ht with rfl|rfl|rfl|rfl|rfl|rfl|rfl|rfl|rfl|rfl|rfl <;> kernel_rfl
 rw [he] at h
 exact Nat.ble_le h
theorem pow_row:litRow (Rows.laid_internal_strconv_uint64pow10:DataW Unit)=some powRow:=by kernel_rfl
theorem tables7 {W:World} (h:laidMetH Tryz.prog laidAll W):∀ gi row,(gi,row) ∈ [(0,powRow)]→GlobAt (G0 W) W gi row:=by
 have h':laidMet Tryz.prog laidAll W:=h
 intro gi row hm
 simp only [List.mem_cons,List.not_mem_nil,or_false] at hm
 cases hm
 exact laid_row kinds7 h' (n := "internal/strconv.uint64pow10") (t := 393) (.tail _ (.tail _ (.head _))) pow_row (by kernel_rfl) (by kernel_rfl) (by decide) (by decide)

section
variable {H:Type} {S:List TypeId} {K:Nat}
mutual
theorem wb (hS:∀ t ∈ S,Go.AM.kindOk Tryz.prog S t=true) (hK:∀ t ∈ S,∀ e,Program.underlying Tryz.prog t=some (.slice e)→Program.bytesOf Tryz.prog e≤K) (h1:1≤K):(d:DataW H)→∀ t ∈ S,∀ x ∈ d.weights Tryz.prog t,x≤Rows.uptoBulk d * K
 | .lit l,t,ht,x,hx=>by
  cases l <;> simp only [DataW.weights,List.mem_singleton,List.not_mem_nil] at hx
  subst hx
  simp only [Rows.uptoBulk]
  exact Nat.le_trans (Nat.le_succ _) (Nat.le_mul_of_pos_right _ h1)
 | .nil,t,ht,x,hx=>by simp only [DataW.weights,List.not_mem_nil] at hx
 | .iface n d,t,ht,x,hx=>by simp only [DataW.weights,List.not_mem_nil] at hx
 | .held n,t,ht,x,hx=>by simp only [DataW.weights,List.not_mem_nil] at hx
 | .ptr d,t,ht,x,hx=>by
  have hk:=hS t ht
  unfold DataW.weights at hx
  unfold Go.AM.kindOk at hk
  cases hu:Program.underlying Tryz.prog t with
  | none=>rw [hu] at hx; cases hx
  | some td =>
   rw [hu] at hx hk
   cases td <;> simp only [List.not_mem_nil,Bool.false_eq_true] at hx hk
 | .map es,t,ht,x,hx=>by
  have hk:=hS t ht
  unfold DataW.weights at hx
  unfold Go.AM.kindOk at hk
  cases hu:Program.underlying Tryz.prog t with
  | none=>rw [hu] at hx; cases hx
  | some td =>
   rw [hu] at hx hk
   cases td <;> simp only [List.not_mem_nil,Bool.false_eq_true] at hx hk
 | .slice elems spare,t,ht,x,hx=>by
  have hk:=hS t ht
  unfold DataW.weights at hx
  unfold Go.AM.kindOk at hk
  cases hu:Program.underlying Tryz.prog t with
  | none=>rw [hu] at hx; cases hx
  | some td =>
   rw [hu] at hx hk
   cases td <;> simp only [List.not_mem_nil,Bool.false_eq_true] at hx hk
   rename_i e
   simp only [Bool.and_eq_true] at hk
   obtain ⟨⟨_,heS⟩,_⟩:=hk
   have heS':e ∈ S:=by simpa using heS
   have hb:=hK t ht e hu
   have a1:=wbLen elems
   have a2:=wbLen spare
   have a3:(Rows.uptoBulkAll elems + Rows.uptoBulkAll spare) * K≤Rows.uptoBulk (DataW.slice elems spare) * K:=Nat.mul_le_mul_right _ (by simp only [Rows.uptoBulk]; omega)
   have a4:elems.length + spare.length≤Rows.uptoBulkAll elems + Rows.uptoBulkAll spare:=by omega
   rcases List.mem_cons.1 hx with hx|hx
   ·rw [hx]; exact Nat.le_trans (Nat.mul_le_mul a4 hb) a3
   ·refine Nat.le_trans ?_ a3
    rw [Nat.add_mul]
    rcases List.mem_append.1 hx with hx|hx
    ·exact Nat.le_trans (wbAll hS hK h1 elems e heS' x hx) (Nat.le_add_right _ _)
    ·exact Nat.le_trans (wbAll hS hK h1 spare e heS' x hx) (Nat.le_add_left _ _)
 | .agg parts,t,ht,x,hx=>by
  have hk:=hS t ht
  unfold DataW.weights at hx
  unfold Go.AM.kindOk at hk
  cases hu:Program.underlying Tryz.prog t with
  | none=>rw [hu] at hx; cases hx
  | some td =>
   have a3:Rows.uptoBulkAll parts * K≤Rows.uptoBulk (DataW.agg parts) * K:=Nat.mul_le_mul_right _ (by simp only [Rows.uptoBulk]; omega)
   rw [hu] at hx hk
   cases td <;> simp only [List.not_mem_nil,Bool.false_eq_true] at hx hk
   case array m e =>
    simp only [Bool.and_eq_true] at hk
    obtain ⟨_,heS⟩:=hk
    have heS':e ∈ S:=by simpa using heS
    exact Nat.le_trans (wbAll hS hK h1 parts e heS' x hx) a3
   case struct fs =>
    simp only [Bool.and_eq_true] at hk
    obtain ⟨_,hall⟩:=hk
    refine Nat.le_trans (wbEach hS hK h1 parts (fs.toList.map (·.type)) (fun u hu=>?_) x hx) a3
    obtain ⟨f,hf,rfl⟩:=List.mem_map.1 hu
    have:=List.all_eq_true.1 hall f hf
    simpa using this
theorem wbAll (hS:∀ t ∈ S,Go.AM.kindOk Tryz.prog S t=true) (hK:∀ t ∈ S,∀ e,Program.underlying Tryz.prog t=some (.slice e)→Program.bytesOf Tryz.prog e≤K) (h1:1≤K):(l:List (DataW H))→∀ e ∈ S,∀ x ∈ DataW.weightsAll Tryz.prog e l,x≤Rows.uptoBulkAll l * K
 | [],e,he,x,hx=>by simp only [DataW.weightsAll,List.not_mem_nil] at hx
 | d::r,e,he,x,hx=>by
  unfold DataW.weightsAll at hx
  simp only [Rows.uptoBulkAll]
  rw [Nat.add_mul]
  rcases List.mem_append.1 hx with hx|hx
  ·exact Nat.le_trans (wb hS hK h1 d e he x hx) (Nat.le_add_right _ _)
  ·exact Nat.le_trans (wbAll hS hK h1 r e he x hx) (Nat.le_add_left _ _)
theorem wbEach (hS:∀ t ∈ S,Go.AM.kindOk Tryz.prog S t=true) (hK:∀ t ∈ S,∀ e,Program.underlying Tryz.prog t=some (.slice e)→Program.bytesOf Tryz.prog e≤K) (h1:1≤K):(l:List (DataW H))→∀ ts:List TypeId,(∀ t ∈ ts,t ∈ S)→∀ x ∈ DataW.weightsEach Tryz.prog ts l,x≤Rows.uptoBulkAll l * K
 | [],[],_,x,hx=>by simp only [DataW.weightsEach,List.not_mem_nil] at hx
 | [],_::_,_,x,hx=>by simp only [DataW.weightsEach,List.not_mem_nil] at hx
 | _::_,[],_,x,hx=>by simp only [DataW.weightsEach,List.not_mem_nil] at hx
 | d::r,t::ts,hts,x,hx=>by
  unfold DataW.weightsEach at hx
  simp only [Rows.uptoBulkAll]
  rw [Nat.add_mul]
  rcases List.mem_append.1 hx with hx|hx
  ·exact Nat.le_trans (wb hS hK h1 d t (hts t (List.mem_cons_self ..)) x hx) (Nat.le_add_right _ _)
  ·exact Nat.le_trans (wbEach hS hK h1 r ts (fun u hu=>hts u (List.mem_cons_of_mem _ hu)) x hx) (Nat.le_add_left _ _)
theorem wbOne:(d:DataW H)→1≤Rows.uptoBulk d
 | .lit l=>by cases l <;> simp [Rows.uptoBulk]
 | .nil=>by simp [Rows.uptoBulk]
 | .iface n d=>by simp [Rows.uptoBulk]
 | .held n=>by simp [Rows.uptoBulk]
 | .ptr d=>by simp [Rows.uptoBulk]
 | .map es=>by simp [Rows.uptoBulk]
 | .slice elems spare=>by simp [Rows.uptoBulk]
 | .agg parts=>by simp [Rows.uptoBulk]
theorem wbLen:(l:List (DataW H))→l.length≤Rows.uptoBulkAll l
 | []=>by simp [Rows.uptoBulkAll]
 | d::r=>by
  have h1:=wbOne d
  have h2:=wbLen r
  simp only [Rows.uptoBulkAll,List.length_cons]
  omega
end
end
theorem small7 {H:Type} {ts:List TypeId} {l:List (DataW H)} (hts:∀ t ∈ ts,t ∈ kindL) (hk:Rows.uptoSmall H l=true):(DataW.weightsEach Tryz.prog ts l).all (·≤67108864)=true:=by
 have h:Rows.uptoBulkAll l≤1048576:=of_decide_eq_true hk
 rw [List.all_eq_true]
 intro x hx
 have h2:=wbEach kinds7 kinds64 (by decide) l ts hts x hx
 exact decide_eq_true (by omega)
end Go.Proofs.YtnebahlonhfphaaGreatDoor
