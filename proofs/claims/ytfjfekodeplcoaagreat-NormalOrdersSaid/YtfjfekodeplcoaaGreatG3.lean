/- Lemmas for the statements of this seat. -/
import Derived.Test.YtfjfekodeplcoaaGreatG2
import Derived.Test.YtfjfekodeplcoaaGreatP2
import Derived.Test.YtfjfekodeplcoaaGreatP3
import Derived.Test.YtfjfekodeplcoaaGreatG0
import Derived.Test.YtfjfekodeplcoaaGreatWSymM
import Derived.Shelf.SlSortCmp.InsertionK
import Derived.Sort.AssemblyPlain
namespace Go.Proofs.YtfjfekodeplcoaaGreat.Sym
open Go
set_option linter.unusedVariables false
def tw(GQ:Bool)(to:Int→Int)(j:ag):ag :=
 if j.kind=0∧GQ=true then ⟨j.name,j.kind,to j.b,j.fD,to j.a,j.bq,j.fj⟩
 else if j.kind=1∧GQ=true then ⟨j.name,j.kind,to j.a,j.bq,to j.b,j.fj,j.fD⟩
 else ⟨j.name,j.kind,to j.a,j.bq,to j.b,j.fD,j.fj⟩
def td(to:Int→Int)(d:af):af:=⟨d.name,to d.body⟩
theorem BI(GQ:Bool)(to:Int→Int)(j:ag):(tw GQ to j).name=j.name:=by
 unfold tw;split
 ·rfl
 ·split<;>rfl
theorem Gi{l:aj}(hl:Ok l){f:ab}{t t':List ab}(hb:l.aa=f::t)(ht:t'.Perm t)(to:Int→Int)(h0:to 0=0)
  (OR:∀i b,nth l.aa i=some b→i≠0→to i≠0∧nth (f::t') (to i)=some b) (GQ:Bool) {js:List ag} {ds:List af}
  (hj:js.Perm (l.an.map (tw GQ to))) (hd:ds.Perm (l.ak.map (td to))) :
  Ok ⟨l.name,f::t',js,ds⟩∧bY ⟨l.name,f::t',js,ds⟩=bY l:=by
 generalize hm:(⟨l.name,f::t',js,ds⟩:aj)=m
 have mb:m.aa=f::t':=by rw[←hm]
 have pb:m.aa.Perm l.aa:=by rw[mb,hb];exact ht.cons f
 have DA:∀{i b},nth l.aa i=some b→nth m.aa (to i)=some b:=fun {i b} h=>by
  rw[mb]
  by_cases h1:i=0
  ·subst h1;rw[h0]
   rw[hb] at h;exact h
  ·exact(OR i b h h1).2
 have OS:∀{i b},nth l.aa i=some b→gO m (to i)=gO l i:=fun {i b} h=>by
  by_cases h1:i=0
  ·subst h1;rw[h0];rfl
  ·unfold gO
   rw[if_neg (OR i b h h1).1,if_neg h1,h,DA h]
   show 1+(rk ab.name (m.aa.drop 1) b.name:Int)=1+(rk ab.name (l.aa.drop 1) b.name:Int)
   rw[mb,hb]
   show 1+(rk ab.name t' b.name:Int)=1+(rk ab.name t b.name:Int)
   rw[sh ht]
 have GB:∀{i b} k,nth l.aa i=some b→nJ m (to i) k=nJ l i k:=fun {i b} k h=>by
  unfold nJ;rw[DA h,h]
 have MZ:∀{i k b c},nth l.aa i=some b→nth l.aa k=some c→to i=to k→i=k:=fun {i k b c} h1 h2 h=>by
  refine qQ hl.bn h1 h2 ?_
  rw[←OS h1,←OS h2,h]
 have SZ:∀{j},Jp l j→jN m (tw GQ to j)=jN l j∧Jp m (tw GQ to j):=fun {j} h=>by
  obtain⟨A,B,P,Q,hA,hB,iO,hP,hQ,h⟩:=h
  have eA:=OS hA
  have eB:=OS hB
  have NG:gO l j.a≠gO l j.b:=fun e=>iO (qQ hl.bn hA hB e)
  have nr:to j.a≠to j.b:=fun e=>iO (MZ hA hB e)
  have UJ:to j.b≠to j.a:=fun e=>iO (MZ hB hA e).symm
  rcases h with ⟨h1,h2⟩|⟨h1,R,hR,h2⟩
  ·have hk:j.kind≠1:=by omega
   cases GQ with
   |true =>
    have e:tw true to j=⟨j.name,j.kind,to j.b,j.fD,to j.a,j.bq,j.fj⟩:=by unfold tw;rw[if_pos ⟨h1,rfl⟩]
    rw[e]
    refine⟨?_,B,A,Q,P,DA hB,DA hA,UJ,hQ,hP,.inl ⟨h1,h2⟩⟩
    unfold jN uM
    simp only[eA,eB,GB _ hA,GB _ hB]
    rw[if_neg hk]
    by_cases cN:gO l j.b<gO l j.a
    ·rw[if_neg (by omega),if_neg hk,if_pos cN]
    ·rw[if_pos (by omega),if_neg hk,if_neg cN]
   |false =>
    have e:tw false to j=⟨j.name,j.kind,to j.a,j.bq,to j.b,j.fD,j.fj⟩:=by unfold tw;rw[if_neg (by simp),if_neg (by simp)]
    rw[e]
    refine⟨?_,A,B,P,Q,DA hA,DA hB,nr,hP,hQ,.inl ⟨h1,h2⟩⟩
    unfold jN uM
    simp only[eA,eB,GB _ hA,GB _ hB]
  ·have hk:j.kind≠0:=by omega
   cases GQ with
   |true =>
    have e:tw true to j=⟨j.name,j.kind,to j.a,j.bq,to j.b,j.fj,j.fD⟩:=by unfold tw;rw[if_neg (fun h=>hk h.1),if_pos ⟨h1,rfl⟩]
    rw[e]
    refine⟨?_,A,B,P,R,DA hA,DA hB,nr,hP,hR,.inr ⟨h1,Q,hQ,fun ⟨e1,e2⟩=>h2 ⟨kd.2 (kd.1 e1).symm,kd.2 (kd.1 e2).symm⟩⟩⟩
    unfold jN
    simp only[eA,eB,GB _ hA,GB _ hB]
    rw[if_pos h1,if_pos h1,Int.min_comm,Int.max_comm]
   |false =>
    have e:tw false to j=⟨j.name,j.kind,to j.a,j.bq,to j.b,j.fD,j.fj⟩:=by unfold tw;rw[if_neg (by simp),if_neg (by simp)]
    rw[e]
    refine⟨?_,A,B,P,Q,DA hA,DA hB,nr,hP,hQ,.inr ⟨h1,R,hR,h2⟩⟩
    unfold jN
    simp only[eA,eB,GB _ hA,GB _ hB]
    rw[if_pos h1,if_pos h1]
 have UK:(l.an.map (tw GQ to)).map ag.name=l.an.map ag.name:=by
  rw[List.map_map];exact List.map_congr_left fun j _=>BI GQ to j
 have UL:(l.ak.map (td to)).map af.name=l.ak.map af.name:=by rw[List.map_map];rfl
 have mj:m.an=js:=by rw[←hm]
 have md:m.ak=ds:=by rw[←hm]
 have mn:m.name=l.name:=by rw[←hm]
 have NH:(js.map ag.name).Nodup:=(hj.map ag.name).nodup_iff.2 (by rw[UK];exact hl.jn)
 have NI:(ds.map af.name).Nodup:=(hd.map af.name).nodup_iff.2 (by rw[UL];exact hl.dn)
 refine⟨{
  name:=by rw[mn];exact hl.name
  pos:=by rw[pb.length_eq];exact hl.pos
  len:=by rw[pb.length_eq];exact hl.len
  aa:=fun b hb=>hl.aa b (pb.mem_iff.1 hb)
  bn:=(pb.map ab.name).nodup_iff.2 hl.bn
  jl:=by rw[mj,hj.length_eq,List.length_map];exact hl.jl
  an:=fun j h=>by
   rw[mj] at h
   obtain⟨i,hi,rfl⟩:=List.mem_map.1 (hj.mem_iff.1 h)
   exact⟨by rw[BI];exact(hl.an i hi).1,(SZ (hl.an i hi).2).2⟩
  jn:=by rw[mj];exact NH
  dl:=by rw[md,hd.length_eq,List.length_map];exact hl.dl
  ak:=fun d h=>by
   rw[md] at h
   obtain⟨i,hi,rfl⟩:=List.mem_map.1 (hd.mem_iff.1 h)
   obtain⟨g1,⟨b,g2⟩,g3⟩:=hl.ak i hi
   exact⟨g1,⟨b,DA g2⟩,(OR _ b g2 g3).1⟩
  dn:=by rw[md];exact NI
  db:=by
   rw[md]
   refine(hd.map af.body).nodup_iff.2 ?_
   rw[List.map_map]
   refine List.pairwise_map.2 ((List.pairwise_map.1 hl.db).imp_of_mem fun {a b} ha hb iO => ?_)
   obtain⟨_,⟨x,h2⟩,_⟩:=hl.ak a ha
   obtain⟨_,⟨y,h4⟩,_⟩:=hl.ak b hb
   exact fun e=>iO (MZ h2 h4 e) },?_⟩
 have e1:eJ m.aa=eJ l.aa:=by
  have hn:=hl.bn
  rw[hb] at hn
  rw[mb,hb]
  show nb f::b8 ab.name (t'.map nb)=nb f::b8 ab.name (t.map nb)
  rw[rP (xs:=t'.map nb) (ys:=t.map nb) ((ht.map nb).map ab.name |>.nodup_iff.2 (by rw[kF];exact(List.nodup_cons.1 hn).2)) (ht.map nb)]
 have e2:b8 ag.name (m.an.map (jN m))=b8 ag.name (l.an.map (jN l)):=by
  rw[mj]
  have p:(js.map (jN m)).Perm (l.an.map (jN l)):=by
   refine(hj.map (jN m)).trans (.of_eq ?_)
   rw[List.map_map]
   exact List.map_congr_left fun j h=>(SZ (hl.an j h).2).1
  exact rP (by rw[kD];exact NH) p
 have e3:b8 af.name (m.ak.map (dN m))=b8 af.name (l.ak.map (dN l)):=by
  rw[md]
  have p:(ds.map (dN m)).Perm (l.ak.map (dN l)):=by
   refine(hd.map (dN m)).trans (.of_eq ?_)
   rw[List.map_map]
   refine List.map_congr_left fun d h => ?_
   obtain⟨_,⟨b,g⟩,_⟩:=hl.ak d h
   show af.mk d.name (gO m (to d.body))=⟨d.name,gO l d.body⟩
   rw[OS g]
  exact rP (by rw[kE];exact NI) p
 unfold bY
 rw[mn,e1,e2,e3]
def rU(bs:List ab)(k:Nat)(nm:ByteArray):List ab:=match bs[k]? with
 |some b=>bs.set k ⟨nm,b.points⟩
 |none=>bs
def jD(l:aj)(k:Nat)(nm:ByteArray):aj:=⟨l.name,rU l.aa k nm,l.an,l.ak⟩
theorem jF{bs:List ab}{k:Nat}{b:ab}(h:bs[k]? = some b)(nm:ByteArray):rU bs k nm=bs.set k ⟨nm,b.points⟩:=by unfold rU;rw[h]
theorem yT{bs:List ab}{k:Nat}{b:ab}(h:bs[k]? = some b)(nm:ByteArray):(rU bs k nm)[k]? = some ⟨nm,b.points⟩:=by
 rw[jF h,List.getElem?_set_self (List.getElem?_eq_some_iff.1 h).1]
theorem Gj{bs:List ab}{k:Nat}{b:ab}(h:bs[k]? = some b)(nm:ByteArray):rU (rU bs k nm) k b.name=bs:=by
 rw[jF (yT h nm),jF h,List.set_set]
 apply List.ext_getElem?
 intro i
 rw[List.getElem?_set]
 split
 ·rename_i e;subst e
  rw[h,if_pos (List.getElem?_eq_some_iff.1 h).1]
 ·rfl
theorem Gk{l:aj}{k:Nat}{b:ab}(h:l.aa[k]? = some b)(nm:ByteArray):jD (jD l k nm) k b.name=l:=by
 unfold jD;rw[Gj h]
theorem Gl{l:aj}{k:Nat}{b:ab}(h:l.aa[k]? = some b):jD l k b.name=l:=by
 have:rU l.aa k b.name=l.aa:=by
  rw[jF h]
  apply List.ext_getElem?
  intro i
  rw[List.getElem?_set]
  split
  ·rename_i e;subst e
   rw[h,if_pos (List.getElem?_eq_some_iff.1 h).1]
  ·rfl
 unfold jD;rw[this]
theorem AA{l:aj}(hl:Ok l){k:Nat}{b:ab}(h:l.aa[k]? = some b){nm:ByteArray} : bY l=bY (jD l k nm)↔nm=b.name:=by
 constructor
 ·intro e
  have e1:eJ l.aa=eJ (rU l.aa k nm):=congrArg aj.aa e
  have p:(l.aa.map ab.name).Perm ((rU l.aa k nm).map ab.name):=by
   have p1:=(kG l.aa).map ab.name
   have p2:=(kG (rU l.aa k nm)).map ab.name
   rw[kF] at p1 p2
   rw[←e1] at p2
   exact p1.symm.trans p2
  have m1:b.name∈(rU l.aa k nm).map ab.name:=p.mem_iff.1 (List.mem_map_of_mem (List.mem_of_getElem? h))
  obtain⟨c,hc,ec⟩:=List.mem_map.1 m1
  obtain⟨i,gi⟩:=List.mem_iff_getElem?.1 hc
  by_cases hik:k=i
  ·subst hik
   rw[yT h nm] at gi
   injection gi with gi
   rw[←gi] at ec;exact ec
  ·rw[jF h,List.getElem?_set_ne hik] at gi
   exact absurd (sq hl.bn h gi ec.symm) hik
 ·rintro rfl
  rw[Gl h]
open Path
abbrev tL(s:ByteArray):List Nat:=s.data.toList.map UInt8.toNat
theorem xo(s:ByteArray):(tL s).length=s.size:=by rw[List.length_map,Array.length_toList];rfl
theorem BJ{s:ByteArray}{i:Nat}(h:i<s.size):∃b:Nat,(s.data.toList[i]?).map (fun b=>(b.toNat:Int))=some (b:Int)∧(tL s).drop i=b::(tL s).drop (i+1):=by
 have hl:i<s.data.toList.length:=by rw[Array.length_toList];exact h
 refine⟨s.data.toList[i].toNat,by rw[List.getElem?_eq_getElem hl];rfl,?_⟩
 rw[List.drop_eq_getElem_cons (by rw[xo];exact h),List.getElem_map]
theorem Fw{s:ByteArray}{i:Nat}(h:s.size≤i):(tL s).drop i=[]:=List.drop_eq_nil_of_le (by rw[xo];exact h)
theorem yU(b:Nat)(t:List Nat):ng (b::t)=bif gL b then 1+(t.takeWhile lV).length else 0:=rfl
namespace pA
theorem yV(c:Nat):Cp 136 [.int .u8 (c:Int)] (vB (gL c)):=by
 by_cases h1:97≤c
 ·by_cases h2:c≤122
  ·rw[show gL c=true by simp[gL];omega];exact ly.e0 c h1 h2
  ·rw[show gL c=decide ((c:Int)≤90) by rw[Bool.eq_iff_iff];simp[gL];omega];exact ly.e1 c h1 (by omega) (by omega)
 ·by_cases h3:65≤c
  ·rw[show gL c=decide ((c:Int)≤90) by rw[Bool.eq_iff_iff];simp[gL];omega];exact ly.e3 c (by omega) h3
  ·rw[show gL c=false by simp[gL];omega];exact ly.e4 c (by omega) (by omega)
theorem digit(c:Nat):Cp 155 [.int .u8 (c:Int)] (vB (decide (48≤c∧c≤57))):=by
 by_cases h1:48≤c
 ·rw[show decide (48≤c∧c≤57)=decide ((c:Int)≤57) by rw[Bool.eq_iff_iff];simp;omega];exact rM.e0 c h1
 ·rw[show decide (48≤c∧c≤57)=false by simp;omega];exact rM.e1 c (by omega)
theorem part(c:Nat):Cp 137 [.int .u8 (c:Int)] (vB (lV c)):=by
 unfold lV
 cases h1:gL c with
 |true=>exact qI.e0 c _ (yV c) h1
 |false =>
  cases h2:decide (48≤c∧c≤57) with
  |true=>exact qI.e1 c _ _ (yV c) h1 (digit c) h2
  |false =>
   rw[Bool.false_or,Bool.false_or,show decide (c=95)=((c:Int)==95) by rw[Bool.eq_iff_iff];simp;omega]
   exact qI.e2 c _ _ (yV c) h1 (digit c) h2
theorem loop(s:ByteArray)(hs:s.size<9223372036854775808):∀(n i:Nat),s.size-i≤n→i≤s.size→jc.ar s i (vI ((i+(((tL s).drop i).takeWhile lV).length:Nat):Int))
 |n,i,hn,hi=>by
  by_cases h:i<s.size
  ·obtain⟨b,h1,h2⟩:=BJ h
   rw[h2]
   cases hp:lV b with
   |true =>
    rw[List.takeWhile_cons_of_pos hp]
    cases n with
    |zero=>omega
    |succ n =>
     have:=loop s hs n (i+1) (by omega) (by omega)
     rw[show i+(b::((tL s).drop (i+1)).takeWhile lV).length=i+1+(((tL s).drop (i+1)).takeWhile lV).length by rw[List.length_cons];omega]
     exact jc.dC s i b _ h h1 (part b) hp (by omega) this
   |false =>
    rw[List.takeWhile_cons_of_neg (by rw[hp];simp)]
    exact jc.dD s i b _ h h1 (part b) hp
  ·rw[Fw (by omega)]
   exact jc.kM s i (by omega)
theorem AB(s:ByteArray):s=ByteArray.mk #[]↔s.size=0:=by
 constructor
 ·rintro rfl;rfl
 ·intro h
  have:s.data.size=0:=h
  exact ByteArray.ext (Array.eq_empty_of_size_eq_zero this)
theorem word(s:ByteArray)(hs:s.size<9223372036854775808):Cp 96 [.str s] (vI (ng (tL s):Int)):=by
 by_cases h0:s.size=0
 ·have e:tL s=[]:=List.length_eq_zero_iff.1 (by rw[xo];exact h0)
  rw[e]
  exact jc.e0 s ((AB s).2 h0)
 ·obtain⟨b,h1,h2⟩:=BJ (s:=s) (i:=0) (by omega)
  have h2:tL s=b::(tL s).drop 1:=h2
  have iN:s≠ByteArray.mk #[]:=fun e=>h0 ((AB s).1 e)
  rw[h2]
  cases hp:gL b with
  |true =>
   show fK a7 _ _ (vI ((bif gL b then 1+(((tL s).drop 1).takeWhile lV).length else 0:Nat):Int))
   rw[hp]
   exact jc.e2 s b _ iN h1 (yV b) hp (loop s hs s.size 1 (by omega) (by omega))
  |false =>
   show fK a7 _ _ (vI ((bif gL b then 1+(((tL s).drop 1).takeWhile lV).length else 0:Nat):Int))
   rw[hp]
   exact jc.e1 s b _ iN h1 (yV b) hp
theorem Name(s:ByteArray)(hs:s.size<9223372036854775808):Cp 53 [.str s] (vB (dU s)):=by
 have e:dU s=decide (0<ng (tL s)∧ng (tL s)=s.size∧ng (tL s)≤24):=rfl
 have hw:=word s hs
 rw[e]
 generalize ng (tL s)=w at hw
 by_cases h1:0<(w:Int)
 ·by_cases h2:(w:Int)=(s.size:Int)
  ·rw[show decide (0<w∧w=s.size∧w≤24)=decide ((w:Int)≤24) by rw[Bool.eq_iff_iff,decide_eq_true_iff,decide_eq_true_iff];omega]
   exact qJ.e0 s _ hw h1 h2
  ·rw[show decide (0<w∧w=s.size∧w≤24)=false from decide_eq_false (by omega)]
   exact qJ.e1 s _ hw h1 h2
 ·rw[show decide (0<w∧w=s.size∧w≤24)=false from decide_eq_false (by omega)]
  exact qJ.e2 s _ hw (by omega)
end pA
namespace BK
theorem mI(c:Nat):Cp 122 [.int .u8 (c:Int)] (vB (gL c)):=by
 by_cases h1:65≤c
 ·by_cases h2:c≤90
  ·rw[show gL c=true by simp[gL];omega];exact ee.e0 c h1 h2
  ·by_cases h3:97≤c
   ·rw[show gL c=decide ((c:Int)≤122) by rw[Bool.eq_iff_iff];simp[gL];omega];exact ee.e1 c h1 (by omega) h3
   ·rw[show gL c=false by simp[gL];omega];exact ee.e2 c h1 (by omega) (by omega)
 ·rw[show gL c=false by simp[gL];omega];exact ee.e4 c (by omega) (by omega)
theorem isDigit(c:Nat):Cp 124 [.int .u8 (c:Int)] (vB (decide (48≤c∧c≤57))):=by
 by_cases h1:48≤c
 ·rw[show decide (48≤c∧c≤57)=decide ((c:Int)≤57) by rw[Bool.eq_iff_iff];simp;omega];exact iC.e0 c h1
 ·rw[show decide (48≤c∧c≤57)=false by simp;omega];exact iC.e1 c (by omega)
theorem loop(s:ByteArray)(hs:s.size<9223372036854775807):∀(n i:Nat),s.size-i≤n→i≤s.size→bU.ar s (i:Int) (vI ((i+(((tL s).drop i).takeWhile lV).length:Nat):Int))
 |n,i,hn,hi=>by
  by_cases h:i<s.size
  ·obtain⟨b,h1,h2⟩:=BJ h
   have ha:Cp 123 [.str s,vI (i:Int)] (.int .u8 (b:Int)):=gI.e0 s i i b (by omega) rfl h1
   rw[h2]
   cases hp:lV b with
   |true =>
    rw[List.takeWhile_cons_of_pos hp]
    cases n with
    |zero=>omega
    |succ n =>
     have:=loop s hs n (i+1) (by omega) (by omega)
     rw[show i+(b::((tL s).drop (i+1)).takeWhile lV).length=i+1+(((tL s).drop (i+1)).takeWhile lV).length by rw[List.length_cons];omega]
     have Pd:aK ((i:Int)+1):=by unfold aK;omega
     unfold lV at hp
     cases h3:gL b with
     |true=>exact bU.dC s i b _ ha (mI b) h3 Pd this
     |false =>
      cases h4:decide (48≤b∧b≤57) with
      |true=>exact bU.dD s i b _ b _ ha (mI b) h3 ha (isDigit b) h4 Pd this
      |false=>exact bU.kM s i b _ b _ b ha (mI b) h3 ha (isDigit b) h4 ha (by rw[h3,h4] at hp;simpa using hp) Pd this
   |false =>
    rw[List.takeWhile_cons_of_neg (by rw[hp];simp)]
    unfold lV at hp
    rw[Bool.or_eq_false_iff,Bool.or_eq_false_iff] at hp
    exact bU.An s i b _ b _ b ha (mI b) hp.1.1 ha (isDigit b) hp.1.2 ha (by simpa using hp.2)
  ·have ha:Cp 123 [.str s,vI (i:Int)] (.int .u8 ((0:Nat):Int)):=gI.e1 s i (by omega)
   rw[Fw (by omega)]
   exact bU.An s i 0 _ 0 _ 0 ha (mI 0) rfl ha (isDigit 0) rfl ha (by omega)
theorem KC(s:ByteArray)(hs:s.size<9223372036854775807):Cp 84 [.str s,vI 0] (vI (ng (tL s):Int)):=by
 by_cases h0:s.size=0
 ·have e:tL s=[]:=List.length_eq_zero_iff.1 (by rw[xo];exact h0)
  have ha:Cp 123 [.str s,vI 0] (.int .u8 ((0:Nat):Int)):=gI.e1 s 0 (by omega)
  rw[e]
  exact bU.e0 s 0 0 _ ha (mI 0) rfl
 ·obtain⟨b,h1,h2⟩:=BJ (s:=s) (i:=0) (by omega)
  have ha:Cp 123 [.str s,vI 0] (.int .u8 (b:Int)):=gI.e0 s 0 0 b (by omega) rfl h1
  have h3:tL s=b::(tL s).drop 1:=h2
  cases hp:gL b with
  |true =>
   have e:ng (tL s)=0+(((tL s).drop 0).takeWhile lV).length:=by
    rw[h2,List.takeWhile_cons_of_pos (by unfold lV;rw[hp];rfl)]
    conv=>lhs;rw[h3,yU,hp]
    rw[cond_true,List.length_cons,Nat.zero_add,Nat.zero_add];omega
   rw[e]
   exact bU.e1 s 0 b _ ha (mI b) hp (loop s hs s.size 0 (by omega) (by omega))
  |false =>
   have e:ng (tL s)=0:=by
    conv=>lhs;rw[h3,yU,hp]
    rfl
   rw[e]
   exact bU.e0 s 0 b _ ha (mI b) hp
theorem Name(s:ByteArray)(hs:s.size<9223372036854775808):Cp 39 [.str s] (vB (dU s)):=by
 have e:dU s=decide (0<ng (tL s)∧ng (tL s)=s.size∧ng (tL s)≤24):=rfl
 rw[e]
 have hw:=fun h=>KC s h
 generalize ng (tL s)=w at hw
 by_cases h1:0<s.size
 ·by_cases h2:s.size≤24
  ·rw[show decide (0<w∧w=s.size∧w≤24)=((w:Int)==(s.size:Int)) by rw[Bool.eq_iff_iff,decide_eq_true_iff,beq_iff_eq];omega]
   exact ic.e0 s _ h1 h2 (hw (by omega))
  ·rw[show decide (0<w∧w=s.size∧w≤24)=false from decide_eq_false (by omega)]
   exact ic.e1 s h1 (by omega)
 ·rw[show decide (0<w∧w=s.size∧w≤24)=false from decide_eq_false (by omega)]
  exact ic.e2 s (by omega)
end BK
open fi
theorem C1{a:aW}(h1:a.num.length=0)(h2:a.den.length=0):a.valid = !a.neg:=by
 unfold aW.valid;rw[df,df,decide_eq_true h1,decide_eq_true h2];rfl
theorem C2{a:aW}(h1:a.num.length=0)(h2:a.den.length≠0):a.valid=false:=by
 unfold aW.valid;rw[df,df,decide_eq_true h1,decide_eq_false h2];rfl
theorem C3{a:aW}(h1:a.num.length≠0)(h2:a.den.length=0):a.valid=false:=by
 unfold aW.valid;rw[df,df,decide_eq_false h1,decide_eq_true h2];rfl
theorem C4{a:aW}(h1:a.num.length≠0)(h2:a.den.length≠0):a.valid=(cn a.num&&(cn a.den&&Nat.beq (Nat.gcd (nat a.num) (nat a.den)) 1)):=by
 unfold aW.valid;rw[df,df,decide_eq_false h1,decide_eq_false h2];rfl
theorem tM{m:Words}(h:m.length≠0):(⟨false,m⟩:aB).valid=cn m:=by
 unfold aB.valid
 rw[df,decide_eq_false h];rfl
theorem uO{m:Words}(h:m.length≠0)(hc:cn m=true):(⟨false,m⟩:aB).val=(nat m:Int):=by
 unfold aB.val
 rw[tM h,hc];rfl
theorem Fx(g:Nat):(ea (g:Int) 1==0)=Nat.beq g 1:=by
 by_cases h:g=1
 ·subst h;rfl
 ·rw[uK.2 h]
  unfold ea
  split
  ·rfl
  ·rw[if_neg (by omega)];rfl
theorem C5{a:aW}(hv:a.valid=true)(h0:a.num.length≠0):Sym.whole a.val.num=⟨a.neg,a.num⟩∧Sym.whole (a.val.den:Int)=⟨false,a.den⟩:=by
 have M0:a.num≠[]:=by intro e;rw[e] at h0;exact h0 rfl
 obtain⟨g1,g2,g3,g4⟩:=mH hv M0
 obtain⟨e1,e2⟩:=so hv M0
 have hp:=py g2 M0
 rw[e1,e2]
 refine⟨?_,?_⟩
 ·unfold Sym.whole
  cases hn:a.neg
  ·simp only[cond_false,Int.natAbs_natCast,eH g2,aB.mk.injEq,and_true,decide_eq_false_iff_not];omega
  ·simp only[cond_true,Int.natAbs_neg,Int.natAbs_natCast,eH g2,aB.mk.injEq,and_true,decide_eq_true_eq];omega
 ·unfold Sym.whole
  simp only[Int.natAbs_natCast,eH g3,aB.mk.injEq,and_true,decide_eq_false_iff_not];omega
theorem vL{a b:Int}{k:Nat}(ha:wl a≤k)(hb:wl b≤k):wl ((Nat.gcd a.natAbs b.natAbs:Nat):Int)≤k:=by
 by_cases h:b=0
 ·subst h
  rw[Int.natAbs_zero,Nat.gcd_zero_right]
  show(words _).length≤k
  rw[Int.natAbs_natCast];exact ha
 ·exact Nat.le_trans (tK (by rw[Int.natAbs_natCast];exact Nat.le_of_dvd (by omega) (Nat.gcd_dvd_right _ _))) hb
theorem formed{n d:Int}(hn:n≠0)(hd:0<d)(g:Nat)(hg:g=Nat.gcd n.natAbs d.natAbs):qc (Rat.divInt n d)=⟨decide (n/(g:Int)<0),(Sym.whole (n/(g:Int))).cM,(Sym.whole (d/(g:Int))).cM⟩:=by
 obtain⟨e1,e2⟩:=BC (n:=n) hd g hg
 have iN:Rat.divInt n d≠0:=by
  intro e
  rw[e] at e1
  have e1:(0:Int)=n/(g:Int):=e1
  have h1:(g:Int)∣n:=by rw[hg];exact Int.ofNat_dvd_left.2 (Nat.gcd_dvd_left _ _)
  have:=Int.ediv_mul_cancel h1
  rw[←e1] at this
  omega
 rw[qP iN,e1]
 unfold Sym.whole
 simp only[aW.mk.injEq,true_and]
 rw[←e2,Int.natAbs_natCast]
theorem yW{n:Int}(hn:n≠0)(g:Nat)(hg:g∣n.natAbs):decide (n/(g:Int)<0)=decide (n<0)∧(n/(g:Int)).natAbs=((n.natAbs:Int)/(g:Int)).natAbs:=by
 have h1:(g:Int)∣n:=Int.ofNat_dvd_left.2 hg
 have h2:=Int.ediv_mul_cancel h1
 have Ey:0<g:=Nat.pos_of_dvd_of_pos hg (by omega)
 refine⟨?_,?_⟩
 ·congr 1
  refine propext ⟨fun h => ?_,fun h => ?_⟩
  ·have:=Int.mul_neg_of_neg_of_pos h (show (0:Int)<g by omega)
   omega
  ·exact Int.ediv_neg_of_neg_of_pos h (by omega)
 ·rw[Int.natAbs_ediv_of_dvd h1,Int.natAbs_natCast,←Int.natCast_ediv,Int.natAbs_natCast]
namespace BL
theorem one:Cp 78 [] (Sym.whole 1).pv:=uC.e0 _ (fi.Of 1 (by unfold aK;omega))
theorem Valid(a:aW)(h:ot a):Cp 34 [a.pv] (vB a.valid):=by
 obtain⟨l1,l2⟩:=h
 by_cases h1:a.num.length=0
 ·by_cases h2:a.den.length=0
  ·rw[C1 h1 h2];exact fU.e0 a h1 h2
  ·rw[C2 h1 h2];exact fU.e1 a h1 h2
 ·by_cases h2:a.den.length=0
  ·rw[C3 h1 h2];exact fU.e2 a h1 h2
  ·rw[C4 h1 h2]
   have v1:=fi.Valid ⟨false,a.num⟩ (show a.num.length≤_ by omega)
   have v2:=fi.Valid ⟨false,a.den⟩ (show a.den.length≤_ by omega)
   rw[tM h1] at v1
   rw[tM h2] at v2
   cases hc1:cn a.num with
   |false=>rw[Bool.false_and];exact fU.e3 a _ h1 h2 v1 hc1
   |true =>
    rw[Bool.true_and]
    cases HE:cn a.den with
    |false=>rw[Bool.false_and];exact fU.e4 a _ _ h1 h2 v1 hc1 v2 HE
    |true =>
     have hg:=fi.Gcd ⟨false,a.num⟩ ⟨false,a.den⟩ (show a.num.length≤_ by omega) (show a.den.length≤_ by omega)
     rw[uO h1 hc1,uO h2 HE,Int.natAbs_natCast,Int.natAbs_natCast] at hg
     have gl:=vL (a:=(nat a.num:Int)) (b:=(nat a.den:Int)) (k:=274877906944) (by show(words _).length≤_;rw[Int.natAbs_natCast,eH hc1];exact l1) (by show(words _).length≤_;rw[Int.natAbs_natCast,eH HE];exact l2)
     rw[Int.natAbs_natCast,Int.natAbs_natCast] at gl
     have hc:=fi.EC (Sym.whole (Nat.gcd (nat a.num) (nat a.den):Nat)) (Sym.whole 1) (show wl _≤_ by omega) (show wl 1≤_ by decide)
     rw[aU,aU] at hc
     rw[Bool.true_and,←Fx]
     exact fU.e5 a _ _ _ _ _ h1 h2 v1 hc1 v2 HE hg one hc
theorem qZ(a:aW)(h:ot a):Cp 57 [a.pv] (.bh [(Sym.whole a.val.num).pv,(Sym.whole (a.val.den:Int)).pv]):=by
 have hv:=Valid a h
 cases hc:a.valid with
 |false=>rw[BA hc];exact lz.e0 a _ _ hv hc one
 |true =>
  by_cases h0:a.num.length=0
  ·rw[xk (List.eq_nil_of_length_eq_zero h0)];exact lz.e1 a _ _ hv hc h0 one
  ·obtain⟨e1,e2⟩:=C5 hc h0
   rw[e1,e2]
   exact lz.e2 a _ hv hc h0 (by have:=h.1;simp;omega) (by have:=h.2;simp;omega)
theorem form(n d:aB)(hn:n.cM.length≤1099511627776)(hd:d.cM.length≤1099511627776)(h0:d.val≠0):Cp 58 [n.pv,d.pv] (qc (Rat.divInt n.val d.val)).pv:=by
 have sn:=fi.Sign n hn
 have sd:=fi.Sign d hd
 have wn:=bg n
 have UM:=bg d
 by_cases hz:n.val=0
 ·rw[hz,Rat.zero_divInt]
  exact ix.e0 n d _ sn (by rw[hz];rfl)
 ·have Cq:o7 n.val≠0:=by unfold o7 ea;split<;>(try split)<;>omega
  by_cases hneg:d.val<0
  ·have e:Rat.divInt n.val d.val=Rat.divInt (-n.val) (-d.val):=by rw[Rat.divInt_neg',Int.neg_neg]
   have n1:=fi.Neg n hn
   have d1:=fi.Neg d hd
   have l1:(Sym.whole (-n.val)).cM.length≤1099511627776:=by show wl _≤_;rw[kp];omega
   have l2:(Sym.whole (-d.val)).cM.length≤1099511627776:=by show wl _≤_;rw[kp];omega
   have g:=fi.Gcd _ _ l1 l2
   rw[aU,aU] at g
   have zq:=vL (a := -n.val) (b := -d.val) (k:=1099511627776) (by rw[kp];omega) (by rw[kp];omega)
   have s2:=fi.Sign _ l1
   rw[aU] at s2
   rw[e,formed (by omega) (by omega) _ rfl]
   obtain⟨f1,f2⟩:=yW (n := -n.val) (by omega) (Nat.gcd (-n.val).natAbs (-d.val).natAbs) (Nat.gcd_dvd_left _ _)
   have Ey:((Nat.gcd (-n.val).natAbs (-d.val).natAbs:Nat):Int)≠0:=by
    have:=Nat.gcd_pos_of_pos_left (-d.val).natAbs (show 0<(-n.val).natAbs by omega)
    omega
   rw[f1,show(Sym.whole (-n.val/((Nat.gcd (-n.val).natAbs (-d.val).natAbs:Nat):Int))).cM=(Sym.whole (((-n.val).natAbs:Int)/((Nat.gcd (-n.val).natAbs (-d.val).natAbs:Nat):Int))).cM from by unfold Sym.whole;rw[f2]]
   generalize hG:((Nat.gcd (-n.val).natAbs (-d.val).natAbs:Nat):Int)=G at *
   have dd:=fi.Div (Sym.whole (-d.val)) (Sym.whole G) l2 zq (by rw[aU];exact Ey)
   rw[aU,aU] at dd
   by_cases hs : -n.val<0
   ·have n2:=fi.Neg _ l1
    rw[aU] at n2
    have dn:=fi.Div (Sym.whole (- -n.val)) (Sym.whole G) (by show wl _≤_;rw[kp,kp];omega) zq (by rw[aU];exact Ey)
    rw[aU,aU] at dn
    rw[show ((-n.val).natAbs:Int) = - -n.val from by omega]
    have:=ix.e1 n d _ _ _ _ _ _ _ _ _ none _ _ none sn Cq sd (by unfold o7 ea;rw[if_pos hneg];omega) n1 d1 g s2 (by unfold o7 ea;rw[if_pos hs];omega) n2 dn dd
    rw[show decide (o7 (-n.val)<0)=decide (-n.val<0) from by unfold o7 ea;rw[if_pos hs,decide_eq_true hs];rfl] at this
    exact this
   ·have dn:=fi.Div (Sym.whole (-n.val)) (Sym.whole G) l1 zq (by rw[aU];exact Ey)
    rw[aU,aU] at dn
    rw[show ((-n.val).natAbs:Int) = -n.val from by omega]
    have OT:o7 (-n.val)=1:=by unfold o7 ea;rw[if_neg hs,if_neg (by omega)]
    have:=ix.e2 n d _ _ _ _ _ _ _ _ none _ _ none sn Cq sd (by unfold o7 ea;rw[if_pos hneg];omega) n1 d1 g s2 (by rw[OT];omega) dn dd
    rw[show decide (o7 (-n.val)<0)=decide (-n.val<0) from by rw[OT,decide_eq_false hs];rfl] at this
    exact this
  ·have g:=fi.Gcd _ _ hn hd
   have zq:=vL (a:=n.val) (b:=d.val) (k:=1099511627776) (by omega) (by omega)
   rw[formed hz (by omega) _ rfl]
   obtain⟨f1,f2⟩:=yW hz (Nat.gcd n.val.natAbs d.val.natAbs) (Nat.gcd_dvd_left _ _)
   have Ey:((Nat.gcd n.val.natAbs d.val.natAbs:Nat):Int)≠0:=by
    have:=Nat.gcd_pos_of_pos_left d.val.natAbs (show 0<n.val.natAbs by omega)
    omega
   rw[f1,show(Sym.whole (n.val/((Nat.gcd n.val.natAbs d.val.natAbs:Nat):Int))).cM=(Sym.whole ((n.val.natAbs:Int)/((Nat.gcd n.val.natAbs d.val.natAbs:Nat):Int))).cM from by unfold Sym.whole;rw[f2]]
   generalize hG:((Nat.gcd n.val.natAbs d.val.natAbs:Nat):Int)=G at *
   have dd:=fi.Div d (Sym.whole G) hd zq (by rw[aU];exact Ey)
   rw[aU] at dd
   have PG:0≤o7 d.val:=by unfold o7 ea;rw[if_neg hneg];split<;>omega
   by_cases hs:n.val<0
   ·have n2:=fi.Neg _ hn
    have dn:=fi.Div (Sym.whole (-n.val)) (Sym.whole G) (by show wl _≤_;rw[kp];omega) zq (by rw[aU];exact Ey)
    rw[aU,aU] at dn
    rw[show (n.val.natAbs:Int) = -n.val from by omega]
    have:=ix.e3 n d _ _ _ _ _ _ _ none _ _ none sn Cq sd PG g sn (by unfold o7 ea;rw[if_pos hs];omega) n2 dn dd
    rw[show decide (o7 n.val<0)=decide (n.val<0) from by unfold o7 ea;rw[if_pos hs,decide_eq_true hs];rfl] at this
    exact this
   ·have dn:=fi.Div n (Sym.whole G) hn zq (by rw[aU];exact Ey)
    rw[aU] at dn
    rw[show (n.val.natAbs:Int)=n.val from by omega]
    have OT:o7 n.val=1:=by unfold o7 ea;rw[if_neg hs,if_neg (by omega)]
    have:=ix.e4 n d _ _ _ _ _ _ none _ _ none sn Cq sd PG g sn (by rw[OT];omega) dn dd
    rw[show decide (o7 n.val<0)=decide (n.val<0) from by rw[OT,decide_eq_false hs];rfl] at this
    exact this
theorem yX(n d:Int)(hn:wl n≤1099511627776)(hd:wl d≤1099511627776)(h0:d≠0):Cp 58 [(Sym.whole n).pv,(Sym.whole d).pv] (qc (Rat.divInt n d)).pv:=by
 have:=form (Sym.whole n) (Sym.whole d) hn hd (by rw[aU];exact h0)
 rwa[aU,aU] at this
theorem Neg(a:aW)(h:ot a):Cp 82 [a.pv] (qc (-a.val)).pv:=by
 have hp:=qZ a h
 have hh:=jY h.1 h.2 (by omega)
 have h1:=jh a.val
 have h2:=jW a.val
 have hn:=fi.Neg (Sym.whole a.val.num) (show wl _≤_ by omega)
 rw[aU] at hn
 have hf:=yX (-a.val.num) a.val.den (by rw[kp];omega) (by omega) (by have:=a.val.den_nz;omega)
 rw[←Rat.neg_divInt,Rat.num_divInt_den] at hf
 exact uD.e0 a _ _ _ _ hp hn hf
theorem Add(a b:aW)(ha:ot a)(hb:ot b):Cp 38 [a.pv,b.pv] (qc (a.val+b.val)).pv:=by
 have pa:=qZ a ha
 have pb:=qZ b hb
 have la:=jY ha.1 ha.2 (by omega)
 have lb:=jY hb.1 hb.2 (by omega)
 have h1:=jh a.val
 have h2:=jW a.val
 have h3:=jh b.val
 have h4:=jW b.val
 have m1:=fi.Mul (Sym.whole a.val.num) (Sym.whole (b.val.den:Int)) (show wl _≤_ by omega) (show wl _≤_ by omega)
 have m2:=fi.Mul (Sym.whole b.val.num) (Sym.whole (a.val.den:Int)) (show wl _≤_ by omega) (show wl _≤_ by omega)
 have m3:=fi.Mul (Sym.whole (a.val.den:Int)) (Sym.whole (b.val.den:Int)) (show wl _≤_ by omega) (show wl _≤_ by omega)
 rw[aU,aU] at m1 m2 m3
 have w1:=jg a.val.num b.val.den
 have w2:=jg b.val.num a.val.den
 have w3:=jg (a.val.den:Int) b.val.den
 have s:=fi.Add (Sym.whole (a.val.num*b.val.den)) (Sym.whole (b.val.num*a.val.den)) (show wl _≤_ by omega) (show wl _≤_ by omega)
 rw[aU,aU] at s
 have w4:=By (a.val.num*b.val.den) (b.val.num*a.val.den)
 have hf:=yX (a.val.num*b.val.den+b.val.num*a.val.den) ((a.val.den:Int)*(b.val.den:Int)) (by omega) (by omega) (by
  have:=a.val.den_nz
  have:=b.val.den_nz
  exact Int.mul_ne_zero (by omega) (by omega))
 rw[←Int.natCast_mul,Rat.divInt_ofNat,←Rat.add_def',Int.natCast_mul] at hf
 exact uB.e0 a b _ _ _ _ _ _ _ _ _ pa pb m1 m2 s m3 hf
theorem Sub(a b:aW)(ha:ot a)(hb:ot b):Cp 37 [a.pv,b.pv] (qc (a.val-b.val)).pv:=by
 have hn:=Neg b hb
 have lb:=jY hb.1 hb.2 (by omega)
 have hs:=Add a (qc (-b.val)) ha (nG (by rw[EE];exact lb))
 rw[nE,←Rat.sub_eq_add_neg] at hs
 exact uA.e0 a b _ _ hn hs
theorem Mul(a b:aW)(ha:ot a)(hb:ot b):Cp 24 [a.pv,b.pv] (qc (a.val*b.val)).pv:=by
 have pa:=qZ a ha
 have pb:=qZ b hb
 have la:=jY ha.1 ha.2 (by omega)
 have lb:=jY hb.1 hb.2 (by omega)
 have h1:=jh a.val
 have h2:=jW a.val
 have h3:=jh b.val
 have h4:=jW b.val
 have m1:=fi.Mul (Sym.whole a.val.num) (Sym.whole b.val.num) (show wl _≤_ by omega) (show wl _≤_ by omega)
 have m3:=fi.Mul (Sym.whole (a.val.den:Int)) (Sym.whole (b.val.den:Int)) (show wl _≤_ by omega) (show wl _≤_ by omega)
 rw[aU,aU] at m1 m3
 have w1:=jg a.val.num b.val.num
 have w3:=jg (a.val.den:Int) b.val.den
 have hf:=yX (a.val.num*b.val.num) ((a.val.den:Int)*(b.val.den:Int)) (by omega) (by omega) (by
  have:=a.val.den_nz
  have:=b.val.den_nz
  exact Int.mul_ne_zero (by omega) (by omega))
 rw[←Int.natCast_mul,Rat.divInt_ofNat,←Rat.mul_def',Int.natCast_mul] at hf
 exact uz.e0 a b _ _ _ _ _ _ _ pa pb m1 m3 hf
theorem EC(a b:aW)(ha:ot a)(hb:ot b):Cp 113 [a.pv,b.pv] (vI (kO a.val b.val)):=by
 have pa:=qZ a ha
 have pb:=qZ b hb
 have la:=jY ha.1 ha.2 (by omega)
 have lb:=jY hb.1 hb.2 (by omega)
 have h1:=jh a.val
 have h2:=jW a.val
 have h3:=jh b.val
 have h4:=jW b.val
 have m1:=fi.Mul (Sym.whole a.val.num) (Sym.whole (b.val.den:Int)) (show wl _≤_ by omega) (show wl _≤_ by omega)
 have m2:=fi.Mul (Sym.whole b.val.num) (Sym.whole (a.val.den:Int)) (show wl _≤_ by omega) (show wl _≤_ by omega)
 rw[aU,aU] at m1 m2
 have w1:=jg a.val.num b.val.den
 have w2:=jg b.val.num a.val.den
 have hc:=fi.EC (Sym.whole (a.val.num*b.val.den)) (Sym.whole (b.val.num*a.val.den)) (show wl _≤_ by omega) (show wl _≤_ by omega)
 rw[aU,aU,IF] at hc
 exact uE.e0 a b _ _ _ _ _ _ _ pa pb m1 m2 hc
end BL
namespace IH
theorem one:Cp 46 [] (Sym.whole 1).pv:=oW.e0 _ (wR.Of 1 (by unfold aK;omega))
theorem plain(m:Words)(h:m.length≤274877906944):Cp 43 [ae m] (vB (!m.isEmpty&&cn m)):=by
 rw[df]
 by_cases h0:m.length=0
 ·rw[decide_eq_true h0,Bool.not_true,Bool.false_and]
  exact jV.e1 m (by omega)
 ·rw[decide_eq_false h0,Bool.not_false,Bool.true_and]
  obtain⟨v,hv⟩:∃v,m[m.length-1]? = some v:=⟨_,List.getElem?_eq_getElem (by omega)⟩
  have:=jV.e0 m (m.length-1) v (by omega) (by unfold aK;omega) (by omega) hv
  have e:cn m=((v.toNat:Int) != 0):=by
   have h1:=mo hv
   by_cases h2:v.toNat=0
   ·have h3:((v.toNat:Int) != 0)=false:=by simp[h2]
    rw[h3]
    cases hc:cn m with
    |true=>exact absurd h2 (h1.1 hc)
    |false=>rfl
   ·have h3:((v.toNat:Int) != 0)=true:=by simp;omega
    rw[h3];exact h1.2 h2
  rw[e];exact this
theorem II{m:Words}(h:m.length≤274877906944)(h0:m.length≠0):Cp 43 [ae m] (vB (cn m)):=by
 have:=plain m h
 rwa[df,decide_eq_false h0,Bool.not_false,Bool.true_and] at this
theorem IJ{m:Words}(h0:m.length=0):Cp 43 [ae m] (vB false):=by
 have:=plain m (by omega)
 rwa[df,decide_eq_true h0,Bool.not_true,Bool.false_and] at this
theorem Valid(a:aW)(h:ot a):Cp 15 [a.pv] (vB a.valid):=by
 obtain⟨l1,l2⟩:=h
 by_cases h1:a.num.length=0
 ·by_cases h2:a.den.length=0
  ·rw[C1 h1 h2];exact cS.e0 a h1 h2
  ·rw[C2 h1 h2];exact cS.e3 a _ h1 h2 (IJ h1) rfl
 ·have p1:=II l1 h1
  by_cases h2:a.den.length=0
  ·rw[C3 h1 h2]
   cases hc1:cn a.num with
   |false=>exact cS.e6 a _ h1 p1 hc1
   |true=>exact cS.e5 a _ _ h1 p1 hc1 (IJ h2) rfl
  ·have p2:=II l2 h2
   rw[C4 h1 h2]
   cases hc1:cn a.num with
   |false=>rw[Bool.false_and];exact cS.e6 a _ h1 p1 hc1
   |true =>
    rw[Bool.true_and]
    cases HE:cn a.den with
    |false=>rw[Bool.false_and];exact cS.e5 a _ _ h1 p1 hc1 p2 HE
    |true =>
     have hg:=wR.Gcd ⟨false,a.num⟩ ⟨false,a.den⟩ (show a.num.length≤_ by omega) (show a.den.length≤_ by omega)
     rw[uO h1 hc1,uO h2 HE,Int.natAbs_natCast,Int.natAbs_natCast] at hg
     have gl:=vL (a:=(nat a.num:Int)) (b:=(nat a.den:Int)) (k:=274877906944) (by show(words _).length≤_;rw[Int.natAbs_natCast,eH hc1];exact l1) (by show(words _).length≤_;rw[Int.natAbs_natCast,eH HE];exact l2)
     rw[Int.natAbs_natCast,Int.natAbs_natCast] at gl
     have hc:=wR.EC (Sym.whole (Nat.gcd (nat a.num) (nat a.den):Nat)) (Sym.whole 1) (show wl _<_ by omega) (show wl 1<_ by decide)
     rw[aU,aU] at hc
     rw[Bool.true_and,←Fx]
     exact cS.e4 a _ _ _ _ _ h1 p1 hc1 p2 HE hg one hc
theorem qZ(a:aW)(h:ot a):Cp 47 [a.pv] (.bh [(Sym.whole a.val.num).pv,(Sym.whole (a.val.den:Int)).pv]):=by
 have hv:=Valid a h
 cases hc:a.valid with
 |false=>rw[BA hc];exact gE.e0 a _ _ hv hc one
 |true =>
  by_cases h0:a.num.length=0
  ·rw[xk (List.eq_nil_of_length_eq_zero h0)];exact gE.e1 a _ _ hv hc h0 one
  ·obtain⟨e1,e2⟩:=C5 hc h0
   rw[e1,e2]
   exact gE.e2 a _ hv hc h0
theorem form(n d:aB)(hn:n.cM.length≤1099511627776)(hd:d.cM.length≤1099511627776)(h0:d.val≠0):Cp 73 [n.pv,d.pv] (qc (Rat.divInt n.val d.val)).pv:=by
 have sn:=wR.Sign n hn
 have sd:=wR.Sign d hd
 have wn:=bg n
 have UM:=bg d
 by_cases hz:n.val=0
 ·rw[hz,Rat.zero_divInt]
  exact ie.e0 n d _ sn (by rw[hz];rfl)
 ·have Cq:o7 n.val≠0:=by unfold o7 ea;split<;>(try split)<;>omega
  by_cases hneg:d.val<0
  ·have e:Rat.divInt n.val d.val=Rat.divInt (-n.val) (-d.val):=by rw[Rat.divInt_neg',Int.neg_neg]
   have n1:=wR.Neg n hn
   have d1:=wR.Neg d hd
   have l1:(Sym.whole (-n.val)).cM.length≤1099511627776:=by show wl _≤_;rw[kp];omega
   have l2:(Sym.whole (-d.val)).cM.length≤1099511627776:=by show wl _≤_;rw[kp];omega
   have g:=wR.Gcd _ _ l1 l2
   rw[aU,aU] at g
   have zq:=vL (a := -n.val) (b := -d.val) (k:=1099511627776) (by rw[kp];omega) (by rw[kp];omega)
   rw[e,formed (by omega) (by omega) _ rfl]
   have Ey:((Nat.gcd (-n.val).natAbs (-d.val).natAbs:Nat):Int)≠0:=by
    have:=Nat.gcd_pos_of_pos_left (-d.val).natAbs (show 0<(-n.val).natAbs by omega)
    omega
   generalize hG:((Nat.gcd (-n.val).natAbs (-d.val).natAbs:Nat):Int)=G at *
   have dd:=wR.Div (Sym.whole (-d.val)) (Sym.whole G) l2 zq (by rw[aU];exact Ey)
   have dn:=wR.Div (Sym.whole (-n.val)) (Sym.whole G) l1 zq (by rw[aU];exact Ey)
   rw[aU,aU] at dd dn
   exact ie.e1 n d _ _ _ _ _ _ _ _ _ _ _ sn Cq sd (by unfold o7 ea;rw[if_pos hneg];omega) n1 d1 g dn dd
  ·have g:=wR.Gcd _ _ hn hd
   have zq:=vL (a:=n.val) (b:=d.val) (k:=1099511627776) (by omega) (by omega)
   rw[formed hz (by omega) _ rfl]
   have Ey:((Nat.gcd n.val.natAbs d.val.natAbs:Nat):Int)≠0:=by
    have:=Nat.gcd_pos_of_pos_left d.val.natAbs (show 0<n.val.natAbs by omega)
    omega
   generalize hG:((Nat.gcd n.val.natAbs d.val.natAbs:Nat):Int)=G at *
   have dd:=wR.Div d (Sym.whole G) hd zq (by rw[aU];exact Ey)
   have dn:=wR.Div n (Sym.whole G) hn zq (by rw[aU];exact Ey)
   rw[aU] at dd dn
   have PG:0≤o7 d.val:=by unfold o7 ea;rw[if_neg hneg];split<;>omega
   exact ie.e2 n d _ _ _ _ _ _ _ _ _ sn Cq sd PG g dn dd
theorem yX(n d:Int)(hn:wl n≤1099511627776)(hd:wl d≤1099511627776)(h0:d≠0):Cp 73 [(Sym.whole n).pv,(Sym.whole d).pv] (qc (Rat.divInt n d)).pv:=by
 have:=form (Sym.whole n) (Sym.whole d) hn hd (by rw[aU];exact h0)
 rwa[aU,aU] at this
theorem Of(n:Int)(h:aK n):Cp 33 [vI n] (qc (n:Rat)).pv:=by
 have hw:wl n≤2:=Fm (by unfold aK at h;omega)
 have:=yX n 1 (by omega) (by decide) (by omega)
 rw[show Rat.divInt n 1=(n:Rat) from by rw[Rat.divInt_eq_div];grind] at this
 exact pX.e0 n _ _ _ (wR.Of n h) one this
theorem Neg(a:aW)(h:ot a):Cp 135 [a.pv] (qc (-a.val)).pv:=by
 have hp:=qZ a h
 have hh:=jY h.1 h.2 (by omega)
 have h1:=jh a.val
 have h2:=jW a.val
 have hn:=wR.Neg (Sym.whole a.val.num) (show wl _≤_ by omega)
 rw[aU] at hn
 have hf:=yX (-a.val.num) a.val.den (by rw[kp];omega) (by omega) (by have:=a.val.den_nz;omega)
 rw[←Rat.neg_divInt,Rat.num_divInt_den] at hf
 exact o0.e0 a _ _ _ _ hp hn hf
theorem Sign(a:aW)(h:ot a):Cp 16 [a.pv] (vI (kO a.val 0)):=by
 have hp:=qZ a h
 have hh:=jY h.1 h.2 (by omega)
 have h1:=jh a.val
 have hs:=wR.Sign (Sym.whole a.val.num) (show wl _≤_ by omega)
 rw[aU,Aw] at hs
 exact oh.e0 a _ _ _ hp hs
theorem Add(a b:aW)(ha:ot a)(hb:ot b):Cp 95 [a.pv,b.pv] (qc (a.val+b.val)).pv:=by
 have pa:=qZ a ha
 have pb:=qZ b hb
 have la:=jY ha.1 ha.2 (by omega)
 have lb:=jY hb.1 hb.2 (by omega)
 have h1:=jh a.val
 have h2:=jW a.val
 have h3:=jh b.val
 have h4:=jW b.val
 have m1:=wR.Mul (Sym.whole a.val.num) (Sym.whole (b.val.den:Int)) (show wl _≤_ by omega) (show wl _≤_ by omega)
 have m2:=wR.Mul (Sym.whole b.val.num) (Sym.whole (a.val.den:Int)) (show wl _≤_ by omega) (show wl _≤_ by omega)
 have m3:=wR.Mul (Sym.whole (a.val.den:Int)) (Sym.whole (b.val.den:Int)) (show wl _≤_ by omega) (show wl _≤_ by omega)
 rw[aU,aU] at m1 m2 m3
 have w1:=jg a.val.num b.val.den
 have w2:=jg b.val.num a.val.den
 have w3:=jg (a.val.den:Int) b.val.den
 have s:=wR.Add (Sym.whole (a.val.num*b.val.den)) (Sym.whole (b.val.num*a.val.den)) (show wl _≤_ by omega) (show wl _≤_ by omega)
 rw[aU,aU] at s
 have w4:=By (a.val.num*b.val.den) (b.val.num*a.val.den)
 have hf:=yX (a.val.num*b.val.den+b.val.num*a.val.den) ((a.val.den:Int)*(b.val.den:Int)) (by omega) (by omega) (by
  have:=a.val.den_nz
  have:=b.val.den_nz
  exact Int.mul_ne_zero (by omega) (by omega))
 rw[←Int.natCast_mul,Rat.divInt_ofNat,←Rat.add_def',Int.natCast_mul] at hf
 exact oY.e0 a b _ _ _ _ _ _ _ _ _ pa pb m1 m2 s m3 hf
theorem Sub(a b:aW)(ha:ot a)(hb:ot b):Cp 94 [a.pv,b.pv] (qc (a.val-b.val)).pv:=by
 have hn:=Neg b hb
 have lb:=jY hb.1 hb.2 (by omega)
 have hs:=Add a (qc (-b.val)) ha (nG (by rw[EE];exact lb))
 rw[nE,←Rat.sub_eq_add_neg] at hs
 exact oX.e0 a b _ _ hn hs
theorem EC(a b:aW)(ha:a.num.length≤68719476736∧a.den.length≤68719476736)(hb:b.num.length≤68719476736∧b.den.length≤68719476736):Cp 125 [a.pv,b.pv] (vI (kO a.val b.val)):=by
 have la:=jY ha.1 ha.2 (by omega)
 have lb:=jY hb.1 hb.2 (by omega)
 have hs:=Sub a b ⟨by omega,by omega⟩ ⟨by omega,by omega⟩
 have hl:=EF a.val b.val
 have hg:=Sign (qc (a.val-b.val)) (nG (by omega))
 rw[nE,←Aw,CZ] at hg
 exact oZ.e0 a b _ _ hs hg
end IH
def gC(a:aW):Prop:=a.num.length≤1000∧a.den.length≤1000
theorem gC.r{a:aW}(h:gC a):ot a:=by unfold ot;have:=h.1;have:=h.2;omega
structure iM (l:aj):Prop where
 name:l.name.size<9223372036854775808
 aa:∀b∈l.aa,b.name.size<9223372036854775808∧∀m∈b.points,m.name.size<9223372036854775808∧gC m.x∧gC m.y
 an:∀j∈l.an,j.name.size<9223372036854775808
 ak:∀d∈l.ak,d.name.size<9223372036854775808
theorem ji{α β:Type}{p:α→Bool}{xs:List α}{L:Nat→β→Prop}{A B:β}
  (JZ:∀g v,g<xs.length→xs[g]? = some v→p v=true→L g A)
  (step:∀g v r,g<xs.length→xs[g]? = some v→p v=false→L (g+1) r→L g r)
  (stop:xs.any p=false→L xs.length B):L 0 (if xs.any p=true then A else B):=by
 have key:∀(n g:Nat),g+n=xs.length→((xs.drop g).any p=false→L xs.length B)→L g (if (xs.drop g).any p=true then A else B):=by
  intro n
  induction n with
  |zero =>
   intro g hg hs
   have e:xs.drop g=[]:=List.drop_eq_nil_of_le (by omega)
   rw[e] at hs ⊢
   have:g=xs.length:=by omega
   subst this
   exact hs rfl
  |succ n ih =>
   intro g hg hs
   have cN:g<xs.length:=by omega
   have e:=List.drop_eq_getElem_cons cN
   have hv:=List.getElem?_eq_getElem cN
   rw[e,List.any_cons] at hs ⊢
   cases hp:p xs[g] with
   |true=>rw[Bool.true_or,if_pos rfl];exact JZ g _ cN hv hp
   |false =>
    rw[hp,Bool.false_or] at hs
    rw[Bool.false_or]
    exact step g _ _ cN hv hp (ih (g+1) (by omega) hs)
 exact key xs.length 0 (by omega) (by simpa using stop)
theorem jG{β:Type}{f:Nat→Int}{len:Nat}{L:Nat→β→Prop}{R:Int→β}{r0:β}
  (one:∀i r,i<len→(f i=0→L (i+1) r)→L i (if f i=0 then r else R (f i))) :
  ∀(n i:Nat),i+n=len→(scan f n i=0→L len r0)→L i (if scan f n i=0 then r0 else R (scan f n i))
 |0,i,h,hs=>by
  have:i=len:=by omega
  subst this
  exact hs rfl
 |n+1,i,h,hs=>by
  unfold scan at hs ⊢
  have h1:=one i (if scan f n (i+1)=0 then r0 else R (scan f n (i+1))) (by omega)
  by_cases h0:f i=0
  ·rw[if_pos h0] at hs ⊢
   rw[if_pos h0] at h1
   exact h1 (fun _=>jG one n (i+1) (by omega) hs)
  ·rw[if_neg h0] at hs ⊢
   rw[if_neg h0] at h1
   rw[if_neg h0]
   exact h1 (fun e=>absurd e h0)
def M1(e:Int):PV:=if e=0 then .bK else .iface 74 (vI e)
theorem mV{e:Int}(h:e≠0):M1 e = .iface 74 (vI e):=if_neg h
abbrev iE(e:Int):PV := .iface 74 (vI e)
theorem RJ(e:Int):(if e=0 then vI 0 else vI e)=vI e:=by
 split
 ·rename_i h;rw[h]
 ·rfl
namespace pA
theorem aa(l:List ab)(hf:∀b∈l,b.name.size<9223372036854775808∧∀m∈b.points,m.name.size<9223372036854775808∧gC m.x∧gC m.y)(hlen:l.length<9223372036854775808):Cp 54 [aZ ab.cells l] (M1 (nH l)):=by
 refine bN.e0 l ?_
 refine jG (L:=fun i r=>bN.ar l i r) (R:=iE) (r0 := .bK) (fun i r hi hn => ?_) l.length 0 (by omega) (fun _=>bN.kM l l.length (Nat.le_refl _))
 have hv:=List.getElem?_eq_getElem hi
 generalize l[i]=v at hv
 have sr:=hf v (List.mem_of_getElem? hv)
 have e:Ay l i=if dU v.name=false then 5 else if (l.take i).any (fun x=>decide (x.name=v.name))=true then 6 else jC v.points:=by unfold Ay;rw[hv]
 rw[e] at hn ⊢
 by_cases h1:dU v.name=false
 ·rw[if_pos h1]
  exact bN.dC l i v _ hi hv (Name _ sr.1) h1
 ·rw[if_neg h1] at hn ⊢
  refine bN.dD l i v _ hi hv (Name _ sr.1) (by simpa using h1) (by omega) ?_
  have key:=ji (p:=fun x=>decide (x.name=v.name)) (xs:=l.take i) (L:=fun g r=>bN.aJ l i (l.take i) (l.take i).length g v r) (A:=iE 6) (B:=if jC v.points=0 then r else iE (jC v.points))
   (fun g w hg hw hp=>bN.nK l i _ _ g v w hg hw (of_decide_eq_true hp))
   (fun g w r hg hw hp hL=>bN.nL l i _ _ g v w hg hw (of_decide_eq_false hp) (by rw[List.length_take] at hg;omega) hL)
   (fun sH => ?_)
  ·by_cases ha:(l.take i).any (fun x=>decide (x.name=v.name))=true
   ·rw[if_pos ha] at key ⊢
    exact key
   ·rw[if_neg ha] at key ⊢
    exact key
  ·rw[if_neg (by rw[sH];simp)] at hn
   unfold jC at hn ⊢
   by_cases h8:8<v.points.length
   ·rw[if_pos h8]
    exact bN.vv l i _ _ _ v (Nat.le_refl _) h8
   ·rw[if_neg h8] at hn ⊢
    refine bN.HY l i _ _ _ v (Nat.le_refl _) (by omega) ?_
    refine jG (L:=fun c r=>bN.cL l i v c r) (R:=iE) (r0:=r) (fun c r hc hn => ?_) v.points.length 0 (by omega) (fun h0=>bN.Oy l i v v.points.length (Nat.le_refl _) (by omega) (hn h0))
    have vC:=List.getElem?_eq_getElem hc
    generalize v.points[c]=v1 at vC
    obtain⟨f1,f2,f3⟩:=sr.2 v1 (List.mem_of_getElem? vC)
    have e:Ax v.points c=if dU v1.name=false then 5 else if (v.points.take c).any (fun x=>decide (x.name=v1.name))=true then 6 else if v1.x.valid=true∧v1.y.valid=true then 0 else 3:=by unfold Ax;rw[vC]
    rw[e] at hn ⊢
    by_cases h1:dU v1.name=false
    ·rw[if_pos h1]
     exact bN.H3 l i v c v1 _ hc vC (Name _ f1) h1
    ·rw[if_neg h1] at hn ⊢
     refine bN.Gb l i v c v1 _ hc vC (Name _ f1) (by simpa using h1) (by omega) ?_
     have key:=ji (p:=fun x=>decide (x.name=v1.name)) (xs:=v.points.take c) (L:=fun g r=>bN.fE l i v c (v.points.take c) (v.points.take c).length g v1 r) (A:=iE 6) (B:=if (if v1.x.valid=true∧v1.y.valid=true then (0:Int) else 3)=0 then r else iE (if v1.x.valid=true∧v1.y.valid=true then 0 else 3))
      (fun g w hg hw hp=>bN.Kd l i v c _ _ g v1 w hg hw (of_decide_eq_true hp))
      (fun g w r hg hw hp hL=>bN.Ke l i v c _ _ g v1 w hg hw (of_decide_eq_false hp) (by rw[List.length_take] at hg;omega) hL)
      (fun sH => ?_)
     ·by_cases ha:(v.points.take c).any (fun x=>decide (x.name=v1.name))=true
      ·rw[if_pos ha] at key ⊢
       exact key
      ·rw[if_neg ha] at key ⊢
       exact key
     ·rw[if_neg (by rw[sH];simp)] at hn
      by_cases hx:v1.x.valid=true
      ·by_cases hy:v1.y.valid=true
       ·have ev:(if v1.x.valid=true∧v1.y.valid=true then (0:Int) else 3)=0:=if_pos ⟨hx,hy⟩
        rw[if_pos ev]
        exact bN.Ud l i v c _ _ _ v1 _ _ (Nat.le_refl _) (BL.Valid _ f2.r) hx (BL.Valid _ f3.r) hy (by omega) (hn ev)
       ·have ev:(if v1.x.valid=true∧v1.y.valid=true then (0:Int) else 3)=3:=if_neg (fun h=>hy h.2)
        rw[ev,if_neg (by decide)]
        exact bN.Uc l i v c _ _ _ v1 _ _ (Nat.le_refl _) (BL.Valid _ f2.r) hx (BL.Valid _ f3.r) (by simpa using hy)
      ·have ev:(if v1.x.valid=true∧v1.y.valid=true then (0:Int) else 3)=3:=if_neg (fun h=>hx h.1)
       rw[ev,if_neg (by decide)]
       exact bN.Ub l i v c _ _ _ v1 _ (Nat.le_refl _) (BL.Valid _ f2.r) (by simpa using hx)
abbrev Jr(i n:Int):Bool:=decide (0≤i∧i<n)
theorem mh(i n:Int):Cp 98 [vI i,vI n] (vB (Jr i n)):=by
 by_cases h:0≤i
 ·rw[show Jr i n=decide (i<n) by unfold Jr;rw[Bool.eq_iff_iff,decide_eq_true_iff,decide_eq_true_iff];omega]
  exact yz.e0 i n h
 ·rw[show Jr i n=false from decide_eq_false (by omega)]
  exact yz.e1 i n (by omega)
theorem dg{α:Type}{xs:List α}{i:Int}{x:α}(h:nth xs i=some x):Jr i (xs.length:Int)=true:=decide_eq_true (EG.1 ⟨x,h⟩)
theorem dH{α:Type}{xs:List α}{i:Int}(h:nth xs i=none):Jr i (xs.length:Int)=false:=decide_eq_false (yR.1 h)
theorem IK(l:aj)(hf:iM l)(j:ag):Cp 97 [l.pv,j.pv] (M1 (jE l j)):=by
 unfold jE
 by_cases h0:j.kind=0
 ·rw[if_neg (by omega)]
  cases hA:nth l.aa j.a with
  |none=>exact cr.Ug l j _ h0 (mh _ _) (dH hA)
  |some A =>
   have iA:=dg hA
   obtain⟨kA,eA,gA⟩:=bX hA
   cases hB:nth l.aa j.b with
   |none=>exact cr.Uh l j _ _ h0 (mh _ _) iA (mh _ _) (dH hB)
   |some B =>
    have iB:=dg hB
    obtain⟨kB,eB,gB⟩:=bX hB
    dsimp only
    by_cases iO:j.a=j.b
    ·rw[if_pos iO];exact cr.Ui l j _ _ h0 (mh _ _) iA (mh _ _) iB iO
    rw[if_neg iO]
    cases hP:nth A.points j.bq with
    |none=>exact cr.Uj l j _ _ _ _ _ _ _ h0 (mh _ _) iA (mh _ _) iB iO eB gB eA gA (mh _ _) (dH hP)
    |some P =>
     have iP:=dg hP
     cases hQ:nth B.points j.fD with
     |none=>exact cr.PB l j _ _ _ _ _ _ _ _ h0 (mh _ _) iA (mh _ _) iB iO eB gB eA gA (mh _ _) iP (mh _ _) (dH hQ)
     |some Q =>
      have iQ:=dg hQ
      dsimp only
      rw[if_pos h0]
      by_cases ht:j.fj=0
      ·rw[if_neg (by omega)];exact cr.Ul l j _ _ _ _ _ _ _ _ h0 (mh _ _) iA (mh _ _) iB iO eB gB eA gA (mh _ _) iP (mh _ _) iQ ht
      ·rw[if_pos ht];exact cr.Uk l j _ _ _ _ _ _ _ _ h0 (mh _ _) iA (mh _ _) iB iO eB gB eA gA (mh _ _) iP (mh _ _) iQ ht
 ·by_cases h1:j.kind=1
  ·rw[if_neg (by omega)]
   cases hA:nth l.aa j.a with
   |none=>exact cr.e1 l j _ h0 h1 (mh _ _) (dH hA)
   |some A =>
    have iA:=dg hA
    obtain⟨kA,eA,gA⟩:=bX hA
    cases hB:nth l.aa j.b with
    |none=>exact cr.e2 l j _ _ h0 h1 (mh _ _) iA (mh _ _) (dH hB)
    |some B =>
     have iB:=dg hB
     obtain⟨kB,eB,gB⟩:=bX hB
     dsimp only
     by_cases iO:j.a=j.b
     ·rw[if_pos iO];exact cr.e3 l j _ _ h0 h1 (mh _ _) iA (mh _ _) iB iO
     rw[if_neg iO]
     cases hP:nth A.points j.bq with
     |none=>exact cr.e4 l j _ _ _ _ _ _ _ h0 h1 (mh _ _) iA (mh _ _) iB iO eB gB eA gA (mh _ _) (dH hP)
     |some P =>
      have iP:=dg hP
      cases hQ:nth B.points j.fD with
      |none=>exact cr.e5 l j _ _ _ _ _ _ _ _ h0 h1 (mh _ _) iA (mh _ _) iB iO eB gB eA gA (mh _ _) iP (mh _ _) (dH hQ)
      |some Q =>
       have iQ:=dg hQ
       dsimp only
       rw[if_neg h0]
       obtain⟨kQ,eQ,gQ⟩:=bX hQ
       cases hR:nth B.points j.fj with
       |none=>exact cr.e8 l j _ _ _ _ _ _ _ _ _ h0 h1 (mh _ _) iA (mh _ _) iB iO eB gB eA gA (mh _ _) iP (mh _ _) iQ (mh _ _) (dH hR)
       |some R =>
        have iR:=dg hR
        obtain⟨kR,eR,gR⟩:=bX hR
        dsimp only
        have fQ:=(hf.aa B (mq hB)).2 Q (mq hQ)
        have fR:=(hf.aa B (mq hB)).2 R (mq hR)
        by_cases hx:kO Q.x.val R.x.val=0
        ·by_cases hy:kO Q.y.val R.y.val=0
         ·rw[if_pos ⟨hx,hy⟩];exact cr.e9 l j _ _ _ _ _ _ _ _ _ _ _ _ _ _ _ h0 h1 (mh _ _) iA (mh _ _) iB iO eB gB eA gA (mh _ _) iP (mh _ _) iQ (mh _ _) iR eQ gQ eR gR (BL.EC _ _ fQ.2.1.r fR.2.1.r) hx (BL.EC _ _ fQ.2.2.r fR.2.2.r) hy
         ·rw[if_neg (fun h=>hy h.2)];exact cr.Ue l j _ _ _ _ _ _ _ _ _ _ _ _ _ _ _ h0 h1 (mh _ _) iA (mh _ _) iB iO eB gB eA gA (mh _ _) iP (mh _ _) iQ (mh _ _) iR eQ gQ eR gR (BL.EC _ _ fQ.2.1.r fR.2.1.r) hx (BL.EC _ _ fQ.2.2.r fR.2.2.r) hy
        ·rw[if_neg (fun h=>hx h.1)];exact cr.Uf l j _ _ _ _ _ _ _ _ _ _ _ _ _ _ h0 h1 (mh _ _) iA (mh _ _) iB iO eB gB eA gA (mh _ _) iP (mh _ _) iQ (mh _ _) iR eQ gQ eR gR (BL.EC _ _ fQ.2.1.r fR.2.1.r) hx
  ·rw[if_pos ⟨h0,h1⟩];exact cr.e0 l j h0 h1
theorem an(l:aj)(hf:iM l):Cp 55 [l.pv] (M1 (o8 l)):=by
 unfold o8
 by_cases gu:16<l.an.length
 ·rw[if_pos gu];exact dK.e0 l gu
 ·rw[if_neg gu]
  refine dK.e1 l (by omega) ?_
  refine jG (L:=fun i r=>dK.ar l i r) (R:=iE) (r0 := .bK) (fun i r hi hn => ?_) l.an.length 0 (by omega) (fun _=>dK.kM l l.an.length (Nat.le_refl _))
  have hv:=List.getElem?_eq_getElem hi
  generalize l.an[i]=v at hv
  have sr:=hf.an v (List.mem_of_getElem? hv)
  have e:pz l i=if dU v.name=false then 5 else if (l.an.take i).any (fun x=>decide (x.name=v.name))=true then 6 else jE l v:=by unfold pz;rw[hv]
  rw[e] at hn ⊢
  by_cases h1:dU v.name=false
  ·rw[if_pos h1]
   exact dK.dC l i v _ hi hv (Name _ sr) h1
  ·rw[if_neg h1] at hn ⊢
   refine dK.dD l i v _ hi hv (Name _ sr) (by simpa using h1) (by omega) ?_
   have key:=ji (p:=fun x=>decide (x.name=v.name)) (xs:=l.an.take i) (L:=fun g r=>dK.aJ l i (l.an.take i) (l.an.take i).length g v r) (A:=iE 6) (B:=if jE l v=0 then r else iE (jE l v))
    (fun g w hg hw hp=>dK.nK l i _ _ g v w hg hw (of_decide_eq_true hp))
    (fun g w r hg hw hp hL=>dK.nL l i _ _ g v w hg hw (of_decide_eq_false hp) (by rw[List.length_take] at hg;omega) hL)
    (fun sH => ?_)
   ·by_cases ha:(l.an.take i).any (fun x=>decide (x.name=v.name))=true
    ·rw[if_pos ha] at key ⊢
     exact key
    ·rw[if_neg ha] at key ⊢
     exact key
   ·rw[if_neg (by rw[sH];simp)] at hn
    have hj:=IK l hf v
    by_cases h0:jE l v=0
    ·rw[if_pos h0]
     rw[h0] at hj
     exact dK.vv l i _ _ _ v (Nat.le_refl _) hj (by omega) (hn h0)
    ·rw[if_neg h0]
     rw[mV h0] at hj
     exact dK.HY l i _ _ _ v _ (Nat.le_refl _) hj
theorem ak(l:aj)(hf:iM l):Cp 56 [l.pv] (M1 (ou l)):=by
 unfold ou
 by_cases gu:2<l.ak.length
 ·rw[if_pos gu];exact bB.e0 l gu
 ·rw[if_neg gu]
  refine bB.e1 l (by omega) ?_
  refine jG (L:=fun i r=>bB.ar l i r) (R:=iE) (r0 := .bK) (fun i r hi hn => ?_) l.ak.length 0 (by omega) (fun _=>bB.kM l l.ak.length (Nat.le_refl _))
  have hv:=List.getElem?_eq_getElem hi
  generalize l.ak[i]=v at hv
  have sr:=hf.ak v (List.mem_of_getElem? hv)
  have e:nI l i=if dU v.name=false then 5 else if (l.ak.take i).any (fun x=>decide (x.name=v.name))=true then 6 else dE l i v:=by unfold nI;rw[hv]
  rw[e] at hn ⊢
  by_cases h1:dU v.name=false
  ·rw[if_pos h1]
   exact bB.dC l i v _ hi hv (Name _ sr) h1
  ·rw[if_neg h1] at hn ⊢
   refine bB.dD l i v _ hi hv (Name _ sr) (by simpa using h1) (by omega) ?_
   by_cases ha:(l.ak.take i).any (fun x=>decide (x.name=v.name))=true
   ·rw[if_pos ha]
    have key:=ji (p:=fun x=>decide (x.name=v.name)) (xs:=l.ak.take i) (L:=fun g r=>bB.aJ i l i (l.ak.take i) (l.ak.take i).length g v r) (A:=iE 6) (B:=iE 6)
     (fun g w hg hw hp=>bB.nK i l i _ _ g v w hg hw (of_decide_eq_true hp))
     (fun g w r hg hw hp hL=>bB.nL i l i _ _ g v w hg hw (of_decide_eq_false hp) (by rw[List.length_take] at hg;omega) hL)
     (fun sH=>absurd ha (by rw[sH];simp))
    rw[if_pos ha] at key
    exact key
   ·rw[if_neg ha] at hn ⊢
    have go:∀{B:PV},bB.aJ i l i (l.ak.take i) (l.ak.take i).length (l.ak.take i).length v B→bB.aJ i l i (l.ak.take i) (l.ak.take i).length 0 v B:=fun {B} hB=>by
     have key:=ji (p:=fun x=>decide (x.name=v.name)) (xs:=l.ak.take i) (L:=fun g r=>bB.aJ i l i (l.ak.take i) (l.ak.take i).length g v r) (A:=iE 6) (B:=B)
      (fun g w hg hw hp=>bB.nK i l i _ _ g v w hg hw (of_decide_eq_true hp))
      (fun g w r hg hw hp hL=>bB.nL i l i _ _ g v w hg hw (of_decide_eq_false hp) (by rw[List.length_take] at hg;omega) hL)
      (fun _=>hB)
     rw[if_neg ha] at key
     exact key
    refine go ?_
    unfold dE at hn ⊢
    cases hb:nth l.aa v.body with
    |none =>
     exact bB.vv i l i _ _ _ v _ (Nat.le_refl _) (mh _ _) (dH hb)
    |some b =>
     rw[hb] at hn
     dsimp only at hn ⊢
     by_cases h0:v.body=0
     ·rw[if_pos h0]
      exact bB.HY i l i _ _ _ v _ (Nat.le_refl _) (mh _ _) (dg hb) h0
     ·rw[if_neg h0] at hn ⊢
      refine bB.NB i l i _ _ _ v _ (Nat.le_refl _) (mh _ _) (dg hb) h0 (by omega) ?_
      have key:=ji (p:=fun x=>decide (x.body=v.body)) (xs:=l.ak.take i) (L:=fun g r=>bB.cL l i (l.ak.take i) (l.ak.take i).length g v r) (A:=iE 6) (B:=r)
       (fun g w hg hw hp=>bB.H3 l i _ _ g v w hg hw (of_decide_eq_true hp))
       (fun g w r hg hw hp hL=>bB.Gb l i _ _ g v w hg hw (of_decide_eq_false hp) (by rw[List.length_take] at hg;omega) hL)
       (fun sH=>bB.Oy l i _ _ _ v (Nat.le_refl _) (by omega) (hn (by rw[if_neg (by rw[sH];simp)])))
      by_cases hc:(l.ak.take i).any (fun x=>decide (x.body=v.body))=true
      ·rw[if_pos hc] at key ⊢
       exact key
      ·rw[if_neg hc] at key ⊢
       exact key
theorem IL(e:Int):M1 e=di (if e=0 then none else some e):=by
 by_cases h:e=0
 ·subst h;rfl
 ·rw[mV h,if_neg h];rfl
theorem Check(l:aj)(hf:iM l):Cp 23 [l.pv] (M1 (gN l)):=by
 unfold gN
 have hN:=Name _ hf.name
 by_cases h1:dU l.name=false
 ·rw[if_pos h1];exact jd.e0 l _ hN h1
 ·rw[if_neg h1]
  have h1:dU l.name=true:=by simpa using h1
  by_cases h2:l.aa.length=0
  ·rw[if_pos h2];exact jd.e1 l _ hN h1 h2
  ·rw[if_neg h2]
   by_cases h3:8<l.aa.length
   ·rw[if_pos h3];exact jd.e2 l _ hN h1 h2 h3
   ·rw[if_neg h3]
    have hB:=aa l.aa hf.aa (by omega)
    by_cases h4:nH l.aa=0
    ·rw[if_neg (by omega)]
     rw[h4] at hB
     have hJ:=an l hf
     by_cases h5:o8 l=0
     ·rw[if_neg (by omega)]
      rw[h5] at hJ
      rw[IL]
      refine jd.e3 l _ _ hN h1 h2 (by omega) hB hJ ?_
      rw[←IL];exact ak l hf
     ·rw[if_pos h5,mV h5]
      rw[mV h5] at hJ
      exact jd.e4 l _ _ hN h1 h2 (by omega) hB hJ
    ·rw[if_pos h4,mV h4]
     rw[mV h4] at hB
     exact jd.e5 l _ _ hN h1 h2 (by omega) hB
end pA
end Go.Proofs.YtfjfekodeplcoaaGreat.Sym
namespace Go.Proofs.YtfjfekodeplcoaaGreat.Sym
open Go
set_option linter.unusedVariables false
section
variable {α:Type} (lt:α→α→Bool)
def yY(x:α):List α→List α
 |[]=>[x]
 |y::rp=>bif lt x y then yY x rp++[y] else rp.reverse++[y,x]
def isort:List α→List α→List α
 |D,[]=>D
 |D,x::T=>isort (yY lt x D.reverse) T
variable {lt}
theorem ss(x:α):∀(rp:List α),(yY lt x rp).Perm (x::rp.reverse)
 |[] => .refl _
 |y::rp=>by
  unfold yY
  cases lt x y with
  |true =>
   rw[cond_true,List.reverse_cons]
   exact(ss x rp).append_right [y]
  |false =>
   rw[cond_false,List.reverse_cons]
   have:(rp.reverse++[y,x]).Perm ([x]++(rp.reverse++[y])):=by
    rw[show rp.reverse++[y,x]=(rp.reverse++[y])++[x] by simp]
    exact List.perm_append_comm
   exact this
theorem C6(x:α)(rp:List α):(yY lt x rp).length=rp.length+1:=by rw[(ss x rp).length_eq,List.length_cons,List.length_reverse]
theorem tN:∀(T D:List α),(isort lt D T).Perm (D++T)
 |[],D=>by rw[isort,List.append_nil]
 |x::T,D=>by
  rw[isort]
  refine(tN T _).trans ?_
  have:=(ss (lt:=lt) x D.reverse).append_right T
  rw[List.reverse_reverse] at this
  exact this.trans List.perm_middle.symm
theorem Fy(OU:∀a b c,lt b a=false→lt c b=false→lt c a=false)(has:∀a b,lt a b=true→lt b a=false)(x:α):∀(rp:List α),rp.reverse.Pairwise (fun a b=>lt b a=false)→(yY lt x rp).Pairwise (fun a b=>lt b a=false)
 |[],_=>by simp[yY]
 |y::rp,h=>by
  rw[List.reverse_cons,List.pairwise_append] at h
  obtain⟨h1,_,h2⟩:=h
  unfold yY
  cases hc:lt x y with
  |true =>
   rw[cond_true,List.pairwise_append]
   refine⟨Fy OU has x rp h1,by simp,fun a ha b hb => ?_⟩
   have hb:b=y:=by simpa using hb
   subst hb
   rcases List.mem_cons.1 ((ss x rp).mem_iff.1 ha) with rfl|ha
   ·exact has _ _ hc
   ·exact h2 a ha b (List.mem_cons_self ..)
  |false =>
   rw[cond_false,List.pairwise_append]
   refine⟨h1,by simp[hc],fun a ha b hb => ?_⟩
   have hy:=h2 a ha y (List.mem_cons_self ..)
   rcases List.mem_cons.1 hb with rfl|hb
   ·exact hy
   ·have hb:b=x:=by simpa using hb
    subst hb
    exact OU _ _ _ hy hc
theorem yZ(OU:∀a b c,lt b a=false→lt c b=false→lt c a=false)(has:∀a b,lt a b=true→lt b a=false):∀(T D:List α),D.Pairwise (fun a b=>lt b a=false)→(isort lt D T).Pairwise (fun a b=>lt b a=false)
 |[],D,h=>h
 |x::T,D,h=>yZ OU has T _ (Fy OU has x D.reverse (by rw[List.reverse_reverse];exact h))
theorem eY{p s:List α}{x:α}{j:Nat}(h:p.length=j):(p++x::s)[j]? = some x:=by
 subst h;rw[List.getElem?_append_right (Nat.le_refl _),Nat.sub_self];rfl
theorem sl{p s:List α}{x y:α}{j:Nat}(h:p.length=j):(p++x::s).set j y=p++y::s:=by
 subst h;rw[List.set_append_right _ _ (Nat.le_refl _),Nat.sub_self];rfl
theorem C7{L1:List α→Prop}{L2:Nat→List α→Prop}
  (h0:∀X,L1 X→L2 0 X)
  (cN:∀j X x y,X[j+1]? = some x→X[j]? = some y→lt x y=true→L2 j ((X.set (j+1) y).set j x)→L2 (j+1) X)
  (vb:∀j X x y,X[j+1]? = some x→X[j]? = some y→lt x y=false→L1 X→L2 (j+1) X) (x:α) :
  ∀(rp s:List α),L1 (yY lt x rp++s)→L2 rp.length (rp.reverse++x::s)
 |[],s,h=>h0 _ h
 |y::rp,s,h=>by
  have e:(y::rp).reverse++x::s=rp.reverse++y::x::s:=by simp
  have e1:(rp.reverse++y::x::s)[rp.length]? = some y:=eY (List.length_reverse ..)
  have e2:(rp.reverse++y::x::s)[rp.length+1]? = some x:=by
   have:rp.reverse++y::x::s=(rp.reverse++[y])++x::s:=by simp
   rw[this];exact eY (by simp)
  rw[e]
  unfold yY at h
  cases hc:lt x y with
  |true =>
   rw[hc,cond_true] at h
   refine cN rp.length _ x y e2 e1 hc ?_
   have e3:((rp.reverse++y::x::s).set (rp.length+1) y).set rp.length x=rp.reverse++x::y::s:=by
    have:rp.reverse++y::x::s=(rp.reverse++[y])++x::s:=by simp
    rw[this,sl (by simp),show(rp.reverse++[y])++y::s=rp.reverse++y::y::s by simp,sl (List.length_reverse ..)]
   rw[e3]
   refine C7 h0 cN vb x rp (y::s) ?_
   rwa[List.append_assoc] at h
  |false =>
   rw[hc,cond_false] at h
   refine vb rp.length _ x y e2 e1 hc ?_
   rwa[List.append_assoc] at h
theorem tO{L1:Nat→List α→Prop}{L2:Nat→Nat→List α→Prop}{n:Nat}
  (enter:∀i X,i<n→X.length=n→L2 i i X→L1 i X)
  (h0:∀i X,i<n→X.length=n→L1 (i+1) X→L2 i 0 X)
  (cN:∀i j X x y,i<n→j+1≤i→X.length=n→X[j+1]? = some x→X[j]? = some y→lt x y=true→L2 i j ((X.set (j+1) y).set j x)→L2 i (j+1) X)
  (vb:∀i j X x y,i<n→j+1≤i→X.length=n→X[j+1]? = some x→X[j]? = some y→lt x y=false→L1 (i+1) X→L2 i (j+1) X) :
  ∀(T D:List α),D.length+T.length=n→L1 n (isort lt D T)→L1 D.length (D++T)
 |[],D,hn,h=>by
  have:D.length=n:=by simpa using hn
  rw[List.append_nil,this];exact h
 |x::T,D,hn,h=>by
  rw[List.length_cons] at hn
  have hlen:(D++x::T).length=n:=by rw[List.length_append,List.length_cons];omega
  refine enter D.length _ (by omega) hlen ?_
  have key:=C7 (lt:=lt) (L1:=fun X=>X.length=n→L1 (D.length+1) X) (L2:=fun j X=>j≤D.length→X.length=n→L2 D.length j X)
   (fun X hX _ hl=>h0 _ X (by omega) hl (hX hl))
   (fun j X x y hx hy hc hX hj hl=>cN _ j X x y (by omega) hj hl hx hy hc (hX (by omega) (by rw[List.length_set,List.length_set];exact hl)))
   (fun j X x y hx hy hc hX hj hl=>vb _ j X x y (by omega) hj hl hx hy hc (hX hl)) x D.reverse T
   (fun _=>by
    have:=tO enter h0 cN vb T (yY lt x D.reverse) (by rw[C6,List.length_reverse];omega) h
    rwa[C6,List.length_reverse] at this)
  rw[List.reverse_reverse,List.length_reverse] at key
  exact key (Nat.le_refl _) hlen
end
end Go.Proofs.YtfjfekodeplcoaaGreat.Sym
namespace Go.Proofs.YtfjfekodeplcoaaGreat.Sym
open Go Go.RowKit Go.Shelf
set_option linter.unusedVariables false
theorem wx.grow(hS:Nn){w w':World}(h:wx w.heap.size w w'):∃q S0,w'=Sort.grow (w.drewN q) S0:=by
 refine⟨w'.drawn-w.drawn,w'.heap.extract w.heap.size w'.heap.size,?_⟩
 obtain⟨⟨h1,h2,h3,h4,h5⟩,h6⟩:=h
 have h6:=h6 hS
 obtain⟨hp,tp,dr,os,out⟩:=w
 obtain⟨hp',VG,S1,S0,UN⟩:=w'
 simp only[Sort.grow,World.drewN] at *
 subst h1;subst h2;subst h3
 have e1:dr+(S1-dr)=S1:=by omega
 have e2:hp++hp'.extract hp.size hp'.size=hp':=by
  apply Array.ext_getElem?
  intro i
  by_cases hi:i<hp.size
  ·rw[Array.getElem?_append_left hi,h5 i hi]
  ·rw[Array.getElem?_append_right (by omega),Array.getElem?_extract]
   by_cases hj:i<hp'.size
   ·rw[if_pos (by omega)]
    congr 1;omega
   ·rw[if_neg (by omega),Array.getElem?_eq_none (by omega)]
 rw[e1,e2]
def sI(arr:Array Value)(off k n x:Nat):List Value:=(List.range k).map fun j=>arr.getD (off+((bif Nat.blt x n then x else 0)*k+j)) undef
theorem uP(arr:Array Value)(off k n x:Nat):(sI arr off k n x).length=k:=by simp[sI]
def GR(n x:Nat):Nat:=bif Nat.blt x n then x else 0
theorem qR{n x:Nat}(h:0<n):GR n x<n:=by
 unfold GR
 cases hb:Nat.blt x n with
 |true=>exact Nat.le_of_ble_eq_true hb
 |false=>exact h
theorem BM{n x:Nat}(h:x<n):GR n x=x:=by
 unfold GR
 have:Nat.blt x n=true:=Nat.ble_eq_true_of_le h
 rw[this];rfl
theorem y0{arr:Array Value}{off k n x j:Nat}(hj:j<k):(sI arr off k n x)[j]? = some (arr.getD (off+(GR n x*k+j)) undef):=by
 unfold sI
 rw[List.getElem?_map,List.getElem?_range hj]
 rfl
def Gm(c:List PV→List PV→Int)(xs:List (List PV))(x y:Nat):Int:=c (xs.getD (GR xs.length x) []) (xs.getD (GR xs.length y) [])
structure IM (c:List PV→List PV→Int) (xs:List (List PV)):Prop where
 irrefl:∀a∈xs,¬c a a<0
 trans:∀a∈xs,∀b∈xs,∀d∈xs,c a b<0→c b d<0→c a d<0
 ntrans:∀a∈xs,∀b∈xs,∀d∈xs,¬c a b<0→¬c b d<0→¬c a d<0
theorem mJ{α:Type}{xs:List α}{i:Nat}{d:α}(h:i<xs.length):xs.getD i d∈xs:=by
 rw[List.getD_eq_getElem?_getD,List.getElem?_eq_getElem h,Option.getD_some]
 exact List.getElem_mem h
theorem IM.IN{c:List PV→List PV→Int}{xs:List (List PV)}(h:IM c xs)(h0:0<xs.length):Sort.SWO (ltOf (Gm c xs)) where
 irrefl x:=by
  have:=h.irrefl _ (mJ (d:=[]) (qR (x:=x) h0))
  unfold ltOf Gm;exact decide_eq_false this
 trans x y z h1 h2:=by
  unfold ltOf Gm at *
  exact decide_eq_true (h.trans _ (mJ (qR h0)) _ (mJ (qR h0)) _ (mJ (qR h0)) (of_decide_eq_true h1) (of_decide_eq_true h2))
 ntrans x y z h1 h2:=by
  unfold ltOf Gm at *
  exact decide_eq_false (h.ntrans _ (mJ (qR h0)) _ (mJ (qR h0)) _ (mJ (qR h0)) (of_decide_eq_false h1) (of_decide_eq_false h2))
def gd(c:List PV→List PV→Int)(xs:List (List PV)):Array Nat:=Sort.pdq (ltOf (Gm c xs)) (Array.range xs.length) 0 xs.length (Lib.bitLen xs.length) true true
def lK(c:List PV→List PV→Int)(xs:List (List PV)):List (List PV):=(gd c xs).toList.map (xs.getD · [])
section
variable {c:List PV→List PV→Int} {xs:List (List PV)}
theorem mK(h:IM c xs)(h0:0<xs.length):(gd c xs).toList.Perm (List.range xs.length)∧Sort.SortedIn (ltOf (Gm c xs)) 0 xs.length (gd c xs):=by
 obtain⟨⟨g1,g2,g3⟩,g4⟩:=Sort.pdq_sorts (ltOf (Gm c xs)) (h.IN h0) (Array.range xs.length) 0 xs.length (Lib.bitLen xs.length) true true (Nat.zero_le _) (by simp) (Or.inl rfl)
 refine⟨?_,g4⟩
 rw[Array.size_range] at g1
 have e1:((Sort.pdq (ltOf (Gm c xs)) (Array.range xs.length) 0 xs.length (Lib.bitLen xs.length) true true).extract 0 xs.length)=gd c xs:=by
  show(gd c xs).extract 0 xs.length=_
  have:xs.length=(gd c xs).size:=g1.symm
  generalize gd c xs=z at this
  rw[this]
  exact Array.extract_size
 have e2:(Array.range xs.length).extract 0 xs.length=Array.range xs.length:=by
  conv=>lhs;arg 3;rw[←Array.size_range (n:=xs.length)]
  exact Array.extract_size
 rw[e1,e2,Array.toList_range] at g3
 exact g3
theorem wq(h:IM c xs)(h0:0<xs.length):(gd c xs).size=xs.length:=by
 have:=(mK h h0).1.length_eq
 simpa using this
theorem su(h:IM c xs)(h0:0<xs.length){i:Nat}(hi:i∈(gd c xs).toList):i<xs.length:=by
 have:=(mK h h0).1.mem_iff.1 hi
 simpa using this
theorem zc{α:Type}(l:List α)(d:α):(List.range l.length).map (l.getD · d)=l:=by
 apply List.ext_getElem?
 intro i
 rw[List.getElem?_map]
 by_cases hi:i<l.length
 ·rw[List.getElem?_range hi,Option.map_some,List.getD_eq_getElem?_getD,List.getElem?_eq_getElem hi];rfl
 ·rw[List.getElem?_eq_none (by simpa using hi),List.getElem?_eq_none (by omega)];rfl
theorem wu(h:IM c xs)(h0:0<xs.length):(lK c xs).Perm xs:=by
 have:=(mK h h0).1.map (xs.getD · [])
 rw[zc] at this
 exact this
theorem zO(h:IM c xs)(h0:0<xs.length):(lK c xs).Pairwise fun a b=>¬c b a<0:=by
 unfold lK
 rw[List.pairwise_map,List.pairwise_iff_getElem]
 intro i j hi hj zo
 have hs:=wq h h0
 have HI:i<xs.length:=by rw[←hs];simpa using hi
 have UO:j<xs.length:=by rw[←hs];simpa using hj
 have:=(mK h h0).2 i j (Nat.zero_le _) zo UO
 have e:∀(q:Nat) (hq:q<(gd c xs).toList.length),(gd c xs)[q]! = (gd c xs).toList[q]:=fun q hq=>by
  rw[getElem!_pos _ q (by simpa using hq)];rfl
 rw[e j hj,e i hi] at this
 have h1:=of_decide_eq_false (p:=Gm c xs _ _<0) this
 unfold Gm at h1
 rw[BM (su h h0 (List.getElem_mem hj)),BM (su h h0 (List.getElem_mem hi))] at h1
 exact h1
end
theorem zd(enc:Nat→List Value)(k:Nat)(w:World)(b off m:Nat)(d:Array Nat)(os:Array Obj)(x:Nat)(hx:x<w.heap.size) :
  (sortWorldK enc k w b off m d os).heap[x]? = if b=x then w.heap[x]?.map (Sort.onCells (Sort.putCells id off (Sort.flatK enc k d))) else w.heap[x]? := by
 unfold sortWorldK Sort.putRowK Sort.putRow Sort.mapBlock Sort.grow Sort.ahead
 simp only
 rw[Array.getElem?_append_left (by simpa using hx),Array.getElem?_modify]
theorem tP(enc:Nat→List Value)(k:Nat)(w:World)(b off m:Nat)(d:Array Nat)(os:Array Obj) :
  (sortWorldK enc k w b off m d os).heap.size=w.heap.size+os.size:=by
 unfold sortWorldK Sort.putRowK Sort.putRow Sort.mapBlock Sort.grow Sort.ahead
 simp
end Go.Proofs.YtfjfekodeplcoaaGreat.Sym
