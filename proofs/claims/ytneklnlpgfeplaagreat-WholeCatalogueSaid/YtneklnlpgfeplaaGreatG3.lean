/- Lemmas for the statements of this seat. -/
import Derived.Test.YtneklnlpgfeplaaGreatG2
import Derived.Test.YtneklnlpgfeplaaGreatP4
import Derived.Test.YtneklnlpgfeplaaGreatP0
import Derived.Test.YtneklnlpgfeplaaGreatW13
import Derived.Test.YtneklnlpgfeplaaGreatW24
import Derived.Shelf.SlicesE.Clone
import Derived.KernelRfl
import Derived.Shelf.Lays
import Derived.Shelf.SlLaysE0
import Derived.Test.YtneklnlpgfeplaaGreatChecked
import Derived.Test.YtneklnlpgfeplaaGreatP5
import Derived.Test.YtneklnlpgfeplaaGreatW25
import Derived.RangeFuncRecord
import Derived.RangeFuncCalls
import Derived.OrdersIn
import Derived.Test.YtneklnlpgfeplaaGreatW26
namespace Go.Proofs.YtneklnlpgfeplaaGreat.Sym
open Go Path eJ C9
set_option linter.unusedVariables false
abbrev FS(kn dr us:List Bool)(gs:List aC):aY:=[(100000,(.lit [(.pv (.str lk.name)),(.pv (an aK.cells lk.ai)),(.pv (an az.cells lk.au)),(.pv (an ax.cells lk.aB)),(.row 100001 0 kn.length 1),(.row 100002 0 dr.length 1),(.row 100003 0 us.length 1),(.row 100004 0 gs.length 4)])),(100001,(.pure ((kn:List Bool).map ak).flatten)),(100002,(.pure ((dr:List Bool).map ak).flatten)),(100003,(.pure ((us:List Bool).map ak).flatten)),(100004,(pC aC.cells gs))]
def F7(j:az)(b:Int):Int:=if b=j.a then j.b else if b=j.b then j.a else -1
def pK(kn:List Bool)(b:Int)(j:az):Bool:=if 0≤F7 j b then kn.getD (F7 j b).toNat false else false
def pP(o b:Int)(j:az):Bool:=if 0≤F7 j b then F7 j b==o else false
def LO(o:Option Nat):Int:=match o with
 |some k=>(k:Int)
 |none => -1
def RI(p:az→Bool):Int:=LO (lk.au.findIdx? p)
theorem xT{α:Type}{p:α→Bool}{xs:List α}{L:Nat→Int→Prop}(Na:∀g v,g<xs.length→xs[g]? = some v→p v=true→L g (g:Int))(step:∀g v r,g<xs.length→xs[g]? = some v→p v=false→L (g+1) r→L g r)(stop:L xs.length (-1)) :
  L 0 (LO (xs.findIdx? p)):=by
 have key:∀n g,g+n=xs.length→L g (match (xs.drop g).findIdx? p with|some k=>((g+k:Nat):Int)|none => -1):=by
  intro n
  induction n with
  |zero =>intro g hg;rw[adZ (by omega)];rw[show g=xs.length by omega];exact stop
  |succ n ih =>
   intro g hg;have cT:g<xs.length:=by omega
   have hv:=abJ cT;rw[acx cT,List.findIdx?_cons];cases hp:p xs[g] with
   |true=>exact Na g _ cT hv hp
   |false =>
    refine step g _ _ cT hv hp ?_;have:=ih (g+1) (by omega);simp only[Bool.false_eq_true,if_false];cases hf:(xs.drop (g+1)).findIdx? p with
    |none=>rw[hf] at this;exact this
    |some k =>
     rw[hf] at this;have e:g+(k+1)=g+1+k:=by omega
     simp only[Option.map_some,e];exact this
 have:=key xs.length 0 (by omega);rw[adg] at this;simp only[Nat.zero_add] at this;unfold LO;cases hf:xs.findIdx? p<;>rw[hf] at this<;>exact this
namespace Mz
theorem TG:∀j∈lk.au,j.kind=0∧0≤j.a∧j.a<4∧0≤j.b∧j.b<4:=by simp[lk]
theorem other(j:az)(b:Int):Cp 280 [j.pv,vI b] (vI (F7 j b)):=by
 unfold F7;by_cases h1:b=j.a
 ·rw[ac7 h1];exact oq.e0 j b h1
 ·rw[ac3 h1];by_cases h2:b=j.b
  ·rw[ac7 h2];exact oq.e1 j b h1 h2
  ·rw[ac3 h2];exact oq.e2 j b h1 h2
theorem QY{j:az}(hj:j∈lk.au)(b:Int):F7 j b<4:=by
 have:=TG j hj;unfold F7;split
 ·omega
 ·split<;>omega
theorem BM(kn dr us:List Bool)(gs:List aC)(hk:kn.length=4)(b:Int):ag aV 248 [(.ptr 100000 0),eI 0,eI b] (FS kn dr us gs) (.pv (vI (RI (pK kn b)))) (FS kn dr us gs):=by
 have j1:∀j∈lk.au,ag aV 279 [(.pv j.pv),(.ptr 100020 0),(.ptr 100021 0),(.ptr 100022 0)] ((100020,(.lit [eI b]))::(100021,(.lit [eI 0]))::(100022,(.lit [(.cM 276 [100000] [])]))::FS kn dr us gs) (.pv (vB (pK kn b j))) ((100020,(.lit [eI b]))::(100021,(.lit [eI 0]))::(100022,(.lit [(.cM 276 [100000] [])]))::FS kn dr us gs):=by
  intro j hj;have ol:=QY hj b;unfold pK;by_cases h:0≤F7 j b
  ·rw[ac7 h];refine iF.e0 lk kn dr us gs b 0 j _ _ (other j b) (TG j hj).1 h ?_;have cT:(F7 j b).toNat<kn.length:=by omega
   have e:=abJ cT;have:=mA.e0 lk kn dr us gs (F7 j b) (F7 j b).toNat _ (by omega) cT e;rwa[show kn.getD (F7 j b).toNat false=kn[(F7 j b).toNat] from by rw[adG,e];rfl]
  ·rw[ac3 h];exact iF.e1 lk kn dr us gs b 0 j _ (other j b) (TG j hj).1 (by omega)
 refine ma.e0 lk kn dr us gs 0 b _ (nD.e0 lk kn dr us gs 0 b _ (dK.e0 lk kn dr us gs b 0 lk.au ?_));have h4:lk.au.length=4:=rfl;exact xT (xs:=lk.au) (p:=pK kn b) (L:=fun i r=>dK.ay lk.au i lk kn dr us gs b 0 _ (.pv (vI r)) _)
  (fun g v hg hv hp=>dK.eu lk.au g lk kn dr us gs b 0 v true rfl rfl hg hv (hp ▸ j1 v (ac5 hv)) rfl)
  (fun g v r hg hv hp hL=>dK.dp lk.au g lk kn dr us gs b 0 v false rfl hg hv (hp ▸ j1 v (ac5 hv)) rfl (by omega) hL)
  (dK.im lk.au 4 lk kn dr us gs b 0 rfl rfl (by omega))
theorem QZ(kn dr us:List Bool)(gs:List aC)(o b:Int):ag aV 250 [(.ptr 100000 0),eI 0,eI b,(.cM 251 [] [100009])] (FS kn dr us gs++[(100009,(.lit [eI o]))]) (.pv (vI (RI (pP o b)))) (FS kn dr us gs++[(100009,(.lit [eI o]))]):=by
 have j1:∀j∈lk.au,ag aV 279 [(.pv j.pv),(.ptr 100020 0),(.ptr 100021 0),(.ptr 100022 0)] [(100020,(.lit [eI b])),(100021,(.lit [eI 0])),(100022,(.lit [(.cM 251 [] [100009])])),(100009,(.lit [eI o]))] (.pv (vB (pP o b j))) [(100020,(.lit [eI b])),(100021,(.lit [eI 0])),(100022,(.lit [(.cM 251 [] [100009])])),(100009,(.lit [eI o]))]:=by
  intro j hj;unfold pP;by_cases h:0≤F7 j b
  ·rw[ac7 h];exact iG.e0 o b 0 j _ _ (other j b) (TG j hj).1 h (nF.e0 o (F7 j b))
  ·rw[ac3 h];exact iG.e1 o b 0 j _ (other j b) (TG j hj).1 (by omega)
 refine nE.e0 lk kn dr us gs o 0 b _ (dM.e0 o b 0 lk.au ?_);have h4:lk.au.length=4:=rfl;exact xT (xs:=lk.au) (p:=pP o b) (L:=fun i r=>dM.ay lk.au i o b 0 _ (.pv (vI r)) _)
  (fun g v hg hv hp=>dM.eu lk.au g o b 0 v true rfl rfl hg hv (hp ▸ j1 v (ac5 hv)) rfl)
  (fun g v r hg hv hp hL=>dM.dp lk.au g o b 0 v false rfl hg hv (hp ▸ j1 v (ac5 hv)) rfl (by omega) hL)
  (dM.im lk.au 4 o b 0 rfl rfl (by omega))
def gN:aC:=⟨0,[],[],0⟩
abbrev k0:List Bool:=[true,false,false,false]
abbrev k1:List Bool:=[true,true,false,false]
abbrev k2:List Bool:=[true,true,true,true]
abbrev d0:List Bool:=[false,true,false,false]
abbrev u0:List Bool:=[false,false,false,false]
abbrev u1:List Bool:=[true,false,false,false]
theorem NY:ag aV 198 [(.ptr 100000 0)] (FS k0 d0 u0 []) (.pv (.bg [dU.pv,vB true])) (FS k0 d0 u0 []) :=
 ag.pE (pre:=[(2,(.lit [eI 0,(.pv (an aj [(1:Int)])),(.pv (an aj [(0:Int)])),(eI ((0:Nat):Int))]))]) (eF.e0 lk k0 d0 u0 [] (eF.dp lk 0 k0 d0 u0 [] ⟨(ByteArray.mk #[100]),1⟩ 1 false 0 rfl rfl (by decide) rfl rfl (by decide) rfl rfl
  (by have:=BM k0 d0 u0 [] rfl 1;rwa[show RI (pK k0 1)=0 from by decide +kernel] at this) (by omega))) rfl rfl
theorem Iv(kn us:List Bool)(gs:List aC)(hk:kn.length=4)(h:kn[1]? = some true):ag aV 198 [(.ptr 100000 0)] (FS kn d0 us gs) (.pv (.bg [gN.pv,vB false])) (FS kn d0 us gs) :=
 ag.pE (pre:=[(2,(.lit [eI 0,(.pv (.list [])),(.pv (.list [])),eI 0]))]) (eF.e0 lk kn d0 us gs (eF.eu lk 0 kn d0 us gs ⟨(ByteArray.mk #[100]),1⟩ 1 true rfl (by decide) rfl rfl (by omega) h rfl (by omega) (eF.ym lk 1 kn d0 us gs rfl rfl (by decide)))) rfl rfl
theorem free(kn us:List Bool)(gs:List aC)(i:Nat)(a b:Bool)(h1:kn[i]? = some a)(h2:d0[i]? = some b):ag aV 252 [(.ptr 100000 0),eI (i:Int)] (FS kn d0 us gs) (.pv (vB (!a && !b))) (FS kn d0 us gs):=by
 have l1:i<kn.length:=(abL.1 h1).1;have l2:i<d0.length:=(abL.1 h2).1;cases a with
 |true=>exact kQ.e1 lk kn d0 us gs i i true rfl l1 h1 rfl
 |false=>exact kQ.e0 lk kn d0 us gs i i false i b rfl l1 h1 rfl rfl l2 h2
theorem NZ:ag aV 200 [(.ptr 100000 0)] (FS k2 d0 k2 [dU,eL]) (.pv (.bg [gN.pv,vB false])) (FS k2 d0 k2 [dU,eL]):=by
 refine ag.pE (pre:=[(2,(.lit [eI 0,(.pv (.list [])),(.pv (.list [])),eI 0]))]) (dP.e0 lk k2 d0 k2 [dU,eL] ?_) rfl rfl;have st:∀i,i<4→∀{r:EV} {sin sout:aY},dX dP.fn sin→dP.ay lk (i+1) k2 d0 k2 [dU,eL] sin r sout→dP.ay lk i k2 d0 k2 [dU,eL] sin r sout:=by
  intro i hi r sin sout hs hL;have hk:k2[i]? = some true:=by
   have:i=0∨i=1∨i=2∨i=3:=by omega
   rcases this with rfl|rfl|rfl|rfl<;>rfl
  have hd:d0[i]? = some d0[i]:=abJ hi;exact dP.eu lk i k2 d0 k2 [dU,eL] false hs hi (free k2 k2 [dU,eL] i true _ hk hd) rfl (by omega) hL
 refine st 0 (by omega) rfl (st 1 (by omega) rfl (st 2 (by omega) rfl (st 3 (by omega) rfl ?_)));exact dP.Mv lk 4 k2 d0 k2 [dU,eL] rfl rfl (by decide)
def yE:Prop:=ag aV 199 [(.ptr 100000 0)] (FS k1 d0 u1 [dU]) (.pv (.bg [eL.pv,vB true])) (FS k1 d0 u1 [dU]) ∧
 ag aV 199 [(.ptr 100000 0)] (FS k2 d0 k2 [dU,eL]) (.pv (.bg [gN.pv,vB false])) (FS k2 d0 k2 [dU,eL])
theorem TH:ag aV 152 [(.ptr 100000 0)] (FS k0 d0 u0 []) (.pv (.bg [dU.pv,vB true])) (FS k0 d0 u0 []):=iE.e0 lk k0 d0 u0 [] dU true NY rfl
theorem TI(P:yE):ag aV 152 [(.ptr 100000 0)] (FS k1 d0 u1 [dU]) (.pv (.bg [eL.pv,vB true])) (FS k1 d0 u1 [dU]):=iE.e1 lk k1 d0 u1 [dU] gN false eL true (Iv k1 u1 [dU] rfl rfl) rfl P.1 rfl
theorem TJ(P:yE):ag aV 152 [(.ptr 100000 0)] (FS k2 d0 k2 [dU,eL]) (.pv (.bg [gN.pv,vB false])) (FS k2 d0 k2 [dU,eL]):=iE.e2 lk k2 d0 k2 [dU,eL] gN false gN false gN false (Iv k2 k2 [dU,eL] rfl rfl) rfl P.2 rfl NZ
theorem find(P:yE):ag aV 112 [.pv lk.pv] [] (.iu 0 0 [.ar]) [(0,(.lit [(.pv (.str lk.name)),(.pv (an aK.cells lk.ai)),(.pv (an az.cells lk.au)),(.pv (an ax.cells lk.aB)),(.row 1 0 k2.length 1),(.row 2 0 d0.length 1),(.row 3 0 k2.length 1),(.row 4 0 [dU,eL].length 4)])),(1,(.pure ((k2:List Bool).map ak).flatten)),(2,(.pure ((d0:List Bool).map ak).flatten)),(3,(.pure ((k2:List Bool).map ak).flatten)),(4,(pC aC.cells [dU,eL]))]:=by refine cV.e0 lk UT.Check (by decide) (by decide) (by decide) (by decide) ?_;refine cV.eu lk 0 _ ⟨(ByteArray.mk #[100]),1⟩ 1 rfl (by decide) rfl rfl (by decide) (by decide) (by omega) ?_;refine cV.dp lk 1 _ dU true rfl (by decide) TH ?_;refine cV.yn true dU _ _ _ lk _ rfl rfl ?_;refine cV.RA [1] 1 0 dU _ _ _ lk _ 1 1 rfl (by decide) rfl rfl (by decide) (by decide) (by omega) ?_;refine cV.P2 [1] 1 1 dU _ _ _ lk _ rfl (by decide) ?_;refine cV.P4 [0] 1 0 dU _ _ _ lk _ 0 0 rfl (by decide) rfl rfl (by decide) (by decide) (by omega) ?_;refine cV.P5 [0] 1 1 dU _ _ _ lk _ eL true rfl (by decide) (by simp) (TI P) ?_;refine cV.yn true eL _ _ _ lk _ rfl rfl ?_;refine cV.RA [2,3] 2 0 eL _ _ _ lk _ 2 2 rfl (by decide) rfl rfl (by decide) (by decide) (by omega) ?_;refine cV.RA [2,3] 2 1 eL _ _ _ lk _ 3 3 rfl (by decide) rfl rfl (by decide) (by decide) (by omega) ?_;refine cV.P2 [2,3] 2 2 eL _ _ _ lk _ rfl (by decide) ?_;refine cV.P4 [1,3,2] 3 0 eL _ _ _ lk _ 1 1 rfl (by decide) rfl rfl (by decide) (by decide) (by omega) ?_;refine cV.P4 [1,3,2] 3 1 eL _ _ _ lk _ 3 3 rfl (by decide) rfl rfl (by decide) (by decide) (by omega) ?_;refine cV.P4 [1,3,2] 3 2 eL _ _ _ lk _ 2 2 rfl (by decide) rfl rfl (by decide) (by decide) (by omega) ?_;refine cV.P5 [1,3,2] 3 3 eL _ _ _ lk _ gN false rfl (by decide) (by simp) (TJ P) ?_;exact cV.zf false gN _ _ _ lk _ rfl rfl rfl
theorem Y3(l:List Bool)(h:l=k2):Cp 113 [an ak l,vB false] (vB false):=by subst h;exact nC.e0 k2 false _ (eT.e0 k2 false (eT.dp k2 false 0 true (by decide) rfl (by decide) (by omega) (eT.dp k2 false 1 true (by decide) rfl (by decide) (by omega) (eT.dp k2 false 2 true (by decide) rfl (by decide) (by omega) (eT.dp k2 false 3 true (by decide) rfl (by decide) (by omega) (eT.im k2 false 4 (by decide)))))))
theorem Split(P:yE):Cp 75 [lk.pv] (.bg [an aC.cells [dU,eL],.ar]):=wY.e2 lk lk k2 d0 k2 [dU,eL] false false (find P) (Y3 _ rfl) rfl (Y3 _ rfl) rfl
end Mz
open gQ (jS)
open BX (T1)
namespace Xo
theorem Y4(m:Nat)(h:m<256):∃b,Cp 203 [vU m] (vI b) :=
 ⟨_,uS.e0 m _ (sf.e7 m m (blen m) (by omega) (by omega) h (acg h) (K9.Bp h) (by have:=pZ (n:=m) (k:=8) h;omega) (by have:=pZ (n:=m) (k:=8) h;omega))⟩
theorem contains(s:List Int)(hs:s.length≤1000)(v:Int):Cp 201 [an aj s,vI v] (vB (s.contains v)):=by
 have h:=xT (xs:=s) (p:=fun x=>v==x) (L:=fun i r=>fX.ay s v i (vI r))
  (fun g x hg hx hp=>fX.eu s v g x hg hx (by simpa using hp))
  (fun g x r hg hx hp hL=>fX.dp s v g x hg hx (by simpa using hp) (by omega) hL)
  (fX.im s v _ (abW _))
 have c:=n9.e0 s v _ (fX.e0 s v h);have e:decide (LO (s.findIdx? (fun x=>v==x))≥0)=s.contains v:=by
  unfold LO;cases hf:s.findIdx? (fun x=>v==x) with
  |some k =>
   obtain⟨h1,h2,_⟩:=List.findIdx?_eq_some_iff_getElem.1 hf;have:v=s[k]:=by simpa using h2
   have hm:v∈s:=this ▸ acj h1;simp[hm]
  |none =>
   have:=List.findIdx?_eq_none_iff.1 hf;have hm:v ∉ s:=fun hm=>by have:=this v hm;simp at this
   simp[hm]
 rwa[e] at c
theorem TL(g:aC)(z:List Int)(hL:eV.ay [] g 0 lk [] (.jA 0 0 z.length 1 [.ar]) [(0,(.pure ((z:List Int).map aj).flatten))]):ag aV 154 [.pv lk.pv,.pv g.pv] [] (.jA 0 0 z.length 1 [.ar]) [(0,(.pure ((z:List Int).map aj).flatten))] :=
 eV.e0 lk g UT.Check hL
theorem LP:ag aV 154 [.pv lk.pv,.pv dU.pv] [] (.jA 0 0 [(0:Int)].length 1 [.ar]) [(0,(.pure (([0]:List Int).map aj).flatten))]:=by refine TL dU [0] ?_;refine eV.ym [] dU 0 lk 0 0 ⟨(ByteArray.mk #[111]),0,1,0,0,0,0⟩ true false rfl (by decide) rfl (by decide) (by decide) rfl rfl (contains [1] (by decide) 1) (contains [1] (by decide) 0) rfl rfl (by decide) (by omega) ?_;exact eV.Mv [0] dU 1 lk rfl rfl (by decide)
theorem LQ:ag aV 154 [.pv lk.pv,.pv eL.pv] [] (.jA 0 0 [(1:Int),0, -1].length 1 [.ar]) [(0,(.pure (([1,0, -1]:List Int).map aj).flatten))]:=by refine TL eL [1,0, -1] ?_;refine eV.ym [] eL 0 lk 1 1 ⟨(ByteArray.mk #[97]),0,2,0,1,1,0⟩ true false rfl (by decide) rfl (by decide) (by decide) rfl rfl (contains [2,3] (by decide) 2) (contains [2,3] (by decide) 1) rfl rfl (by decide) (by omega) ?_;refine eV.ym [1] eL 1 lk 3 3 ⟨(ByteArray.mk #[113]),0,3,0,0,1,0⟩ true false rfl (by decide) rfl (by decide) (by decide) rfl rfl (contains [2,3] (by decide) 3) (contains [2,3] (by decide) 0) rfl rfl (by decide) (by omega) ?_;refine eV.im [1,0] eL 2 lk 2 2 ⟨(ByteArray.mk #[98]),0,3,1,2,1,0⟩ true true rfl (by decide) rfl (by decide) (by decide) rfl rfl (contains [2,3] (by decide) 3) (contains [2,3] (by decide) 2) rfl rfl (by decide) (by omega) ?_;exact eV.Mv [1,0, -1] eL 3 lk rfl rfl (by decide)
theorem less(x y:Int):Cp 260 [vI x,vI y] (vB (decide (x<y))):=wX.e2 x y _ (u6.e0 x) (by simp)
theorem TM:ag aV 155 [.row 100000 0 [(0:Int)].length 1] [(100000,(.pure (([0]:List Int).map aj).flatten))] (.pv (.bg [])) [(100000,(.pure (([0]:List Int).map aj).flatten))]:=by obtain⟨b,hb⟩:=Y4 1 (by decide);refine nV.e0 [0] 0 1 1 b [0] (by decide) hb (dZ.e0 [0] 0 1 0 1 b (dZ.eu 0 1 0 1 b [0] [0] rfl rfl (by unfold bf;decide) (by decide) (bu.e0 [0] 0 1 0 1 (by unfold bf;decide) ?_)));exact bu.dp 0 1 0 1 1 [0] rfl rfl (by decide)
theorem swap(l:List Int)(i:Nat)(g:Int)(x y:Int)(hi:i+1<3)(h1:l[0+(i+1)]? = some x)(h2:l[0+i]? = some y)(h:x<y)(hl:l.length=3){r:EV}{sout sin:aY}(hs:dX bu.fn sin)
  (hL:bu.bS 0 3 0 3 g ((i:Int)) ((l.set (0+(i+1)) y).set (0+i) x) sin r sout):bu.bS 0 3 0 3 g ((i:Int)+1) l sin r sout:=by
 have e:(i:Int)+1-1=(i:Int):=by omega
 refine bu.yn 0 3 0 3 g ((i:Int)+1) l (i+1) x i y true i y (i+1) x (i+1) i hs (by omega) (by omega) (by omega) h1 (by unfold bf;omega) e (by omega) h2 (by have:=less x y;rwa[acf h] at this) rfl e (by omega) h2 (by omega) (by omega) h1 (by omega) (by omega) (by omega) e (by omega) (by rw[aeo];omega) ?_;rw[e];exact hL
theorem TN:ag aV 155 [.row 100000 0 [(1:Int),0, -1].length 1] [(100000,(.pure (([1,0, -1]:List Int).map aj).flatten))] (.pv (.bg [])) [(100000,(.pure (([-1,0,1]:List Int).map aj).flatten))]:=by obtain⟨b,hb⟩:=Y4 3 (by decide);refine nV.e0 [1,0, -1] 0 3 3 b [-1,0,1] (by decide) hb (dZ.e0 [1,0, -1] 0 3 0 3 b (dZ.eu 0 3 0 3 b [1,0, -1] [-1,0,1] rfl rfl (by unfold bf;decide) (by decide) (bu.e0 [1,0, -1] 0 3 0 3 (by unfold bf;decide) ?_)));refine bu.eu 0 3 0 3 1 [1,0, -1] rfl (by decide) ?_;refine swap [1,0, -1] 0 1 0 1 (by decide) rfl rfl (by decide) rfl rfl ?_;refine bu.Rz 0 3 0 3 1 0 [0,1, -1] rfl (by decide) (by unfold bf;decide) ?_;refine bu.eu 0 3 0 3 2 [0,1, -1] rfl (by decide) ?_;refine swap [0,1, -1] 1 2 (-1) 1 (by decide) rfl rfl (by decide) rfl rfl ?_;refine swap [0, -1,1] 0 2 (-1) 0 (by decide) rfl rfl (by decide) rfl rfl ?_;refine bu.Rz 0 3 0 3 2 0 [-1,0,1] rfl (by decide) (by unfold bf;decide) ?_;exact bu.dp 0 3 0 3 3 [-1,0,1] rfl rfl (by decide)
variable (P:Mz.yE)
theorem LR(k:Int)(b:List aC)(c d g:Nat)(a:aF)(z1:List Int)(p:Pl)(t:Option Rat)(ht:a.bh=tw t)(h:jS t [p.cos,p.sin,p.x,p.y]=true)(hg:g≤100){r:EV}{sout sin:aY}(hs:dX eE.fn sin)
  (hL:eE.ay k b c d (g+1) lk a z1 sin r sout):eE.bS k b c d g 0 lk a z1 p.p sin r sout:=by
 have n {q:List Rat} (hq:q∈[p.cos,p.sin,p.x,p.y]):Cp 156 [a.bh.pv,pq q] (.bg [pq (Tu q),.ar]):=by rw[ht];exact gQ.Neg (gQ.ct h (by intro x hx;rw[adJ.1 hx];exact hq))
 refine eE.yn k b c d g 0 lk a z1 p.p _ _ hs (by omega) rfl (n (q:=p.cos) (by simp)) (by omega) ?_;refine eE.yn k b c d g 1 lk a z1 p.p _ _ hs (by omega) rfl (n (q:=p.sin) (by simp)) (by omega) ?_;refine eE.yn k b c d g 2 lk a z1 p.p _ _ hs (by omega) rfl (n (q:=p.x) (by simp)) (by omega) ?_;refine eE.yn k b c d g 3 lk a z1 p.p _ _ hs (by omega) rfl (n (q:=p.y) (by simp)) (by omega) ?_;exact eE.zf k b c d g 4 lk a z1 p.p hs (by omega) (by omega) hL
abbrev SW(l:aM)(g:aC)(a:aF):aY:=[(0,(.lit [(.pv (.str l.name)),(.pv (an aK.cells l.ai)),(.pv (an az.cells l.au)),(.pv (an ax.cells l.aB)),eI g.kind,(.pv (an aj g.ai)),(.pv (an aj g.au)),eI g.bC,(.pv (an lR a.bh.roots)),(.pv (an aw.cells a.ai)),(.pv (an aj a.bq)),(.pv .ar)]))]
include P in
theorem TO:ag aV 116 [.pv lk.pv,.pv (vI 0),.pv BL.pv,.pv (vB false)] [] (.iu 0 0 [.ar]) (SW lk dU BL):=by refine eE.e1 lk 0 BL false [dU,eL] 0 dU [0] [0] (Mz.Split P) (by omega) (by decide) rfl (gQ.check (t:=none) rfl) rfl rfl LP rfl TM ?_;refine eE.dp 0 _ 1 1 0 lk BL [0] 0 0 bF.p rfl (by omega) (by omega) rfl (by omega) rfl rfl ?_;refine LR 0 _ 1 1 0 BL [0] bF none rfl (by decide +kernel) (by omega) rfl ?_;exact eE.im 0 _ 1 1 1 lk BL [0] 0 dU rfl rfl (by omega) rfl rfl
include P in
theorem TP:ag aV 116 [.pv lk.pv,.pv (vI 1),.pv tW.pv,.pv (vB false)] [] (.iu 0 0 [.ar]) (SW lk eL tW):=by refine eE.e1 lk 1 tW false [dU,eL] 1 eL [1,0, -1] [-1,0,1] (Mz.Split P) (by omega) (by decide) rfl (gQ.check (t:=none) rfl) rfl rfl LQ rfl TN ?_;refine eE.eu 1 _ 3 3 0 lk tW [-1,0,1] (-1) rfl (by omega) (by omega) rfl (by decide) (by omega) ?_;refine eE.dp 1 _ 3 3 1 lk tW [-1,0,1] 0 0 bF.p rfl (by omega) (by omega) rfl (by omega) rfl rfl ?_;refine LR 1 _ 3 3 1 tW [-1,0,1] bF none rfl (by decide +kernel) (by omega) rfl ?_;refine eE.dp 1 _ 3 3 2 lk tW [-1,0,1] 1 1 bK.p rfl (by omega) (by omega) rfl (by omega) rfl rfl ?_;refine LR 1 _ 3 3 2 tW [-1,0,1] bK none rfl (by decide +kernel) (by omega) rfl ?_;exact eE.im 1 _ 3 3 3 lk tW [-1,0,1] 1 eL rfl rfl (by omega) rfl rfl
include P in
theorem Q0:Cp 78 [lk.pv,vI 0,xt.pv,BL.pv] (.bg [an bl.cells [NW],.ar]):=vC.e0 lk 0 xt BL lk dU BL [NW] (TO P) rfl My.bC
include P in
theorem Q1(x:bn):Cp 78 [lk.pv,vI 1,x.pv,tW.pv] (.bg [an bl.cells [OS,OU],.ar]):=vC.e1 lk 1 x tW lk eL tW [OS,OU] (TP P) (by decide) rfl My.LM
end Xo
end Go.Proofs.YtneklnlpgfeplaaGreat.Sym
namespace Go.Proofs.YtneklnlpgfeplaaGreat.Sym
open Go Go.RowKit Go.Shelf Go.Lib
set_option linter.unusedVariables false
theorem LS(b o i:Nat):(⟨b,o,none⟩:Addr).add i=⟨b,o+i,none⟩:=by
 unfold Addr.add;split
 ·rename_i h;subst h;rfl
 ·rfl
theorem xU{α:Type} : ∀(a:Ask α) (w:World),w.drawn≤(w.ask a).2.drawn
 |.done a,w=>by simp[World.ask]
 |.ask what range k,w=>by
  unfold World.ask;dsimp only;split
  ·exact xU (k 0) w
  ·exact abZ (Nat.le_succ w.drawn) (xU (k ((Question.extern what range).cut (w.tape w.drawn (Question.extern what range)))) { w with drawn:=w.drawn+1 })
theorem Jn(w:World)(c:Sys):w.drawn≤(w.sys c).2.drawn:=by
 have:=xU (Kernel.perform c w.os) w;unfold World.sys;split
 ·exact abW _
 ·rename_i r os w' e;rw[e] at this;exact this
theorem BN{p:Program}{w w':World}{a:Addr}{v:Value}{b:Bool}{t:List Addr}(h:w.farStore p a v b = .ok (w',t)):w'.drawn=w.drawn:=by
 unfold World.farStore at h;split at h
 ·split at h
  ·rename_i r hr;injection h with h;subst h
   unfold World.viewStore at hr;simp only[bind,Except.bind,pure,Except.pure] at hr
   repeat' (split at hr)
   all_goals first|(cases hr;done)|skip
   all_goals
    injection hr with hr
    injection hr with hr _
    rw[←hr]
  ·cases h
 ·cases h
theorem Jo{α:Type}{p:Program}(m:Sem α):∀{w w':World} {v:α},m.run p w = .ok v w'→w.drawn≤w'.drawn:=by
 induction m with
 |pure a=>intro w w' v h;injection h with h1 h2;rw[h2];exact abW _
 |load m a k ih =>
  intro w w' v h;unfold Sem.run at h;split at h
  ·exact ih _ h
  ·split at h
   ·exact ih _ h
   ·cases h
 |store m a v k ih =>
  intro w w' x h;cases v
  case agg=>cases h
  case tuple=>cases h
  all_goals
   unfold Sem.run at h;split at h
   ·split at h
    ·cases h
    ·exact ih (w:=w.setCell a _) h
   ·split at h
    ·rename_i hf;have h1:=BN hf;have h2:=ih h;omega
    ·cases h
 |new o k ih=>intro w w' v h;exact ih _ (w := { w with heap:=w.heap.push o }) h
 |shape r k ih=>intro w w' v h;exact ih _ h
 |freeze a n k ih =>
  intro w w' v h;have h1:=ih (w:=w.freeze a n) h;have h2:(w.freeze a n).drawn=w.drawn:=by
   unfold World.freeze
   first|rfl|(split<;>rfl)
  omega
 |frozen a k ih=>intro w w' v h;exact ih _ h
 |getObj r k ih =>
  intro w w' v h;unfold Sem.run at h;split at h
  ·cases h
  ·exact ih _ h
  ·cases h
 |setObj r o k ih =>
  intro w w' v h;unfold Sem.run at h;split at h
  ·cases h
  ·exact ih (w := { w with heap:=w.heap.setIfInBounds r o }) h
  ·cases h
 |choose q k ih =>
  intro w w' v h;unfold Sem.run at h;split at h
  ·exact ih _ h
  ·exact abZ (Nat.le_succ _) (ih _ (w := { w with drawn:=w.drawn+1 }) h)
 |sys c k ih=>intro w w' v h;exact abZ (Jn w c) (ih _ h)
 |program k ih=>intro w w' v h;exact ih _ h
 |mark m k ih=>intro w w' v h;exact ih h
 |halt h'=>intro w w' v h;cases h
section
variable {P:Program} {ρ:Go.Shelf.Ren}
theorem uC{w:World}{ops:Array Oper}{rest:List Oper}{o:Oper}{a:Act}{Q:Exit→Act→World→Prop}(hgd:o.guard=none)(s x:Operand)(t:TypeId)
  (ho:o.op = .call { callee := .builtin .append,args := #[s,x],argTypes := #[t,t] })
  (base:Nat) (e:TypeId) (i:TypeInfo) (z:Value) (size bytes:Nat) (ht:P.underlying t=some (.slice e)) (hi:P.info? e=some i) (hz:i.zero=some z)
  (sM:i.size=size) (IM:i.bytes=bytes) (yQ:z.cells.size=size) (ji:0<size)
  (v:Value) (n:Nat) (xs:List Value) (hs:a.eval s=v) (LU:w.ownsRow base e size v n xs)
  (ad:Addr) (m c:Nat) (news:List Value) (hx:a.eval x = .slice (some ad) m c) (hl:news.length=m*size) (EN:∀j u,news[j]? = some u→w.cell? (ad.add j)=some u) (h1:∀u∈news,u.oneCell'=true)
  (R2:n+m≤maxLen) (vk:(n+m)*bytes≤140737488355328) (TQ:base≤w.heap.size)
  (h:∀v' w',w'.ownsRow base e size v' (n+m) (xs++news)→w.grownBy w' v.ownBlock→w.drawn≤w'.drawn→wpList P ops Q rest (a.put o.dst v') w') :
  wpList P ops Q (o::rest) a w:=by
 refine wpList_plain hgd fun K hK => ?_
 obtain⟨v',w',hr,h2,h3,_⟩:=run_append_own (P:=P) w base t o.type e i z size bytes ht hi hz sM IM yQ ji v n xs LU ad m c news hl EN h1 R2 vk TQ;unfold Oper.wp execOp;simp only[ho,resolve,invoke,builtin,Sem.run_bind,Sem.run_pure,Result.andThen_ok,List.map_toArray,List.map_cons,List.map_nil,hs,hx,hr];exact hK _ _ (h v' w' h2 h3 (Jo _ hr))
set_option maxHeartbeats 2000000 in
set_option maxRecDepth 100000 in
theorem FM(L:SlLaysE0.n41 P ρ)(i0:TypeInfo)(z:Value)(size bytes:Nat)(hi:P.info? (ρ.t 23)=some i0)(Xp:i0.zero=some z)(Nv:i0.size=size)(RS:i0.bytes=bytes)(yQ:z.cells.size=size)(ji:0<size)
  (z23:∀w,(Go.sizeOf (ρ.t 23)).run P w = .ok size w) (ad:Addr) (n c:Nat) (news:List Value) (w:World) (hl:news.length=n*size) (hn:n≤maxLen) (Q2:n*bytes≤140737488355328)
  (hc:∀j u,news[j]? = some u→w.cell? (ad.add j)=some u) (h1:∀u∈news,u.oneCell'=true) :
  Calls P (ρ.f 41) #[.slice (some ad) n c] w fun e w'=>∃v',e = .returned v'∧w'.ownsRow w.heap.size (ρ.t 23) size v' n news∧yK w.heap.size w w':=by
 have mixed:=L.mixed;have t4:=L.t4;have a4:=L.a4;have z4:=L.z4;have v4:=L.v4;have t22:=L.t22;have a22:=L.a22;have z22:=L.z22;have v22:=L.v22;have q22:∀(w:World) (a:Option Addr) (n c n' c':Nat),(binOp .eql (ρ.t 22) (.slice a n c) (.slice none n' c')).run P w = .ok (.bool a.isNone) w:=fun w a n c n' c'=>Lib.run_eql_slice_nil w _ _ a n c n' c' L.t22
 have u22:∀w,Sem.run P (underlying (ρ.t 22)) w = .ok (TypeDesc.slice (ρ.t 23)) w:=run_underlying t22;have A:Aside (∀j u,news[j]? = some u→w.cell? (ad.add j)=some u):=hc;clear hc;obtain⟨_,_,FG⟩:=L.f41
 go_enter FG,SlBodyN.n41_ntmps ρ
 go_wp2_with (at_builtin;refine uC rfl _ _ (ρ.t 22) rfl w.heap.size (ρ.t 23) i0 z size bytes t22 hi Xp Nv RS yQ ji _ _ _ rfl (World.ownsRow_made w #[] 0 (abW _) (adz _) (by simp)) ad n c news rfl ?qc1 ?qc2 ?qc3 ?qc4 ?qc5 ?qc6 ?_)
 case qc1=>exact hl
 case qc2 =>intro j u hj;exact Lib.cell?_alloc_some _ (A.out j u hj)
 case qc3=>exact h1
 case qc4=>rw[acw];exact hn
 case qc5=>rw[acw];exact Q2
 case qc6=>simp
 intro v' w1 LU wo we
 go_wp2
 go_ret
 refine⟨v',rfl,by simpa using LU,?_,fun _=>we⟩;exact((Below.refl _ w).alloc (abW _) _).grown wo (by simp) (by intro k hk;simp[Value.ownBlock] at hk;omega)
theorem Df{α:Type}{k:Nat} : ∀{xs:List (List α)},(∀row∈xs,row.length=k)→xs.flatten.length=xs.length*k
 |[],_=>by simp
 |x::xs,h=>by rw[acM,acr,h x (acO ..),Df (fun r hr=>h r (acA _ hr)),acL,adI];omega
theorem LV(L:SlLaysE0.n41 P ρ)(hf:qA P (ρ.f 41))(i0:TypeInfo)(z:Value)(k bytes:Nat)(hi:P.info? (ρ.t 23)=some i0)(Xp:i0.zero=some z)(Nv:i0.size=k)(RS:i0.bytes=bytes)(yQ:z.cells.size=k)(Um:0<k)
  (z23:∀w,(Go.sizeOf (ρ.t 23)).run P w = .ok k w) (xs:List (List PV)) (hlen:∀row∈xs,row.length=k) (Q2:xs.length*bytes≤140737488355328) (Hn:0<bytes) :
  ag P (ρ.f 41) [.pv (.list xs)] [] (.row 0 0 xs.length k) [(0,.pure xs.flatten)]:=by
 refine⟨hf,fun I w β vs hI zm hl Mo _ => ?_⟩;obtain⟨v,rfl⟩:∃v,vs = #[v]:=by
  match vs,hl with
  |⟨[v]⟩,_=>exact⟨v,rfl⟩
 have hv:Rd I w (.list xs) v:=Mo 0 _ v rfl rfl;have d0:bz [(0,SC.pure xs.flatten)] 0:=by unfold bz;rw[aY.fg (by omega)];rfl
 have dq:∀q,bz [(0,SC.pure xs.flatten)] q→q=0:=fun q h=>by
  unfold bz at h;rw[aY.fg (by omega),aY.get_nil] at h;cases hb:Nat.beq 0 q with
  |true=>exact(abO hb).symm
  |false=>simp[hb] at h
 have core:∀(ad:Addr) (c:Nat) (news:List Value),v = .slice (some ad) xs.length c→news.length=xs.length*k→(∀(j:Nat) u,news[j]? = some u→w.cell? (ad.add j)=some u)→(∀u∈news,u.oneCell'=true) →
   (∀(q:Nat) p,xs.flatten[q]? = some p→∃u,news[q]? = some u∧Rd I w p u)→Calls P (ρ.f 41) #[v] w (iP [] [(0,.pure xs.flatten)] (.row 0 0 xs.length k) β I w):=by
  rintro ad c news rfl hnl VQ Ox hnr
  have V8:xs.length≤maxLen:=by have:xs.length≤xs.length*bytes:=Nat.le_mul_of_pos_right _ Hn;unfold maxLen;omega
  refine(FM L i0 z k bytes hi Xp Nv RS yQ Um z23 ad xs.length c news w hnl V8 Q2 VQ Ox).mono ?_
  rintro e w' ⟨v',rfl,LU,LW⟩
  have Fz:∀b o,I b→w'.cell? ⟨b,o,none⟩=w.cell? ⟨b,o,none⟩:=fun b o hb=>fh (LW.block b (hI b hb)) o
  rcases LU.2 with ⟨rfl,Xq⟩|⟨g,cap,cur,rfl,hbg,hg,Xr,hcm,vO,TR⟩
  ·have hx:xs=[]:=List.length_eq_zero_iff.1 Xq;subst hx;refine⟨_,fun _=>none,rfl,fun x hx=>absurd hx jU,gV.wb LW,⟨fun r sc hr=>⟨.inl ⟨rfl,?_⟩,fun b hb=>by cases hb⟩,fun r r' b _ _ hb=>by cases hb⟩,⟨d0,.inl ⟨rfl,rfl,rfl⟩⟩,fun x b _ _ hb=>by cases hb⟩;have:r=0:=dq r (by unfold bz;rw[hr];rfl);subst this;rw[aY.fg (by omega)] at hr;injection hr with hr;subst hr;rfl
  ·have UH:g<w'.heap.size:=(ach.1 hg).1;have hgI:¬I g:=fun h=>by have:=hI g h;omega
   refine⟨_,fun _=>some g,rfl,fun x hx=>absurd hx jU,gV.wb LW,⟨fun r sc hr => ?_,fun r r' b h1 h2 _ _=>(dq r h1).trans (dq r' h2).symm⟩,⟨d0,.inr ⟨g,cap,rfl,rfl,Xr,ρ.t 23,cur.size,?_,by omega⟩⟩,fun x b _ _ hb => .inl ?_⟩
   ·have:r=0:=dq r (by unfold bz;rw[hr];rfl);subst this;rw[aY.fg (by omega)] at hr;injection hr with hr;subst hr
    refine⟨.inr ⟨g,cur,ρ.t 23,rfl,hg,fun j e he => ?_⟩,fun b hb => ?_⟩
    ·unfold SC.oe at he;rw[abR] at he;cases hp:xs.flatten[j]? with
     |none=>rw[hp] at he;cases he
     |some p =>
      rw[hp] at he;injection he with he;subst he
      obtain⟨u,hu,hr⟩:=hnr j p hp;refine⟨u,?_,Ox u (ac5 hu),hr.mono (fun b hb => .inl hb) Fz⟩;rw[←TR,ack] at hu;split at hu
      ·simpa using hu
      ·cases hu
    ·injection hb with hb;subst hb
     refine⟨UH,fun h => ?_⟩;rcases h with h|⟨_,h⟩
     ·exact hgI h
     ·exact h 0 d0 rfl
   ·simp[World.shape?,hg]
   ·injection hb with hb;subst hb
    exact⟨hbg,UH⟩
 cases hv with
 |nil a c =>
  cases a with
  |none =>
   refine(AnyE.slices_Clone_nil L 0 c w).mono ?_
   rintro e w' ⟨rfl,rfl⟩
   refine⟨_,fun _=>none,rfl,fun x hx=>absurd hx jU,gV.refl _ _,⟨fun r sc hr=>⟨.inl ⟨rfl,?_⟩,fun b hb=>by cases hb⟩,fun r r' b _ _ hb=>by cases hb⟩,⟨d0,.inl ⟨rfl,rfl,rfl⟩⟩,fun x b _ _ hb=>by cases hb⟩;have:r=0:=dq r (by unfold bz;rw[hr];rfl);subst this;rw[aY.fg (by omega)] at hr;injection hr with hr;subst hr;rfl
  |some ad=>exact core ad c [] rfl (by simp) (fun j u h=>by simp at h) (fun u h=>by simp at h) (fun q p h=>by simp at h)
 |list _ b o c s f hc hb hs ho h =>
  by_cases Kq:xs=[]
  ·subst Kq;exact core ⟨b,o,none⟩ c [] rfl (by simp) (fun j u h=>by simp at h) (fun u h=>by simp at h) (fun q p h=>by simp at h)
  ·have hsk:s=k:=by
    obtain⟨x,t,rfl⟩:=List.exists_cons_of_ne_nil Kq;rw[←hs 0 x rfl,hlen x (acO ..)]
   subst hsk;have iO:∀q,q<xs.length*s→∃row x,xs[q/s]? = some row∧row[q%s]? = some x∧xs.flatten[q]? = some x:=fun q hq=>by
    have h1:q/s<xs.length:=Nat.div_lt_of_lt_mul (by rw[acu];exact hq);have e1:=abJ h1;have h2:q%s<(xs[q/s]).length:=by rw[hlen _ (acj h1)];exact adB _ Um
    have e2:=abJ h2;refine⟨_,_,e1,e2,?_⟩;have:=tY hlen e1 e2;rw[show q/s*s+q%s=q by rw[acu];exact adl q s] at this;exact this
   refine core ⟨b,o,none⟩ c ((List.range (xs.length*s)).map fun q=>f (q/s) (q%s)) rfl (by simp) ?_ ?_ ?_
   ·intro j u hj;rw[abR] at hj;by_cases HP:j<xs.length*s
    ·rw[adE HP] at hj;injection hj with hj;subst hj
     obtain⟨row,x,e1,e2,_⟩:=iO j HP;have:=(ho _ _ row x e1 e2).2;rw[LS,←this,show j/s*s+j%s=j by rw[acu];exact adl j s]
    ·rw[aez (by simpa using HP)] at hj;cases hj
   ·intro u hu;obtain⟨j,hj,rfl⟩:=aca.1 hu;obtain⟨row,x,e1,e2,_⟩:=iO j (by simpa using hj);exact(h _ _ row x e1 e2).jt (ho _ _ row x e1 e2).1
   ·intro q p hp;have hq:q<xs.length*s:=by
     have:=(abL.1 hp).1;rwa[Df hlen] at this
    obtain⟨row,x,e1,e2,e3⟩:=iO q hq;rw[hp] at e3;injection e3 with e3;subst e3
    exact⟨_,by rw[abR,adE hq];rfl,h _ _ row p e1 e2⟩
end
end Go.Proofs.YtneklnlpgfeplaaGreat.Sym
namespace Go.Proofs.YtneklnlpgfeplaaGreat.Sym.Lay
open Go Go.Shelf Go.Proofs
set_option maxRecDepth 20000
def FN:Go.Shelf.Ren:=⟨fun n=>match n with|41=>121|n=>n,
 fun n=>match n with|4=>4|22=>78|23=>172|n=>n,
 fun n=>n⟩
theorem Xs : SlLaysE0.n41 Tryz.prog FN where
  mixed := by kernel_rfl
  f41 := ⟨ "slices.Clone[[]linkwork/api.Placed,linkwork/api.Placed]", by decide, Tryz.func121.trans (aeI some (by kernel_rfl))⟩
  t4 := Tryz.underlying4
  a4 := Tryz.isAgg4
  z4 := Tryz.sizeOf4
  v4 := Tryz.zeroValue4
  t22 := Tryz.underlying78
  a22 := Tryz.isAgg78
  z22 := Tryz.sizeOf78
  v22 := Tryz.zeroValue78
def FO:Go.Shelf.Ren:=⟨fun n=>match n with|41=>114|n=>n,
 fun n=>match n with|4=>4|22=>51|23=>3|n=>n,
 fun n=>n⟩
theorem Xt : SlLaysE0.n41 Tryz.prog FO where
  mixed := by kernel_rfl
  f41 := ⟨ "slices.Clone[[]int,int]", by decide, Tryz.func114.trans (aeI some (by kernel_rfl))⟩
  t4 := Tryz.underlying4
  a4 := Tryz.isAgg4
  z4 := Tryz.sizeOf4
  v4 := Tryz.zeroValue4
  t22 := Tryz.underlying51
  a22 := Tryz.isAgg51
  z22 := Tryz.sizeOf51
  v22 := Tryz.zeroValue51
end Go.Proofs.YtneklnlpgfeplaaGreat.Sym.Lay
namespace Go.Proofs.YtneklnlpgfeplaaGreat.Sym
open Go Path eJ C9
set_option linter.unusedVariables false
namespace RJ
theorem yF {P : Program} {f : FuncId} {fn : Func} (h : P.funcs[f]? = some fn) (hb : (fn.body.isSome && !(fn.name == "runtime.NumGoroutine")) = true) : qA P f := by rw [abK, acz] at hb;exact ⟨fn, h, hb.1, hb.2⟩
theorem LY(l:List aw)(hl:l.length*96≤140737488355328):ag aV 121 [.pv (an aw.cells l)] [] (.row 0 0 l.length 4) [(0,(.pure ((l:List aw).map aw.cells).flatten))]:=by
 have h:=LV (P:=aV) (ρ:=Lay.FN) Lay.Xs (yF Tryz.func121 (by kernel_rfl)) ((aV.info? 172).get (by kernel_rfl))
  ((((aV.info? 172).get (by kernel_rfl)).zero).get (by kernel_rfl)) 4 96 (by kernel_rfl) (by kernel_rfl) (by kernel_rfl) (by kernel_rfl) (by kernel_rfl) (by omega) Tryz.sizeOf172
  (l.map aw.cells) (fun row hr=>by obtain⟨a,_,rfl⟩:=aca.1 hr;rfl) (by rw[abS];exact hl) (by omega)
 rw[abS] at h;exact h
theorem HG(l:List Int)(hl:l.length*8≤140737488355328):ag aV 114 [.pv (an aj l)] [] (.row 0 0 l.length 1) [(0,(.pure ((l:List Int).map aj).flatten))]:=by
 have h:=LV (P:=aV) (ρ:=Lay.FO) Lay.Xt (yF Tryz.func114 (by kernel_rfl)) ((aV.info? 3).get (by kernel_rfl))
  ((((aV.info? 3).get (by kernel_rfl)).zero).get (by kernel_rfl)) 1 8 (by kernel_rfl) (by kernel_rfl) (by kernel_rfl) (by kernel_rfl) (by kernel_rfl) (by omega) Tryz.sizeOf3
  (l.map aj) (fun row hr=>by obtain⟨a,_,rfl⟩:=aca.1 hr;rfl) (by rw[abS];exact hl) (by omega)
 rw[abS] at h;exact h
end RJ
open gQ (jS)
open BX (T1)
theorem ag.Xu{P:Program}{f:FuncId}{args:List PV}{xs:List (List PV)}{k:Nat}(hc:ag P f (args.map EV.pv) [] (.row 0 0 xs.length k) [(0,.pure xs.flatten)])(hk:∀row∈xs,row.length=k):eN P f args (.list xs):=by
 refine⟨hc.1,fun I w β vs hI zm MP hv hy=>(hc.2 I w β vs hI zm MP hv hy).mono fun e w' hp => ?_⟩;obtain⟨v,β',rfl,p1,p2,p3,p4,p5⟩:=hp;have h0:aY.get [(0,SC.pure xs.flatten)] 0=some (.pure xs.flatten):=by rw[aY.fg (by omega)];rfl
 refine⟨v,β',rfl,p1,p2,tZ _ _ _,?_,fun x b hx=>absurd hx jU⟩;exact wy p4 (p3.1 0 _ h0).1 rfl rfl hk (fun b hb=>hb.imp id (fun h=>⟨h.1,fun x hx=>absurd hx jU⟩)) (fun b hb => .inr ⟨p5 0 b (by unfold bz;rw[h0];rfl) jU hb,fun x hx=>absurd hx jU⟩)
def Jp:aF:=⟨tw T1,[bF.p,bK.p,RG.p,RH.p],[1,1]⟩
def px:aF:=⟨tw T1,[bF.p,bK.p,JE.p,JF.p],[1, -1]⟩
abbrev WS(o:Nat)(out:List aF):aY:=[(100000,(.lit [(.pv (.str lk.name)),(.pv (an aK.cells lk.ai)),(.pv (an az.cells lk.au)),(.pv (an ax.cells lk.aB)),(.pv (an bn.cells [xt])),(.pv (an aC.cells [dU,eL])),(.pv (.fn 76)),eB false,(.row o 0 out.length 3)])),(o,(pC aF.cells out))]
namespace Xv
theorem LZ(q:List Rat)(hl:q.length≤1000)(hf:Fl 1000 q):Cp 115 [pq q] (pq q):=by
 have loop:∀d t:Nat,q.length-t=d→t≤q.length→gH.ay ((q.take t).map bw) (q.map bw) t (pq q):=by
  intro d
  induction d with
  |zero =>intro t hd ht;rw[acd (by omega)];exact gH.dp _ _ t (by rw[abS];omega)
  |succ d ih =>intro t hd ht;obtain⟨v,hv⟩:∃v,q[t]? = some v:=⟨_,abJ (by omega)⟩;have:=ih (t+1) (by omega) (by omega);rw[ado,hv] at this;exact gH.eu _ _ t (bw v) (bw v) (by rw[abS];omega) (by rw[abR,hv];rfl) (QF.NM v (by have:=hf v (ac5 hv);omega)) (by rw[acr,abS,ac8];simp;omega) (by omega) (by simpa using this)
 exact gH.e0 _ (loop _ 0 rfl (by omega))
theorem Q3(l:List Int)(hl:l.length*8≤140737488355328):Cp 114 [an aj l] (an aj l):=by have h:=RJ.HG l hl;refine ag.Xu (xs:=l.map aj) (k:=1) ?_ (fun row hr=>by obtain⟨a,_,rfl⟩:=aca.1 hr;rfl);rw[abS];exact h
theorem clone(bs:List Pl)(ms:List Int)(hm:ms.length≤100)(hb:bs.length≤100)(h:∀b∈bs,jS T1 [b.cos,b.sin,b.x,b.y]=true):Cp 77 [(⟨tw T1,bs.map Pl.p,ms⟩:aF).pv] (⟨tw T1,bs.map Pl.p,ms⟩:aF).pv:=by
 have n {l:List (List Rat)} (hn:jS T1 l=true) {q:List Rat} (hq:q∈l):Cp 115 [pq q] (pq q):=by obtain⟨i,hi⟩:=acR.1 hq;obtain⟨a,b⟩:=gQ.gh hn i hi;exact LZ q (by have:=gU a;omega) b
 have loop:∀d t:Nat,bs.length-t=d→t≤bs.length→gf.bS (⟨tw T1,bs.map Pl.p,ms⟩:aF) t [[bw 323]] ((bs.take t).map Pl.p) ms (⟨tw T1,bs.map Pl.p,ms⟩:aF).pv:=by
  intro d
  induction d with
  |zero =>intro t hd ht;rw[acd (by omega)];exact gf.zf _ t _ _ _ (by show(bs.map Pl.p).length≤t;rw[abS];omega)
  |succ d ih =>intro t hd ht;obtain⟨b,fc⟩:∃b,bs[t]? = some b:=⟨_,abJ (by omega)⟩;have hn:=h b (ac5 fc);have:=ih (t+1) (by omega) (by omega);rw[ado,fc] at this;refine gf.yn _ t _ _ _ b.p _ _ _ _ (by show t<(bs.map Pl.p).length;rw[abS];omega) (by show(bs.map Pl.p)[t]? = _;rw[abR,fc];rfl) (n hn (q:=b.cos) (by simp)) (n hn (q:=b.sin) (by simp)) (n hn (q:=b.x) (by simp)) (n hn (q:=b.y) (by simp)) (by rw[List.length_append,List.length_map,List.length_take];simp;omega) (by omega) ?_;simpa[Pl.p] using this
 refine gf.e0 _ ms (Q3 ms (by omega)) (gf.eu _ 0 [] ms [bw 323] [bw 323] (by simp[tw]) rfl (n (l:=[[323]]) (by decide +kernel) (q:=[323]) (by simp)) (by simp) (by omega) (gf.dp _ 1 [[bw 323]] ms (by simp[tw]) (loop _ 0 rfl (by omega))))
theorem N0(o:List aF):ag aV 79 [(.ptr 100000 0),(.pv dU.pv)] (WS 100001 o) (.pv xt.pv) (WS 100001 o):=iH.e1 lk [xt] [dU,eL] o dU 0 xt rfl rfl rfl
theorem N1(o:List aF):ag aV 79 [(.ptr 100000 0),(.pv eL.pv)] (WS 100001 o) (.pv (⟨oz,false⟩:bn).pv) (WS 100001 o):=iH.e0 lk [xt] [dU,eL] o eL (by decide)
theorem N2:Cp 80 [BL.pv,dU.pv,NW.pv] tW.pv :=
 fa.e0 BL dU NW [bF.p,bZ.p,bZ.p,bZ.p] [] (RJ.LY _ (by decide)) (RJ.HG _ (by decide)) (by decide) (fa.eu dU 0 NW _ _ _ 1 bK.p 1 (by decide) rfl rfl rfl (by decide) (by decide) (by omega) (fa.dp dU 1 NW _ _ _ (by decide) rfl))
theorem Iw(s:bl)(b c:aw)(hs:s.km=[b,c]):Cp 80 [tW.pv,eL.pv,s.pv] (⟨s.bh,[bF.p,bK.p,b,c],[1,s.mode]⟩:aF).pv :=
 fa.e0 tW eL s [bF.p,bK.p,bZ.p,bZ.p] [1] (RJ.LY _ (by decide)) (RJ.HG _ (by decide)) (by simp) (fa.eu eL 0 s _ _ _ 2 b 2 (by decide) rfl (by rw[hs];rfl) rfl (by simp) (by simp) (by omega)
  (fa.eu eL 1 s _ _ _ 3 c 3 (by decide) rfl (by rw[hs];rfl) rfl (by simp) (by simp) (by omega) (fa.dp eL 2 s _ _ _ (by decide) (by simp))))
theorem OW(o:List aF)(ho:o.length≤100)(bs:List Pl)(ms:List Int)(hm:ms.length=2)(hb:bs.length≤100)(h:∀b∈bs,jS T1 [b.cos,b.sin,b.x,b.y]=true):ag aV 45 [(.ptr 100000 0),(.pv (⟨tw T1,bs.map Pl.p,ms⟩:aF).pv)] (WS 200001 o) (.pv .ar) (WS 1 (o++[⟨tw T1,bs.map Pl.p,ms⟩])) :=
 cN.e0 lk [xt] [dU,eL] o _ _ hm (clone bs ms (by omega) hb h) (by rw[acr];simp;omega)
variable (P:Mz.yE)
include P in
theorem TS:ag aV 45 [(.ptr 100000 0),(.pv tW.pv)] (WS 200001 []) (.pv .ar) (WS 1 [Jp,px]):=by refine cN.e1 lk [xt] [dU,eL] [] tW eL _ [OS,OU] (by decide) rfl (N1 []) (Xo.Q1 P _) ?_;refine cN.dp tW _ 0 eL [] lk [xt] [dU,eL] OS true Jp [Jp] rfl (by decide) rfl (kF.e0 _ _) rfl (Iw OS RG.p RH.p rfl) (OW [] (by decide) [bF,bK,RG,RH] [1,1] rfl (by decide) (by intro b hb;revert b;rw[←abX];decide +kernel)) (by omega) ?_;refine cN.dp tW _ 1 eL [Jp] lk [xt] [dU,eL] OU true px [Jp,px] rfl (by decide) rfl (kF.e0 _ _) rfl (Iw OU JE.p JF.p rfl) (OW [Jp] (by decide) [bF,bK,JE,JF] [1, -1] rfl (by decide) (by intro b hb;revert b;rw[←abX];decide +kernel)) (by omega) ?_;exact cN.im tW _ 2 eL [Jp,px] lk [xt] [dU,eL] rfl rfl (by decide)
include P in
theorem TT:ag aV 45 [(.ptr 100000 0),(.pv BL.pv)] (WS 200001 []) (.pv .ar) (WS 1 [Jp,px]):=by refine cN.e1 lk [xt] [dU,eL] [] BL dU _ [NW] (by decide) rfl (N0 []) (Xo.Q0 P) ?_;refine cN.dp BL _ 0 dU [] lk [xt] [dU,eL] NW true tW [Jp,px] rfl (by decide) rfl (kF.e0 _ _) rfl N2 (TS P) (by omega) ?_;exact cN.im BL _ 1 dU [Jp,px] lk [xt] [dU,eL] rfl rfl (by decide)
theorem start:ag aV 46 [(.ptr 100000 0)] (WS 100001 []) (.pv BL.pv) (WS 100001 []):=by have o1:=BW.Of 1 (by unfold bf;omega);have of:=gQ.Of (x:=1) (by decide +kernel);rw[show LJ 1=[1] from by decide +kernel] at of;exact mB.e0 lk [xt] [dU,eL] [] (bw 1) [bw 1] ⟨[],[],[],[]⟩ (by decide) o1 of (by decide) rfl rfl
theorem Dg:Cp 25 [xt.pv] .ar:=oZ.e3 xt _ (QF.Valid 1 (by decide +kernel)) rfl rfl
include P in
theorem All:Cp 17 [lk.pv,an bn.cells [xt]] (.bg [an aF.cells [Jp,px],.ar]):=by have op:=nh.e0 lk [xt] [dU,eL] (Mz.Split P) rfl (nh.eu [xt] [dU,eL] 0 lk xt rfl (by decide) rfl Dg (by omega) (nh.dp [xt] [dU,eL] 1 lk rfl rfl (by decide)));exact wZ.e0 lk [xt] lk [xt] [dU,eL] [] BL [Jp,px] op start (TT P)
end Xv
end Go.Proofs.YtneklnlpgfeplaaGreat.Sym
namespace Go.Proofs.YtneklnlpgfeplaaGreat.Sym
open Go Path eJ C9
open gQ (jS)
open BX (T1)
set_option linter.unusedVariables false
def Xw(q:List Rat)(x:Rat):Bool:=jS T1 [q,LJ x]&&decide (ht x≤1000)&&Jm T1 q (LJ x)==0
def Xx(b:Pl):Bool:=jS T1 ([b.cos,b.sin,b.x,b.y]++dL T1 (b.cos,b.sin) (b.cos,b.sin))&&Xw (LL T1 (b.cos,b.sin) (b.cos,b.sin)) 1
namespace Y5
theorem equal{q:List Rat}{x:Rat}(h:Xw q x=true):Cp 130 [(tw T1).pv,pq q,(bw x).pv] (vB true):=by unfold Xw at h;simp only[Bool.and_eq_true,beq_iff_eq,decide_eq_true_eq] at h;have:=vc.e0 (tw T1) _ _ _ _ (gQ.Of h.1.2) (gQ.Et h.1.1);rwa[h.2] at this
theorem unit{b:Pl}(h:Xx b=true):Cp 89 [(tw T1).pv,b.p.pv] (vB true):=by unfold Xx at h;rw[abK] at h;obtain⟨h,e⟩:=h;have v {q:List Rat} (hq:q∈[b.cos,b.sin,b.x,b.y]):Cp 128 [(tw T1).pv,pq q] (vB true):=gQ.Valid (gQ.ct h (by intro x hx;rw[adJ.1 hx];exact acH _ hq));have d:=FK.Y1 (t:=T1) (p:=(b.cos,b.sin)) (q:=(b.cos,b.sin)) (gQ.ct h (fun x hx=>acD _ hx));have o1:=BW.Of 1 (by unfold bf;omega);refine iJ.e0 _ _ (iJ.dp 0 _ b.p _ true (by omega) rfl (v (q:=b.cos) (by simp)) rfl (by omega) (iJ.dp 1 _ b.p _ true (by omega) rfl (v (q:=b.sin) (by simp)) rfl (by omega) (iJ.dp 2 _ b.p _ true (by omega) rfl (v (q:=b.x) (by simp)) rfl (by omega) (iJ.dp 3 _ b.p _ true (by omega) rfl (v (q:=b.y) (by simp)) rfl (by omega) ?_))));exact iJ.im 4 _ b.p _ (bw 1) true (by omega) d o1 (equal e)
theorem still:Cp 90 [(tw T1).pv,bF.p.pv] (vB true):=by have o1:=BW.Of 1 (by unfold bf;omega);exact u9.e0 _ bF.p (bw 1) true true true true o1 (equal (q:=[1]) (x:=1) (by decide +kernel)) rfl (equal (q:=[]) (x:=0) (by decide +kernel)) rfl (equal (q:=[]) (x:=0) (by decide +kernel)) rfl (equal (q:=[]) (x:=0) (by decide +kernel))
theorem iO(i k:Nat)(v:aK)(n:ByteArray)(x y:Rat)(b:Pl)(r:Pt)(h1:lk.ai[i]? = some v)(h2:v.points[k]? = some ⟨n,bw x,bw y⟩)(h3:px.ai[i]? = some b.p)(h:(jS T1 (NU T1 b x y)&&US T1 b x y==r)=true):Cp 131 [lk.pv,px.pv,vI (i:Int),vI (k:Int)] (.bg [r.p.pv,.ar]) :=
 Bi.e0 lk px i k i v k _ i b.p r.p rfl h1 rfl h2 rfl h3 (My.Y2 h)
theorem holds{j:az}{c d:Pt}(h0:j.kind=0)(h1:Cp 131 [lk.pv,px.pv,vI j.a,vI j.wK] (.bg [c.p.pv,.ar]))(h2:Cp 131 [lk.pv,px.pv,vI j.b,vI j.Ni] (.bg [d.p.pv,.ar]))(h:(jS T1 (lL c d)&&Jm T1 c.1 d.1==0&&Jm T1 c.2 d.2==0)=true):Cp 93 [lk.pv,px.pv,j.pv] (vB true):=by simp only[Bool.and_eq_true,beq_iff_eq] at h;exact vb.e0 lk px j c.p d.p true h1 h2 h0 (FK.Xi h.1.1 h.1.2 h.2)
theorem L0:∀j∈lk.au,Cp 93 [lk.pv,px.pv,j.pv] (vB true):=by
 intro j hj;have hj:j=⟨(ByteArray.mk #[111]),0,1,0,0,0,0⟩∨j=⟨(ByteArray.mk #[97]),0,2,0,1,1,0⟩∨j=⟨(ByteArray.mk #[98]),0,3,1,2,1,0⟩∨j=⟨(ByteArray.mk #[113]),0,3,0,0,1,0⟩:=by simpa[lk] using hj
 rcases hj with rfl|rfl|rfl|rfl
 ·exact holds rfl (iO 1 0 _ _ 0 0 bK ([],[]) rfl rfl rfl (by decide +kernel)) (iO 0 0 _ _ 0 0 bF ([],[]) rfl rfl rfl (by decide +kernel)) (by decide +kernel)
 ·exact holds rfl (iO 2 0 _ _ 0 0 JE ([],[1]) rfl rfl rfl (by decide +kernel)) (iO 1 1 _ _ 1 0 bK ([],[1]) rfl rfl rfl (by decide +kernel)) (by decide +kernel)
 ·exact holds rfl (iO 3 1 _ _ 3 0 JF BX.m2 rfl rfl rfl (by decide +kernel)) (iO 2 1 _ _ 3 0 JE BX.m2 rfl rfl rfl (by decide +kernel)) (by decide +kernel)
 ·exact holds rfl (iO 3 0 _ _ 0 0 JF ([4],[]) rfl rfl rfl (by decide +kernel)) (iO 0 1 _ _ 4 0 bF ([4],[]) rfl rfl rfl (by decide +kernel)) (by decide +kernel)
abbrev RK:aY:=[(100022,(.lit [(.pv (an lR px.bh.roots)),(.pv (an aw.cells px.ai)),(.pv (an aj px.bq))]))]
abbrev Y6:Nat×SC:=(100020,(.lit [(.pv (.str lk.name)),(.pv (an aK.cells lk.ai)),(.pv (an az.cells lk.au)),(.pv (an ax.cells lk.aB))]))
abbrev Y7:Nat×SC:=(100021,(.lit [(.pv (an bn.cells [xt]))]))
theorem Q4:ag aV 87 [(.pv (an aw.cells px.ai)),(.mD 88 100022)] RK (.pv (vI (-1))) RK:=by
 have u:∀b∈[bF,bK,JE,JF],Xx b=true:=by rw[←abX];decide +kernel
 refine dQ.e0 px _ ?_;refine dQ.dp _ 0 px bF.p _ rfl (by decide) rfl (iV.e1 px 0 bF.p _ _ (unit (u bF (by simp))) rfl rfl still) rfl (by omega) ?_;refine dQ.dp _ 1 px bK.p _ rfl (by decide) rfl (iV.e2 px 1 bK.p _ (unit (u bK (by simp))) rfl (by decide)) rfl (by omega) ?_;refine dQ.dp _ 2 px JE.p _ rfl (by decide) rfl (iV.e2 px 2 JE.p _ (unit (u JE (by simp))) rfl (by decide)) rfl (by omega) ?_;refine dQ.dp _ 3 px JF.p _ rfl (by decide) rfl (iV.e2 px 3 JF.p _ (unit (u JF (by simp))) rfl (by decide)) rfl (by omega) ?_;exact dQ.im _ 4 px rfl rfl (by decide)
theorem Q5:ag aV 91 [(.pv (an az.cells lk.au)),(.cM 92 [] [100020,100022])] (Y6::RK) (.pv (vI (-1))) (Y6::RK):=by refine fS.e0 lk px _ (yD (L:=fun i r=>fS.ay lk.au i lk px _ r _) lk.au.length (fun i hi hL => ?_) (fS.im lk.au _ lk px rfl rfl (abW _)));have h4:lk.au.length=4:=rfl;exact fS.dp lk.au i lk px _ _ rfl hi (abJ hi) (sv.e0 lk px i _ _ (L0 _ (acj hi))) rfl (by omega) hL
theorem Q6:ag aV 94 [(.pv (an ax.cells lk.aB)),(.cM 95 [] [100022,100021])] (RK++[Y7]) (.pv (vI (-1))) (RK++[Y7]):=by have t:=tP.e0 (tw T1) bK.p xt (bw 0) (bw 1) true true My.cos.1 My.cos.2 (equal (q:=[]) (x:=0) (by decide +kernel)) rfl (equal (q:=[1]) (x:=1) (by decide +kernel));refine gI.e0 px [xt] _ (gI.dp _ 0 [xt] px ⟨(ByteArray.mk #[100]),1⟩ _ rfl (by decide) rfl (sw.e0 px [xt] 0 _ 1 bK.p 0 xt true rfl rfl rfl rfl t) rfl (by omega) ?_);exact gI.im _ 1 [xt] px rfl rfl (by decide)
theorem Hy:Cp 18 [lk.pv,an bn.cells [xt],px.pv] (.bg [vB true,(⟨0,0⟩:fF).pv,.ar]):=by have f:=u7.e4 lk [xt] px (-1) (-1) (-1) (gQ.check (t:=T1) (by decide +kernel)) rfl Q4 (by omega) Q5 (by omega) Q6 (by omega);exact mb.e1 lk [xt] px UT.Check rfl (mb.eu [xt] 0 lk px xt (by decide) rfl Xv.Dg (by omega) (mb.dp [xt] 1 lk px ⟨0,0⟩ (by decide) f))
theorem N3:Cp 16 [(⟨bw 4,bw 1,bw 3,bw 3,oz,oz⟩:oO).pv] lk.pv:=by have m:=QF.Mul 0 3 (by decide +kernel) (by decide +kernel);rw[show (0:Rat)*3=0 from by decide +kernel] at m;have k:∀a x y,Cp 43 [.str a,x.pv,y.pv] (⟨a,x,y⟩:cR).pv:=qP.e0;exact oc.e0 ⟨bw 4,bw 1,bw 3,bw 3,oz,oz⟩ _ _ _ _ _ _ oz oz _ _ _ (k _ _ _) (k _ _ _) (k _ _ _) (k _ _ _) (k _ _ _) (k _ _ _) m m (k _ _ _) (k _ _ _) (k _ _ _)
theorem mh(P:Mz.yE):Cp 4 [] (vB true):=by have o {n:Int} (h:bf n):=BW.Of n h;exact oa.e1 (bw 4) (bw 1) (bw 3) (bw 4) (bw 1) (bw 3) lk (bw 1) [Jp,px] px true ⟨0,0⟩ (o (n:=4) (by unfold bf;omega)) (o (n:=1) (by unfold bf;omega)) (o (n:=3) (by unfold bf;omega)) (by omega) rfl (by omega) rfl (by omega) rfl N3 (o (n:=1) (by unfold bf;omega)) (Xv.All P) rfl rfl Hy
end Y5
end Go.Proofs.YtneklnlpgfeplaaGreat.Sym
namespace Go.Proofs.YtneklnlpgfeplaaGreat.Sym
open Go Go.RowKit
set_option linter.unusedVariables false
def Wd(ro:Option Nat):Fence := { Fence.wide with round:=ro }
theorem N4(ro:Option Nat)(n:Nat):(Wd ro).room n:=fun _ h=>by simp[Wd,Fence.wide] at h
theorem ni(ro:Option Nat):(Wd ro).depth=none:=rfl
theorem L1{ro:Option Nat}{P:Program}{m m':Machine}(h:Steps P m m'):StepsIn (Machine.fenced P (Wd ro)) P m m':=stepsIn_wide.2 h
theorem L2{ro:Option Nat}{n:Nat}{P:Program}{f:FuncId}{args:Array Value}{w:World}{R:Ending→World→Prop}(h:Calls P f args w R):CallsIn (Wd ro) n P f args w R:=callsIn_wide.2 h
theorem N5{ro:Option Nat}{n:Nat}{P:Program}{row:String}{args:Array Value}{w:World}{R:Value→World→Prop}(h:Rows P row args w R):RowsIn (Wd ro) n P row args w R :=
 fun c cs _=>let ⟨v,w',r,s⟩:=h c cs;⟨v,w',r,L1 s⟩
def lift(ds:List Deferred)(a:Act):Act := { a with defers:=a.defers++ds }
theorem qU{ds:List Deferred}{a:Act}{d:Option Tmp}{v:Value} : (lift ds a).put d v=lift ds (a.put d v):=by cases d<;>rfl
theorem Dh{ds:List Deferred}{a:Act} : (lift ds a).eval=a.eval:=by funext x;cases x<;>rfl
def BO(o:Oper):Bool:=(match o.op with | .defer _=>false|_=>true)&&(match o.dst with|some 0=>false|_=>true)
theorem Di{o:Oper}(h:BO o=true):(∀c,o.op ≠ .defer c)∧o.dst≠some 0:=by
 unfold BO at h;simp only[Bool.and_eq_true] at h;refine⟨fun c e => ?_,fun e => ?_⟩
 ·rw[e] at h;exact absurd h.1 (by simp)
 ·rw[e] at h;exact absurd h.2 (by simp)
theorem BP{a:Act}{d:Option Tmp}{v:Value}(h:d≠some 0):(a.put d v).tmps.getD 0 undef=a.tmps.getD 0 undef:=by
 cases d with
 |none=>rfl
 |some k =>
  have hk:k≠0:=fun e=>h (by rw[e])
  show(a.tmps.setIfInBounds k v).getD 0 undef=_;simp only[Array.getD_eq_getD_getElem?,Array.getElem?_setIfInBounds];rw[ac3 hk]
section
variable {P:Program} {ops:Array Oper} {ds:List Deferred} {ro:Option Nat} {n:Nat} {v0:Value}
theorem TU{o:Oper}(ho:BO o=true){a:Act}{w:World}{K K':Act→World→Prop}{R:Act→World→Prop}{Q':Exit→Act→World→Prop}
  (h:o.wp P a w K (fun e a w=>e = .normal∧R a w)) (h0:a.tmps.getD 0 undef=v0)
  (hk:∀a' w',a'.tmps.getD 0 undef=v0→K a' w'→K' (lift ds a') w'):o.wpIn (Wd ro) n P (lift ds a) w K' Q':=by
 obtain⟨hd,hz⟩:=Di ho;refine⟨fun _ _=>trivial,?_⟩;rw[Oper.semAt_eq _ _ _ hd,Dh];unfold Oper.wp at h;generalize (execOp a.eval o).run P w=r at h ⊢;have hp:∀v,(a.put o.dst v).tmps.getD 0 undef=v0:=fun v=>(BP hz).trans h0
 have Gt:¬LetsOut (fun e (a:Act) (w:World)=>e=Exit.normal∧R a w):=fun ⟨_,_,h,_⟩=>by cases h
 cases r with
 |ok nx w' =>
  cases nx with
  |value v=>rw[Oper.upon_value] at h;rw[Oper.uponIn_value,qU];exact hk _ _ (hp v) h
  |skip=>rw[Oper.upon_skip] at h;rw[Oper.uponIn_skip,qU];exact hk _ _ (hp undef) h
  |defer d =>rw[Oper.upon_defer] at h;rw[Oper.uponIn_defer];have:=hk _ _ (by rw[BP hz];exact h0) h;rw[←qU] at this;exact this
  |enter f args =>
   rw[aeL] at h;rw[Oper.uponIn_enter];refine⟨fun h=>(by rw[ni] at h;cases h),(L2 h).mono fun e Y8 FA => ?_⟩;cases e with
   |returned v=>show K' ((lift ds a).put o.dst v) Y8;rw[qU];exact hk _ _ (hp v) FA
   |panicked c=>exact absurd FA.1 (by simp)
   |outgrown=>exact absurd FA Gt
  |row row args =>rw[Oper.upon_row] at h;rw[Oper.uponIn_row];exact⟨fun h=>(by rw[ni] at h;cases h),(N5 h).mono fun v Y8 FA=>by rw[qU];exact hk _ _ (hp v) FA⟩
  |_=>exact h.elim
 |halt x w' =>
  cases x with
  |panic v=>rw[Oper.upon_panic] at h;exact absurd h.1 (by simp)
  |_=>exact h.elim
theorem xV(gk:ops.all BO=true){R:Act→World→Prop}{Q':Exit→Act→World→Prop}(rest:List Nat)(hk:∀a w,R a w→a.tmps.getD 0 undef=v0→wpOpsIn (Wd ro) n P ops Q' rest (lift ds a) w) :
  ∀(l:List Nat) (a:Act) (w:World),a.tmps.getD 0 undef=v0→wpOps P ops (fun e a w=>e = .normal∧R a w) l a w→wpOpsIn (Wd ro) n P ops Q' (l++rest) (lift ds a) w
 |[],a,w,h0,h=>hk a w h.2 h0
 |i::l,a,w,h0,h=>by
  unfold wpOps at h;rw[adV];unfold wpOpsIn;have Gt:¬LetsOut (fun e (a:Act) (w:World)=>e=Exit.normal∧R a w):=fun ⟨_,_,h,_⟩=>by cases h
  cases ho:ops[i]? with
  |none =>simp only[ho] at h;exact xV gk rest hk l a w h0 h
  |some o =>
   simp only[ho] at h ⊢;have Y9:BO o=true:=by obtain⟨hi,he⟩:=ach.1 ho;rw[←he];exact Array.all_eq_true.1 gk i hi
   show(if Region.wanted o (yielded ops a.tmps)=true then _ else _);by_cases hw:Region.wanted o (yielded ops a.tmps)=true
   ·rw[ac7 hw] at h ⊢;rcases h with h|h
    ·exact TU Y9 h h0 (fun a' w' NK h'=>xV gk rest hk l a' w' NK h')
    ·exact absurd h.2 Gt
   ·rw[ac3 hw] at h ⊢;refine⟨fun _ _=>trivial,?_⟩;rw[qU];exact xV gk rest hk l _ w (by rw[BP (Di Y9).2];exact h0) h
def qw(ro:Option Nat)(P:Program)(c:Code)(Q:Exit→Act→World→Prop)(a:Act)(w:World):Prop :=
 ∀(b:Frame) (k:List Item) (cs:List Frame),b.roundOf=ro →
  ∃e a' w',Q e a' w'∧ArrivesIn (Machine.fenced P (Wd ro)) P (lone (b.atR a (.code c :: .inLoop c::k)) cs w) b k cs e a' w'
def iZ(ro:Option Nat)(P:Program)(Q:Exit→Act→World→Prop):List eh→Exit→Act→World→Prop
 |[],e,a,w=>Q e a w
 |.code c::K,.normal,a,w=>c.wpIn (Wd ro) 0 P (iZ ro P Q K) a w
 |.code _::K,e,a,w=>iZ ro P Q K e a w
 |.rk id::K,.exit id',a,w=>if id'=id then iZ ro P Q K .normal a w else iZ ro P Q K (.exit id') a w
 |.rk _::K,e,a,w=>iZ ro P Q K e a w
 |.lJ c::K,.normal,a,w=>qw ro P c (iZ ro P Q K) a w
 |.lJ _::K,e,a,w=>iZ ro P Q K e a w
end
section
variable {P:Program} {T:ja} {fn:Func} {Γ:Ctx} {ro:Option Nat} {Q:Exit→Act→World→Prop} {K:List eh} {s s':St} {a:Act} {w:World} {v0:Value} {ds:List Deferred}
def qV(ro:Option Nat)(P:Program)(Γ:Ctx)(v0:Value)(ds:List Deferred)(Q:Exit→Act→World→Prop)(K:List eh)(s:St):Prop :=
 ∀a w,Rel Γ s a w→a.tmps.getD 0 undef=v0→iZ ro P Q K .normal (lift ds a) w
theorem qw.wp{c:Code}{Q:Exit→Act→World→Prop}(h:qw ro P c Q a w):(Code.loop c).wpIn (Wd ro) 0 P Q a w:=by intro b k cs UU _ _;obtain⟨e,a',w',hq,ri⟩:=h b k cs UU;exact⟨e,a',w',hq,.of_steps (.one (fenced_wide P _) stepR_loop) ri⟩
theorem qw.round{c:Code}{Q:Exit→Act→World→Prop}(h:c.wpIn (Wd ro) 0 P (Exit.then (qw ro P c Q) Q) a w):qw ro P c Q a w:=by
 intro b k cs UU;obtain⟨e,a₁,w₁,hq,ri⟩:=h b (.inLoop c::k) cs UU trivial (N4 ro _);cases e with
 |normal =>obtain⟨e₂,a₂,w₂,Km,DB⟩:=hq b k cs UU;exact⟨e₂,a₂,w₂,Km,.of_steps (StepsIn.trans ri (.one (fenced_wide P _) stepR_inLoop)) DB⟩
 |exit id=>exact⟨_,a₁,w₁,hq,.pass (x := .inLoop c) rfl (fun _ _ => .inl (by simp)) ri⟩
 |goto l=>exact⟨_,a₁,w₁,hq,.pass (x := .inLoop c) rfl (fun _ _ => .inl (by simp)) ri⟩
 |ret=>exact⟨_,a₁,w₁,hq,.pass (x := .inLoop c) rfl (fun _ _ => .inl (by simp)) ri⟩
 |panic ch=>exact⟨_,a₁,w₁,hq,.pass (x := .inLoop c) rfl (fun _ _ => .inl (by simp)) ri⟩
 |outgrown=>exact⟨_,a₁,w₁,hq,.pass (x := .inLoop c) rfl (fun _ _ => .inl (by simp)) ri⟩
theorem L4{c:Code} : Exit.then (iZ ro P Q (.code c::K) .normal) (iZ ro P Q K)=iZ ro P Q (.code c::K):=by funext e a w;cases e<;>rfl
theorem Jq{id:Nat} : Exit.inBlock id (iZ ro P Q K)=iZ ro P Q (.rk id::K):=by funext e a w;cases e<;>rfl
theorem L6{c:Code} : Exit.then (qw ro P c (iZ ro P Q K)) (iZ ro P Q K)=iZ ro P Q (.lJ c::K):=by funext e a w;cases e<;>rfl
theorem qd{id:Nat} : ∀{K K':List eh},unwind id K=some K'→iZ ro P Q K' .normal a w→iZ ro P Q K (.exit id) a w
 |[],K',h,_=>by cases h
 |.code c::K,K',h,hs=>qd (K:=K) h hs
 |.lJ k::K,K',h,hs=>qd (K:=K) h hs
 |.rk id'::K,K',h,hs=>by
  simp only[unwind] at h;simp only[iZ];cases hb:Nat.beq id' id with
  |true =>
   have:id'=id:=abO hb;subst this;simp only[hb,cond_true] at h;injection h with h;subst h
   rw[ac7 rfl];exact hs
  |false =>simp only[hb,cond_false] at h;rw[ac3 (fun e=>by subst e;simp at hb)];exact qd h hs
theorem tX:∀(K:List eh),Q .ret a w→iZ ro P Q K .ret a w
 |[],h=>h
 |.code _::K,h=>tX K h
 |.rk _::K,h=>tX K h
 |.lJ _::K,h=>tX K h
section
variable {ops:Array Oper}
theorem HH(hT:mm P T)(hs:∀r,bz Γ.sin r→Γ.n≤r)(hQ:∀c a w d v,Q (.panic c) (Act.put a d v) w→Q (.panic c) a w){fl:List Nat}{Us:List (List Nat)}{hints:List Hint}{ob:List Prop}(hr:Rel Γ s a w)
  (bc:ud P T Γ.n ops fl (sC ops fl) Us hints s=some (s',ob)) (cf:dW ob) (hk:∀a' w',Rel Γ s' a' w'→Q .normal a' w'):wpAny P .any ops Q ops.size (Array.replicate ops.size false) a { w with drawn:=w.drawn+1 } := by
 unfold ud at bc;generalize JA:sC ops fl=al at bc;cases r8:(Us.contains al&&(my ops Us).all (fun x=>Us.contains (CE x.1 x.2))&&fwd ops [] (List.range ops.size)&&Region.noSelect ops&&(List.range ops.size).all (fun i=>(gX ops i).all fun e=>Nat.blt e ops.size)&&vt fl&&fl.all (fun i=>Nat.blt i ops.size)) with
 |false=>rw[r8] at bc;cases bc
 |true =>
  simp only[r8,cond_true] at bc;split at bc
  ·rename_i s0 JV;split at bc
   ·rename_i s1 can KF;injection bc with bc;injection bc with e1 e2
    subst e1;subst e2;obtain⟨g1,g2⟩:=cf.app;have g2:KD P T Γ.n ops al Us hints s0=KE P T Γ.n ops al Us hints s0:=g2;unfold KD KE E9 at g2;rw[KF,zu] at g2;have g2:(my ops Us).map (AF P T Γ.n ops hints al (uM ops s0) (uN ops s0) s0)=(my ops Us).map (AG P T Γ.n ops hints al (uM ops s0) (uN ops s0) s0 can):=g2;simp only[Bool.and_eq_true,List.all_eq_true] at r8;obtain⟨⟨⟨⟨⟨⟨c1,c2⟩,c3⟩,c4⟩,c5⟩,c6⟩,c7⟩:=r8;have KG:al∈Us:=by simpa using c1
    have th:∀i,i∈al↔i<ops.size∧i ∉ fl:=fun i=>by rw[←JA];exact Fb
    have zr:∀i,i<ops.size→∀e∈gX ops i,e<ops.size:=fun i hi e he=>abM (c5 i (by simpa using hi) e he)
    have main:∀(fuel:Nat) (U:List Nat) (bT:Array Bool) (a:Act) (w:World) (sU:St) (oU:List (List Prop)),U.length=fuel→U∈Us→U.Nodup→(∀i∈U,i<ops.size)→Es ops bT U →
      vv P T Γ.n ops hints U al s0=some (sU,oU)→Rel Γ sU a w→wpAny P .any ops Q fuel bT a w:=by
     intro fuel
     induction fuel with
     |zero =>
      intro U bT a w sU oU hlen _ _ _ hl hU gW;have:U=[]:=abT hlen;subst this;rw[KF] at hU;injection hU with hU;injection hU with e1 _
      subst e1;refine⟨?_,hk a w gW⟩;apply adQ.2;intro i hi;have cT:i<ops.size:=by rw[mem_ready] at hi;obtain⟨_,o,ho,_⟩:=hi;exact(ach.1 ho).1
      have:=(gr hl (zr i cT)).1 hi;simp at this
     |succ fuel ih =>
      intro U bT a w sU oU hlen V5 hn cT hl hU gW;refine⟨fun zV => ?_,fun i hi => ?_⟩
      ·have nZ:∃i,i∈List.range ops.size∧i∈U:=by
        cases U with
        |nil=>cases hlen
        |cons j U=>exact⟨j,by simpa using cT j (by simp),by simp⟩
       obtain⟨j,_,Dw,Su⟩:=uc ops U (List.range ops.size) [] c3 (fun e he=>by cases he) nZ;have:j∈Region.ready .any ops bT:=(gr hl (zr j (cT j Dw))).2 ⟨cT j Dw,Dw,Su⟩;rw[zV] at this;cases this
      ·have PM:i<ops.size:=by
        have OB:=hi;rw[mem_ready] at OB;obtain⟨_,o,ho,_⟩:=OB;exact(ach.1 ho).1
       obtain⟨_,GI,nL⟩:=(gr hl (zr i PM)).1 hi;have th:(U,i)∈my ops Us:=by unfold my;refine af7.2 ⟨U,V5,aca.2 ⟨i,adj.2 ⟨GI,?_⟩,rfl⟩⟩;rw[abX];intro e he;simpa using nL e he
       obtain⟨o,Z2,s2,o2,ho,KH,KI,E6⟩:=CF (AI g2 (U,i) th) hU;unfold wpOp;rw[ho];refine nm hT hs gW KH (DM can (KC al i) g1) (fun a' w' dx => ?_);have V6:CE U i∈Us:=by simpa using c2 (U,i) th
       exact ih (CE U i) _ a' w' s2 o2 (by have:=DI hn GI;omega) V6 (adL _ hn) (fun j hj=>cT j (nc.1 hj).1) (hl.set PM) KI (Rel.IL E6 dx)
    have dx:Rel Γ s a w.drew:=by obtain⟨β,I,hr⟩:=hr;exact⟨β,I,hr.grow ((yK.refl _ _).drew) (fun b h=>h) (fun b h => .inl h)⟩
    have h0:∀(l:List Nat) (U:List Nat),(∀i∈l,i∈U)→vv P T Γ.n ops hints U l s0=some (s0,[]):=by
     intro l
     induction l with
     |nil=>intro U _;rfl
     |cons i l ih =>
      intro U h;unfold vv;have:U.contains i=true:=by simpa using h i (by simp)
      rw[this];exact ih U (fun j hj=>h j (by simp[hj]))
    have Sv:fl.Nodup:=pN c6;have Sw:al.Nodup:=by rw[←JA];exact adL _ aeC
    have Sx:∀i∈fl,i<ops.size:=fun i hi=>abM (c7 i hi)
    have E8:∀i∈fl,i ∉ al:=fun i hi h=>((th i).1 h).2 hi
    have hlen:fl.length+al.length=ops.size:=by
     have Sl:(fl++al).Nodup:=ad7.2 ⟨Sv,Sw,fun i hi j hj e=>E8 i hi (e ▸ hj)⟩;have h1:=acK (l₁:=fl++al) (l₂:=List.range ops.size) Sl (fun j hj=>by
      rw[adf];rcases acs.1 hj with h|h
      ·exact Sx j h
      ·exact((th j).1 h).1)
     have h2:=acK (l₁:=List.range ops.size) (l₂:=fl++al) aeC (fun j hj=>by
      rw[adf] at hj;rw[acs];by_cases h:j∈fl
      ·exact .inl h
      ·exact .inr ((th j).2 ⟨hj,h⟩))
     rw[acr,adC] at h1 h2;omega
    have key:=rz (Q:=Q) (s0:=s0) (rest:=al.length) hT c4 hQ al (fun bT a w hl gW =>
     main al.length al bT a w s0 [] rfl KG Sw (fun i hi=>((th i).1 hi).1) hl (h0 _ _ (fun i hi=>hi)) gW)
     fl (fl++al) (Array.replicate ops.size false) s a w.drew (fun j=>by rw[acs];exact Or.comm) E8 Sv Sx
     ⟨by simp,fun j hj=>by
      constructor
      ·intro h;have hf:(Array.replicate ops.size false).getD j false=false:=by simp[Array.getD_eq_getD_getElem?,hj]
       rw[hf] at h;cases h
      ·intro h;refine absurd ?_ h;rw[acs];by_cases hf:j∈fl
       ·exact .inl hf
       ·exact .inr ((th j).2 ⟨hj,hf⟩)⟩ dx JV
    rw[hlen] at key;exact key
   ·cases bc
  ·cases bc
end
def py(P:Program)(T:ja)(fn:Func):Nat→List eh→St→List TE→Option (Out×List Prop)
 |0,_,_,_=>none
 |f+1,K,s,tr =>
  match Sy tr with
  |some (te,r)=>match kj fn.ntmps s te with
   |some (s',ob)=>uP ob (py P T fn f K s' r)
   |none=>none
  |none=>match K with
   |[]=>match tr with
    |[]=>some (.loop [] s,[])
    |_=>none
   |.rk _::K'=>py P T fn f K' s tr
   |.lJ c::K'=>match tr with
    |[]=>some (.loop (.lJ c::K') s,[])
    |.auto::r=>py P T fn f (.code c :: .lJ c::K') s r
    |_=>none
   |.code c::K'=>match c with
    |.skip=>py P T fn f K' s tr
    |.region id ops draw=>match tr with
     |[]=>some (.loop (.code (.region id ops draw)::K') s,[])
     |.bx hs::r=>bif !draw&&ops.all BO then match oI P T fn.ntmps ops ops.toList hs s with
      |some (s',ob)=>uP ob (py P T fn f K' s' r)
      |none=>none
      else none
     |.any fl hs::r=>bif draw&&ops.all BO then (match ud P T fn.ntmps ops fl (sC ops fl) (uO ops fl) hs s with
      |some (s',ob)=>uP ob (py P T fn f K' s' r)
      |none=>none) else none
     |_=>none
    |.rangeFunc g ps cs bd=>match tr with
     |[]=>some (.loop (.code (.rangeFunc g ps cs bd)::K') s,[])
     |_=>none
    |.seq a b=>py P T fn f (.code a :: .code b::K') s tr
    |.cond c x y=>match cU s.env c with
     |some (.pv (.bool b))=>match tr with
      |.dec d::r=>uP [b=d] (py P T fn f (.code (bif d then x else y)::K') s r)
      |.auto::r=>py P T fn f (.code (bif b then x else y)::K') s r
      |_=>none
     |_=>none
    |.block id c=>py P T fn f (.code c :: .rk id::K') s tr
    |.loop c=>py P T fn f (.lJ c::K') s tr
    |.exit id=>match unwind id K' with
     |some PN=>py P T fn f PN s tr
     |none=>none
    |.ret=>match tr with
     |[]=>some (.done .dead s,[])
     |_=>none
    |_=>none
def Xy(ro:Option Nat)(P:Program)(Γ:Ctx)(v0:Value)(ds:List Deferred)(Q:Exit→Act→World→Prop):Out→Prop
 |.done _ s=>∀a w,Rel Γ s a w→a.tmps.getD 0 undef=v0→Q .ret (lift ds a) w
 |.loop K s=>qV ro P Γ v0 ds Q K s
theorem vM(hm:P.follows .mixedOrders=true)(hT:mm P T)(hs:∀r,bz Γ.sin r→Γ.n≤r)(hn:Γ.n=fn.ntmps):∀(f:Nat) (K:List eh) (s:St) (tr:List TE) (out:Out) (ob:List Prop),
  py P T fn f K s tr=some (out,ob)→dW ob→Xy ro P Γ v0 ds Q out→qV ro P Γ v0 ds Q K s
 |0,_,_,_,_,_,h,_,_=>by cases h
 |f+1,K,s,tr,out,ob,h,cf,ho=>by
  intro a w hr h0;have ih:=vM hm hT hs hn f;unfold py at h;split at h
  ·rename_i te r zv;split at h
   ·rename_i s' EW bc;obtain⟨ob2,h2,rfl⟩:=iv h;obtain⟨g1,g2⟩:=cf.app;exact ih K s' r out ob2 h2 g2 ho a w (rn hs hr (by rw[hn];exact bc) g1) h0
   ·cases h
  ·split at h
   ·split at h
    ·injection h with h;injection h with h1 h2
     subst h1;exact ho a w hr h0
    ·cases h
   ·rename_i id K';exact ih K' s tr out ob h cf ho a w hr h0
   ·rename_i c K';split at h
    ·injection h with h;injection h with h1 h2
     subst h1;exact ho a w hr h0
    ·rename_i r _;have:=ih (.code c :: .lJ c::K') s r out ob h cf ho a w hr h0;show qw ro P c (iZ ro P Q K') (lift ds a) w;refine qw.round ?_;rw[L6];exact this
    ·cases h
   ·rename_i c K';split at h
    ·exact wpIn_skip (ih K' s tr out ob h cf ho a w hr h0)
    ·rename_i id ops draw;split at h
     ·injection h with h;injection h with h1 h2
      subst h1;exact ho a w hr h0
     ·rename_i Jt r _;cases hd:(!draw&&ops.all BO) with
      |false=>rw[hd] at h;cases h
      |true =>
       rw[hd] at h;simp only[cond_true] at h;simp only[Bool.and_eq_true,Bool.not_eq_true'] at hd;obtain⟨r8,Er⟩:=hd;subst r8;split at h
       ·rename_i s' EW bc;obtain⟨ob2,h2,rfl⟩:=iv h;obtain⟨g1,g2⟩:=cf.app;have Ep:=rj (Q:=fun e a w=>e = .normal∧Rel Γ s' a w) hT hs ops.toList 0 Jt s s' EW a w (fun j=>by rw[acw];exact acB) hr (by rw[hn];exact bc) g1 (fun a' w' dx=>⟨rfl,dx⟩);show(Code.region id ops false).wpIn (Wd ro) 0 P (iZ ro P Q K') (lift ds a) w;refine wpIn_region ?_;have:=xV (ro:=ro) (n:=0) (ds:=ds) (Q':=iZ ro P Q K') Er [] (fun a' w' dx NK=>ih K' s' r out ob2 h2 g2 ho a' w' dx NK) _ a w h0 Ep;simpa[List.range_eq_range'] using this
       ·cases h
     ·rename_i fl Jt r _;cases hd:(draw&&ops.all BO) with
      |false=>rw[hd] at h;cases h
      |true =>
       rw[hd] at h;simp only[cond_true] at h;simp only[Bool.and_eq_true] at hd;obtain⟨r8,Er⟩:=hd;subst r8;split at h
       ·rename_i s' EW bc;obtain⟨ob2,h2,rfl⟩:=iv h;obtain⟨g1,g2⟩:=cf.app;have Ep:=HH (Q:=fun e a w=>e = .normal∧Rel Γ s' a w) hT hs (fun c a w d v hq=>absurd hq.1 (by simp)) hr (by rw[hn];exact bc) g1 (fun a' w' dx=>⟨rfl,dx⟩);show(Code.region id ops true).wpIn (Wd ro) 0 P (iZ ro P Q K') (lift ds a) w;refine wpIn_region_draw fun t => ?_
        simp only[Region.schedule,hm,Bool.true_or,if_true];have Xz:=wpAny_sound ops.size t _ a _ Ep;have:=xV (ro:=ro) (n:=0) (ds:=ds) (Q':=iZ ro P Q K') Er [] (fun a' w' dx NK=>ih K' s' r out ob2 h2 g2 ho a' w' dx NK) _ a _ h0 Xz;rw[aem] at this;exact this
       ·cases h
     ·cases h
    ·rename_i g ps cs bd;split at h
     ·injection h with h;injection h with h1 h2
      subst h1;exact ho a w hr h0
     ·cases h
    ·rename_i x y;refine wpIn_seq ?_;show x.wpIn (Wd ro) 0 P (Exit.then (iZ ro P Q (.code y::K') .normal) (iZ ro P Q K')) (lift ds a) w;rw[L4];exact ih (.code x :: .code y::K') s tr out ob h cf ho a w hr h0
    ·rename_i c x y;split at h
     ·rename_i b hb;have hc:(lift ds a).eval c = .bool b:=by
       rw[Dh];obtain⟨β,I,dx⟩:=hr;have hv:Rd I w (.bool b) (a.eval c):=dx.zZ c _ hb;generalize a.eval c=v at hv;cases hv;rfl
      split at h
      ·rename_i d r _;obtain⟨ob2,h2,rfl⟩:=iv h;obtain⟨g1,g2⟩:=cf.app;have g1:b=d:=g1;subst g1;have:=ih (.code (bif b then x else y)::K') s r out ob2 h2 g2 ho a w hr h0;refine wpIn_cond hc ?_;cases b<;>exact this
      ·rename_i r _;have:=ih (.code (bif b then x else y)::K') s r out ob h cf ho a w hr h0;refine wpIn_cond hc ?_;cases b<;>exact this
      ·cases h
     ·cases h
    ·rename_i id c;refine wpIn_block ?_;show c.wpIn (Wd ro) 0 P (Exit.inBlock id (iZ ro P Q K')) (lift ds a) w;rw[Jq];exact ih (.code c :: .rk id::K') s tr out ob h cf ho a w hr h0
    ·rename_i c;exact qw.wp (ih (.lJ c::K') s tr out ob h cf ho a w hr h0)
    ·rename_i id;split at h
     ·rename_i PN hu;exact wpIn_exit (qd hu (ih PN s tr out ob h cf ho a w hr h0))
     ·cases h
    ·split at h
     ·injection h with h;injection h with h1 h2
      subst h1;exact wpIn_ret (tX K' (ho a w hr h0))
     ·cases h
    ·cases h
end
end Go.Proofs.YtneklnlpgfeplaaGreat.Sym
namespace Go.Proofs.YtneklnlpgfeplaaGreat.Sym
open Go Go.RowKit
set_option linter.unusedVariables false
theorem mw.lg{β:Nat→Option Nat}{I:Nat→Prop}{w:World}{aP:aY}{σ:List (Nat×Nat)}(h:mw β I w aP)(d2:x9 aP σ=true) :
  mw (βX β σ) I w (Sym.lg aP σ σ)∧Ren (assoc σ) β (βX β σ) (bz aP) (bz (Sym.lg aP σ σ)):=by
 have wz:∀p∈σ,p∈σ:=fun p hp=>hp
 have PE:∀y,(Sym.lg aP σ σ).get y=(Sym.lg aP σ σ).cD y:=oA (Dy d2 σ wz);have hτ:Ren (assoc σ) β (βX β σ) (bz aP) (bz (Sym.lg aP σ σ)):=fun x y VB hx=>by have hm:=eA VB;obtain⟨_,_,hR,_⟩:=jG d2 hm;refine⟨by unfold bz;rw[PE];exact tc d2 σ wz x y hm,by unfold βX;rw[hR];rfl⟩
 have hinv:∀y sc',(Sym.lg aP σ σ).get y=some sc'→∃x sc,ek σ y=some x∧assoc σ x=some y∧aP.get x=some sc∧zd (assoc σ) sc=some sc':=fun y sc' hy=>Am d2 σ wz y sc' (by rw[←PE];exact hy)
 refine⟨⟨fun y sc' hy => ?_,fun y y' b hy Ak h1 h2 => ?_⟩,hτ⟩
 ·obtain⟨x,sc,g1,g2,g3,g4⟩:=hinv y sc' hy;have F2:βX β σ y=β x:=by unfold βX;rw[g1];rfl
  obtain⟨k1,k2⟩:=h.1 x sc g3;exact⟨k1.pH hτ g4 F2,fun b hb=>k2 b (F2.symm.trans hb)⟩
 ·obtain⟨sc,gS⟩:=abP.1 hy;obtain⟨sc',B8⟩:=abP.1 Ak;obtain⟨x,_,g1,g2,g3,_⟩:=hinv y sc gS;obtain⟨x',_,Kf,Ad,Kg,_⟩:=hinv y' sc' B8;have e1:β x=some b:=by unfold βX at h1;rw[g1] at h1;exact h1
  have e2:β x'=some b:=by unfold βX at h2;rw[Kf] at h2;exact h2
  have:=h.2 x x' b (by unfold bz;rw[g3];rfl) (by unfold bz;rw[Kg];rfl) e1 e2;subst this;rw[g2] at Ad;injection Ad with Ad
def N6(τ:Nat→Option Nat):Env→Option Env
 |[]=>some []
 |(t,e)::r=>match xz τ e,N6 τ r with
  |some e',some r'=>some ((t,e')::r')
  |_,_=>none
theorem FP{τ:Nat→Option Nat}{t:Nat}{e':EV} : ∀{env B9:Env},N6 τ env=some B9→B9.get t=some e'→∃e,env.get t=some e∧xz τ e=some e'
 |[],B9,h,g=>by injection h with h;subst h;cases g
 |(t0,e)::r,B9,h,g=>by
  unfold N6 at h;split at h
  ·rename_i e1 r1 h1 h2;injection h with h;subst h
   simp only[Env.get] at g ⊢;cases hb:Nat.beq t0 t with
   |true=>rw[hb,abQ] at g;injection g with g;subst g;exact⟨e,rfl,h1⟩
   |false=>rw[hb,ac1] at g;exact FP h2 g
  ·cases h
structure pA (n:Nat) (s:St) (a:Act) (w:World) (β:Nat→Option Nat) (I:Nat→Prop):Prop where
 env:∀t e,s.env.get t=some e→RE β (bz s.aP) I w e (a.tmps.getD t undef)
 aP:mw β I w s.aP
 ib:∀b,I b→b<w.heap.size
 size:a.tmps.size=n
 defers:a.defers=[]
section
variable {Γ:Ctx} {s:St} {a:Act} {w:World} {β:Nat→Option Nat} {I:Nat→Prop} {n:Nat}
theorem dh.snap(h:dh Γ s a w β I):pA Γ.n s a w β I:=⟨h.env,h.aP,h.ib,h.size,h.defers⟩
theorem pA.rel(h:pA n s a w β I)(hn:n≤999999)(hl:kh s.aP β w):dh ⟨w,I,s.aP,β,n,hn,hl⟩ s a w β I :=
 ⟨h.env,h.aP,fun r _ _ _=>rfl,fun r b h1 h2 h3=>h2.elim (absurd h1) (fun h2 => .inr ⟨r,h2,h1,h3⟩),h.ib,fun b h => .inl h,gV.refl _ _,h.size,h.defers⟩
theorem pA.pH(h:pA n s a w β I){σ:List (Nat×Nat)}{env:Env}(gk:x9 s.aP σ=true)(he:N6 (assoc σ) s.env=some env):pA n ⟨env,lg s.aP σ σ⟩ a w (βX β σ) I:=by obtain⟨h1,h2⟩:=h.aP.lg gk;refine⟨fun t e' hg => ?_,h1,h.ib,h.size,h.defers⟩;obtain⟨e,g1,g2⟩:=FP he hg;exact(h.env t e g1).pH h2 g2
theorem mj{w:World}{l k:Nat}{o:Obj}(h:k≠l):(w.putObj l o).heap[k]? = w.heap[k]? := World.putObj_heap_other h
theorem pA.put(h:pA n s a w β I){l:Nat}(o:Obj)(h1:¬I l)(h2:∀r,bz s.aP r→β r≠some l):pA n s a (w.putObj l o) β I:=by
 have hw:∀b o',I b→(w.putObj l o).cell? ⟨b,o',none⟩=w.cell? ⟨b,o',none⟩:=fun b o' hb=>fh (mj (k:=b) (l:=l) (fun e=>h1 (by rw[←e];exact hb))) o'
 have hs:∀r b,bz s.aP r→β r=some b→(w.putObj l o).shape? b=w.shape? b:=fun r b hr hb=>kH (mj (k:=b) (l:=l) (fun e=>h2 r hr (by rw[←e];exact hb)))
 refine⟨fun t e he=>(h.env t e he).mono (fun _ _=>rfl) (fun _ h=>h) (fun _ h=>h) hw hs,⟨fun r sc hr => ?_,h.aP.2⟩,fun b hb=>by rw[World.putObj_size];exact h.ib b hb,h.size,h.defers⟩;obtain⟨g1,g2⟩:=h.aP.1 r sc hr;have hd:bz s.aP r:=by unfold bz;rw[hr];rfl
 exact⟨g1.mono rfl (fun b hb=>mj (k:=b) (l:=l) (fun e=>h2 r hd (by rw[←e];exact hb))) (fun _ _=>rfl) (fun _ h=>h) (fun _ h=>h) hw hs,fun b hb=>⟨by rw[World.putObj_size];exact(g2 b hb).1,(g2 b hb).2⟩⟩
theorem pA.grow(h:pA n s a w β I)(o:Obj):pA n s a (w.alloc o) β I:=by
 have hb:∀k,k<w.heap.size→(w.alloc o).heap[k]? = w.heap[k]? := fun k hk=>Below.heap_alloc w o k hk
 have Za:∀r b,bz s.aP r→β r=some b→b<w.heap.size:=fun r b hr lA=>by obtain⟨sc,gS⟩:=abP.1 hr;exact((h.aP.1 r sc gS).2 b lA).1
 have hw:∀b o',I b→(w.alloc o).cell? ⟨b,o',none⟩=w.cell? ⟨b,o',none⟩:=fun b o' hI=>fh (hb b (h.ib b hI)) o'
 have hs:∀r b,bz s.aP r→β r=some b→(w.alloc o).shape? b=w.shape? b:=fun r b hr lA=>kH (hb b (Za r b hr lA))
 refine⟨fun t e he=>(h.env t e he).mono (fun _ _=>rfl) (fun _ h=>h) (fun _ h=>h) hw hs,⟨fun r sc hr => ?_,h.aP.2⟩,fun b fc=>by rw[afb];have:=h.ib b fc;omega,h.size,h.defers⟩;obtain⟨g1,g2⟩:=h.aP.1 r sc hr;have hd:bz s.aP r:=by unfold bz;rw[hr];rfl
 exact⟨g1.mono rfl (fun b lA=>hb b (Za r b hd lA)) (fun _ _=>rfl) (fun _ h=>h) (fun _ h=>h) hw hs,fun b lA=>⟨by rw[afb];have:=(g2 b lA).1;omega,(g2 b lA).2⟩⟩
theorem pA.act(h:pA n s a w β I){n':Nat}{env:Env}{a':Act}(he:∀t e,env.get t=some e→RE β (bz s.aP) I w e (a'.tmps.getD t undef))(hz:a'.tmps.size=n')(hd:a'.defers=[]):pA n' ⟨env,s.aP⟩ a' w β I :=
 ⟨he,h.aP,h.ib,hz,hd⟩
end
structure Lk (w0:World) (I0 M0:Nat→Prop) (β1:Nat→Option Nat) (D:Nat→Prop) (m:Nat) (w:World) (β:Nat→Option Nat) (I:Nat→Prop):Prop where
 par:∀r,D r→β r=β1 r
 aW:gV M0 w0 w
 ii:∀b,I b→I0 b∨fresh w0 w b
 nq:∀b,I b→b≠m∧b≠m+1
 low:w0.heap.size≤m
 Jr:m+2≤w.heap.size
section
variable {w0:World} {I0 M0:Nat→Prop} {β1:Nat→Option Nat} {D:Nat→Prop} {m:Nat} {w:World} {β:Nat→Option Nat} {I:Nat→Prop}
theorem Lk.step{Γ:Ctx}{s:St}{a:Act}{w':World}{β':Nat→Option Nat}{I':Nat→Prop}(h:Lk w0 I0 M0 β1 D m w β I)(hr:dh Γ s a w' β' I')(e1:Γ.w0=w)(e2:Γ.I0=I)(e3:Γ.β0=β)
  (hD:∀r,D r→bz Γ.sin r∧bz s.aP r) (zc:∀r,bz Γ.sin r→¬gv r) (hM:∀r b,bz Γ.sin r→β r=some b→(b<w0.heap.size→M0 b)∧b≠m∧b≠m+1) :
  Lk w0 I0 M0 β1 D m w' β' I'∧w'.heap[m]? = w.heap[m]? ∧ w'.heap[m+1]? = w.heap[m+1]? := by
 have hk:=hr.aW;have hi:=hr.ii;have hp:=hr.par;rw[e1] at hk hi;rw[e2] at hi;rw[e3] at hp;have Zb:∀b,¬B3 Γ.sin Γ.β0 b:=fun b ⟨x,h1,h2,_⟩=>zc x h2 h1
 have ji:=hk.size;have XA:∀b,Γ.M b→(b<w0.heap.size→M0 b)∧b≠m∧b≠m+1:=fun b ⟨r,h1,h2⟩=>hM r b h1 (by rw[←e3];exact h2)
 refine⟨⟨fun r UW=>(hp r (hD r UW).2 (hD r UW).1 (zc r (hD r UW).1)).trans (h.par r UW),h.aW.trans hk (fun x hx hm=>(XA x hm).1 hx),fun b hb => ?_,fun b hb => ?_,h.low,abZ h.Jr ji⟩,?_,?_⟩
 ·rcases hi b hb with h1|h1|h1
  ·rcases h.ii b h1 with h2|h2
   ·exact .inl h2
   ·exact .inr ⟨h2.1,ac4 h2.2 ji⟩
  ·exact .inr ⟨abZ h.aW.size h1.1,h1.2⟩
  ·exact absurd h1 (Zb b)
 ·rcases hi b hb with h1|h1|h1
  ·exact h.nq b h1
  ·have:=h1.1;have:=h.Jr;exact⟨by omega,by omega⟩
  ·exact absurd h1 (Zb b)
 ·exact hk.block m (by have:=h.Jr;omega) (fun hm=>(XA m hm).2.1 rfl)
 ·exact hk.block (m+1) (by have:=h.Jr;omega) (fun hm=>(XA (m+1) hm).2.2 rfl)
theorem Lk.put(h:Lk w0 I0 M0 β1 D m w β I){q:Nat}(o:Obj)(hq:q=m∨q=m+1):Lk w0 I0 M0 β1 D m (w.putObj q o) β I:=by
 have Hr:=h.low;refine⟨h.par,?_,fun b hb=>(h.ii b hb).imp id (fun h=>⟨h.1,by rw[World.putObj_size];exact h.2⟩),h.nq,h.low,by rw[World.putObj_size];exact h.Jr⟩;have nZ:∀k,k<w0.heap.size→k≠q:=fun k hk=>by omega
 exact⟨h.aW.os,h.aW.tape,h.aW.output,by rw[World.putObj_size];exact h.aW.size,fun k hk hm=>(mj (nZ k hk)).trans (h.aW.block k hk hm),fun k hk=>(kH (mj (nZ k hk))).trans (h.aW.shape k hk),h.aW.drawn⟩
end
def FQ(ns:List Nat):Option (Out×List Prop)→Option (St×Prop)
 |some (.done _ s,ob)=>some (s,GM ns ob)
 |_=>none
section
variable {P:Program} {T:ja} {fn:Func} {Γ:Ctx} {ro:Option Nat} {Q:Exit→Act→World→Prop} {K K':List eh} {s s':St} {v0:Value} {ds:List Deferred} {A:Prop}
theorem qV.go(hm:P.follows .mixedOrders=true)(hT:mm P T)(hs:∀r,bz Γ.sin r→Γ.n≤r)(hn:Γ.n=fn.ntmps){n:Nat}{ns:List Nat}{tr:List TE}(hA:A)(aJ:mJ ns (py P T fn n K s tr)=some (K',s',A))(h:qV ro P Γ v0 ds Q K' s'):qV ro P Γ v0 ds Q K s:=by
 unfold mJ at aJ;split at aJ
 ·rename_i K2 s2 ob h0;injection aJ with aJ;injection aJ with h1 h2;injection h2 with h2 h3
  subst h1;subst h2;subst h3;exact vM hm hT hs hn n _ _ tr _ ob h0 (mI ns ob hA) h
 ·cases aJ
theorem qV.done(hm:P.follows .mixedOrders=true)(hT:mm P T)(hs:∀r,bz Γ.sin r→Γ.n≤r)(hn:Γ.n=fn.ntmps){n:Nat}{ns:List Nat}{tr:List TE}(hA:A)(aJ:FQ ns (py P T fn n K s tr)=some (s',A))
  (h:∀a w,Rel Γ s' a w→a.tmps.getD 0 undef=v0→Q .ret (lift ds a) w):qV ro P Γ v0 ds Q K s:=by
 unfold FQ at aJ;split at aJ
 ·rename_i e s2 ob h0;injection aJ with aJ;injection aJ with h1 h2
  subst h1;subst h2;exact vM hm hT hs hn n _ _ tr _ ob h0 (mI ns ob hA) h
 ·cases aJ
end
theorem RE.Q7{β:Nat→Option Nat}{L I:Nat→Prop}{w:World}{f:FuncId}{r:Nat}{v:Value}(h:RE β L I w (.mD f r) v):RE β L I w (.cM f [] [r]) v:=by obtain⟨h1,b,h2,h3⟩:=h;exact⟨fun x hx=>by simp at hx;subst hx;exact h1,[],[b],rfl,by simp[h2],by rw[h3];rfl⟩
theorem ag.Q7{P:Program}{g f:FuncId}{r:Nat}{e1 e2 e3 res:EV}{sin sout:aY}(h:ag P g [e1,e2,e3,.cM f [] [r]] sin res sout):ag P g [e1,e2,e3,.mD f r] sin res sout:=by
 refine⟨h.1,fun I w β vs hI zm hl hv hy=>h.2 I w β vs hI zm hl (fun j e v he wv => ?_) hy⟩
 match j,he with
 |0,he=>exact hv 0 e v he wv
 |1,he=>exact hv 1 e v he wv
 |2,he=>exact hv 2 e v he wv
 |3,he=>injection he with he;subst he;exact(hv 3 _ v rfl wv).Q7
theorem ag.UX{P:Program}{fn:Func}{f:FuncId}{args:List EV}{sin sout:aY}{r:EV}(hf:P.funcs[f]? = some fn)(gk:AJ fn args.length sin=true)
  (h:∀(Γ:Ctx) (v0:Value),Γ.sin=sin→Γ.n=fn.ntmps→(∀b,Γ.I0 b→b<Γ.w0.heap.size)→mw Γ.β0 Γ.I0 Γ.w0 Γ.sin→qV none P Γ v0 [] (bodyPostM (Wd none) 0 P fn (iP sin sout r Γ.β0 Γ.I0 Γ.w0)) [.code (aS fn)] ⟨jX 0 args,sin⟩) :
  ag P f args sin r sout:=by
 unfold AJ at gk;simp only[Bool.and_eq_true,Bool.not_eq_true'] at gk;have hb:=tj gk.1.1.1.1;have ji:args.length≤fn.ntmps:=abM gk.1.1.2;refine⟨⟨fn,hf,gk.1.1.1.1,gk.1.1.1.2⟩,fun I w β vs hI zm hl hv hy => ?_⟩;have key:=h ⟨w,I,sin,β,fn.ntmps,abM gk.2,hy⟩ _ rfl rfl hI zm { tmps:=vs++Array.replicate (fn.ntmps-vs.size) undef,defers:=[] } w ⟨β,I,?_⟩ rfl
 ·exact(callsIn_wide (n:=0)).1 (callsIn_of_wp_marks hf hb trivial key rfl)
 ·refine⟨fun t e he => ?_,zm,fun r _ _ _=>rfl,fun r b h1 h2 h3=>h2.elim (absurd h1) (fun h2 => .inr ⟨r,h2,h1,h3⟩),hI,fun b h => .inl h,gV.refl _ _,by simp;omega,rfl⟩;obtain⟨_,he⟩:=ti _ 0 t e he;simp only[Nat.sub_zero] at he;have ht:t<vs.size:=by
   have:=(abL.1 he).1;omega
  have qz:(vs++Array.replicate (fn.ntmps-vs.size) undef).getD t undef=vs[t]:=by simp[Array.getD_eq_getD_getElem?,Array.getElem?_append,ht]
  show RE β (bz sin) I w e ((vs++Array.replicate (fn.ntmps-vs.size) undef).getD t undef);rw[qz];exact hv t e vs[t] he (acn ht)
theorem xW{aP:aY}{r:Nat}(hs:∀q∈aP,q.1<999999)(h:bz aP r):r∈aP.map (·.1):=by obtain⟨sc,gS⟩:=abP.1 h;exact aca.2 ⟨_,aY.s8 hs gS,rfl⟩
theorem ia{a:Act} : lift [] a=a:=by cases a;simp[lift]
section
variable {P:Program} {T:ja} {fn:Func} {Γ:Ctx} {ops:Array Oper} {s s':St} {a:Act} {w:World} {ro:Option Nat} {n:Nat} {v0:Value} {ds:List Deferred} {A:Prop} {Q':Exit→Act→World→Prop}
theorem yG(hT:mm P T)(hs:∀r,bz Γ.sin r→Γ.n≤r){ops:Array Oper}{Q:Exit→Act→World→Prop} : ∀(l:List Oper) (k:Nat) (hints:List Hint) (s s':St) (ob:List Prop) (a:Act) (w:World),
  (∀j,j<l.length→l[j]? = ops[k+j]?)→Rel Γ s a w→oI P T Γ.n ops l hints s=some (s',ob)→dW ob→(∀a' w',Rel Γ s' a' w'→Q .normal a' w')→wpOps P ops Q (List.range' k l.length) a w
 |[],k,hints,s,s',ob,a,w,_,hr,bc,_,hk=>by
  injection bc with bc;injection bc with h1 h2
  subst h1;exact hk a w hr
 |o::r,k,hints,s,s',ob,a,w,hl,hr,bc,cf,hk=>by
  unfold oI at bc;split at bc
  ·rename_i s1 EW h1;split at bc
   ·rename_i s2 ob2 h2;injection bc with bc;injection bc with e1 e2
    subst e1;subst e2;obtain⟨g1,g2⟩:=cf.app;have gk:ops[k]? = some o:=by have:=hl 0 (by simp);simpa using this.symm
    rw[show List.range' k (o::r).length=k::List.range' (k+1) r.length from by simp[List.range'_succ]];unfold wpOps;rw[gk];exact nm hT hs hr h1 g1 fun a' w' dx=>yG hT hs r (k+1) hints.tail s1 s2 ob2 a' w' (fun j hj=>by have:=hl (j+1) (by simp;omega);simp only[List.getElem?_cons_succ] at this;rw[this];congr 1;omega) dx h2 g2 hk
   ·cases bc
  ·cases bc
def N7(ts ns:List Nat):Option (St×List Prop)→Option (St×Prop)
 |some (s,ob)=>some (⟨pI s.env ts,s.aP⟩,GM ns ob)
 |none=>none
theorem BQ(hT:mm P T)(hs:∀r,bz Γ.sin r→Γ.n≤r){l:List Oper}{k:Nat}{hints:List Hint}{ts ns:List Nat}(hl:∀j,j<l.length→l[j]? = ops[k+j]?)(gk:ops.all BO=true)(hr:Rel Γ s a w)(h0:a.tmps.getD 0 undef=v0)
  (hA:A) (aJ:N7 ts ns (oI P T Γ.n ops l hints s)=some (s',A)) (rest:List Nat) (hk:∀a' w',Rel Γ s' a' w'→a'.tmps.getD 0 undef=v0→wpOpsIn (Wd ro) n P ops Q' rest (lift ds a') w') :
  wpOpsIn (Wd ro) n P ops Q' (List.range' k l.length++rest) (lift ds a) w:=by
 unfold N7 at aJ;split at aJ
 ·rename_i s1 ob h1;injection aJ with aJ;injection aJ with e1 e2
  subst e1;subst e2;have Ep:=yG (Q:=fun e a w=>e = .normal∧Rel Γ ⟨pI s1.env ts,s1.aP⟩ a w) hT hs l k hints s s1 ob a w hl hr h1 (mI ns ob hA) (fun a' w' dx=>⟨rfl,rn (te := .aW ts) (ob:=[]) hs dx rfl trivial⟩);exact xV gk rest hk _ a w h0 Ep
 ·cases aJ
theorem L7{i:Nat}{rest:List Nat}{o:Oper}{x:Operand}(ho:ops[i]? = some o)(pB:o.op = .move x)(hw:Region.wanted o (yielded ops a.tmps)=true)(hk:wpOpsIn (Wd ro) n P ops Q' rest (a.put o.dst (a.eval x)) w):wpOpsIn (Wd ro) n P ops Q' (i::rest) a w:=by
 unfold wpOpsIn;simp only[ho];rw[ac7 hw];refine⟨fun _ _=>trivial,?_⟩;rw[Oper.semAt_eq _ _ _ (fun c e=>by rw[pB] at e;cases e)];have:(execOp a.eval o).run P w = .ok (.value (a.eval x)) w:=by unfold execOp;rw[pB];rfl
 rw[this];exact hk
theorem XB{i:Nat}{rest:List Nat}{o:Oper}{g:Operand}{args:Array Operand}{FZ:Array TypeId}{l:Nat}{f:FuncId}{tmps:Array Value}{x y:Code}(ho:ops[i]? = some o)(pB:o.op = .call ⟨.value g,args,FZ⟩)(hw:Region.wanted o (yielded ops a.tmps)=true)(hv:a.eval g = .func (.yield l) #[] #[])
  (hy:(Instr.yield l (args.map a.eval)).run P w = .ok (.round l f tmps x y) w) (hR:RoundIn (Wd ro) 0 P l f tmps x y w (fun e w'=>∃v,e = .returned v∧wpOpsIn (Wd ro) 0 P ops Q' rest (a.put o.dst v) w')):wpOpsIn (Wd ro) 0 P ops Q' (i::rest) a w:=by
 unfold wpOpsIn;simp only[ho];rw[ac7 hw];refine⟨fun _ _=>trivial,?_⟩;rw[Oper.semAt_eq _ _ _ (fun c e=>by rw[pB] at e;cases e)];have:(execOp a.eval o).run P w = .ok (.round l f tmps x y) w:=by simp[execOp,pB,resolve,hv,Deferred.ofValue,invoke,hy]
 rw[this,Oper.uponIn_round];refine⟨fun h=>(by rw[ni] at h;cases h),hR.mono fun e w' h => ?_⟩;obtain⟨v,rfl,h⟩:=h;exact h
end
end Go.Proofs.YtneklnlpgfeplaaGreat.Sym
