/- The interval of a grid contains the algebraic number, and a fraction between two of them lies strictly between: the law AlgebraicNear returns true for every input, with the tables of numerals of the Go library that the row lists as they are laid. -/
import Derived.Test.YtllmkadmohkbfaaGreatDoorN0
import Derived.Test.YtllmkadmohkbfaaGreatDoorT0
import Derived.Test.YtllmkadmohkbfaaGreatDoorG4
namespace Go.Proofs.YtllmkadmohkbfaaGreatDoor.Sym
open Go Path dE
set_option linter.unusedVariables false
namespace vR
abbrev Li(l:List Rat):List ah:=l.map aE
abbrev cA:List (List ah):=[Li [-1],Li [1]]
abbrev cB:List (List ah):=[Li [-1],Li [0]]
abbrev cC:List (List ah):=[Li [-1, -1],Li [1]]
theorem step(i k:Nat)(p1 p2 q1 q2 a b c d o r:List Rat)(s s':List (List ah)){R:PV}
  (hk:k<2) (hi:i<2) (e1:cA[i]? = some (Li p1)) (e2:cA[k]? = some (Li p2)) (e3:cB[i]? = some (Li q1)) (e4:cB[k]? = some (Li q2))
  (hs:s.length=3) (eo:s[i+k]? = some (Li o))
  (m1:Cp 47 [bL.pv,pq p1,pq p2] (.aB [pq a,.aq]))
  (m2:Cp 47 [bL.pv,pq q1,pq q2] (.aB [pq b,.aq]))
  (m3:Cp 47 [bL.pv,pq b,pq [2]] (.aB [pq c,.aq]))
  (m4:Cp 251 [bL.pv,pq a,pq c] (.aB [pq d,.aq]))
  (m5:Cp 48 [bL.pv,pq o,pq d] (.aB [pq r,.aq]))
  (Jx:s.set (i+k) (Li r)=s')
  (hL:aV.oV cC 1 cA cB 3 i i (k+1) bL s' R):aV.oV cC 1 cA cB 3 i i k bL s R:=by
 subst Jx
 exact aV.Wq cC 1 cA cB 3 i i k bL s (Li p1) (Li p2) (Li a) (Li q1) (Li q2) (Li b) 0 (Li [2]) (Li c) (Li d) (Li o) (Li r) (by show k<2;exact hk) (by show i<2;exact hi) e1 (by show k<2;exact hk) e2 m1 (by show i<2;exact hi) e3 (by show k<2;exact hk) e4 m2 (by unfold aw;omega) rfl rfl m3 m4 (by omega) (by omega) eo m5 (by omega) (by omega) hL
theorem HQ:Cp 180 [bL.pv,bq (an ah.cells) cC,vI 1] (.aB [bq (an ah.cells) [Li [-1],Li [-2],Li [1]],.aq]):=by
 have L2:aV.cz cC 1 cA cB 3 0 bL [[],[],[]] (.aB [bq (an ah.cells) [Li [-1],Li [-2],Li [1]],.aq]):=by
  refine aV.xl cC 1 cA cB 3 0 bL _ (by decide) ?_
  refine step 0 0 [-1] [-1] [-1] [-1] [1] [1] [2] [-1] [] [-1] _ [Li [-1],[],[]] (by omega) (by omega) rfl rfl rfl rfl rfl rfl
   (mulC _ _ _ [1] (by decide) (by decide) (by decide +kernel) (by decide +kernel) (by decide +kernel) (by decide) (by decide +kernel) (by decide +kernel))
   (mulC _ _ _ [1] (by decide) (by decide) (by decide +kernel) (by decide +kernel) (by decide +kernel) (by decide) (by decide +kernel) (by decide +kernel))
   (mulC _ _ _ [2] (by decide) (by decide) (by decide +kernel) (by decide +kernel) (by decide +kernel) (by decide) (by decide +kernel) (by decide +kernel))
   (zu _ _ _ [-1] [-2] (by decide) (by decide) (by decide +kernel) (by decide +kernel) (by decide +kernel) (by decide +kernel) (by decide +kernel) (by decide) (by decide +kernel) (by decide +kernel))
   (zt _ _ _ [-1] (by decide) (by decide) (by decide +kernel) (by decide +kernel) (by decide +kernel) (by decide) (by decide +kernel) (by decide +kernel)) rfl ?_
  refine step 0 1 [-1] [1] [-1] [0] [-1] [] [] [-1] [] [-1] _ [Li [-1],Li [-1],[]] (by omega) (by omega) rfl rfl rfl rfl rfl rfl
   (mulC _ _ _ [-1] (by decide) (by decide) (by decide +kernel) (by decide +kernel) (by decide +kernel) (by decide) (by decide +kernel) (by decide +kernel))
   (mulC _ _ _ [] (by decide) (by decide) (by decide +kernel) (by decide +kernel) (by decide +kernel) (by decide) (by decide +kernel) (by decide +kernel))
   (mulC _ _ _ [] (by decide) (by decide) (by decide +kernel) (by decide +kernel) (by decide +kernel) (by decide) (by decide +kernel) (by decide +kernel))
   (zu _ _ _ [-1] [] (by decide) (by decide) (by decide +kernel) (by decide +kernel) (by decide +kernel) (by decide +kernel) (by decide +kernel) (by decide) (by decide +kernel) (by decide +kernel))
   (zt _ _ _ [-1] (by decide) (by decide) (by decide +kernel) (by decide +kernel) (by decide +kernel) (by decide) (by decide +kernel) (by decide +kernel)) rfl ?_
  refine aV.T3 cC 1 cA cB 3 0 0 2 bL _ (by decide) (by omega) ?_
  refine aV.xl cC 1 cA cB 3 1 bL _ (by decide) ?_
  refine step 1 0 [1] [-1] [0] [-1] [-1] [] [] [-1] [-1] [-2] _ [Li [-1],Li [-2],[]] (by omega) (by omega) rfl rfl rfl rfl rfl rfl
   (mulC _ _ _ [-1] (by decide) (by decide) (by decide +kernel) (by decide +kernel) (by decide +kernel) (by decide) (by decide +kernel) (by decide +kernel))
   (mulC _ _ _ [] (by decide) (by decide) (by decide +kernel) (by decide +kernel) (by decide +kernel) (by decide) (by decide +kernel) (by decide +kernel))
   (mulC _ _ _ [] (by decide) (by decide) (by decide +kernel) (by decide +kernel) (by decide +kernel) (by decide) (by decide +kernel) (by decide +kernel))
   (zu _ _ _ [-1] [] (by decide) (by decide) (by decide +kernel) (by decide +kernel) (by decide +kernel) (by decide +kernel) (by decide +kernel) (by decide) (by decide +kernel) (by decide +kernel))
   (zt _ _ _ [-2] (by decide) (by decide) (by decide +kernel) (by decide +kernel) (by decide +kernel) (by decide) (by decide +kernel) (by decide +kernel)) rfl ?_
  refine step 1 1 [1] [1] [0] [0] [1] [] [] [1] [] [1] _ [Li [-1],Li [-2],Li [1]] (by omega) (by omega) rfl rfl rfl rfl rfl rfl
   (mulC _ _ _ [1] (by decide) (by decide) (by decide +kernel) (by decide +kernel) (by decide +kernel) (by decide) (by decide +kernel) (by decide +kernel))
   (mulC _ _ _ [] (by decide) (by decide) (by decide +kernel) (by decide +kernel) (by decide +kernel) (by decide) (by decide +kernel) (by decide +kernel))
   (mulC _ _ _ [] (by decide) (by decide) (by decide +kernel) (by decide +kernel) (by decide +kernel) (by decide) (by decide +kernel) (by decide +kernel))
   (zu _ _ _ [1] [] (by decide) (by decide) (by decide +kernel) (by decide +kernel) (by decide +kernel) (by decide +kernel) (by decide +kernel) (by decide) (by decide +kernel) (by decide +kernel))
   (zt _ _ _ [1] (by decide) (by decide) (by decide +kernel) (by decide +kernel) (by decide +kernel) (by decide) (by decide +kernel) (by decide +kernel)) rfl ?_
  refine aV.T3 cC 1 cA cB 3 1 1 2 bL _ (by decide) (by omega) ?_
  exact aV.AR cC 1 cA cB 3 2 bL _ (by decide) rfl
 refine aV.e0 bL cC 1 0 (by unfold aw;omega) rfl (by omega) (by decide) ?_
 refine aV.l10 cC 1 0 [] [] 0 bL (Li [-1, -1]) 0 (by decide) rfl (by decide) (by decide) (by unfold aw;decide) (by decide) (by decide) (by decide) (by decide) (by decide) (by decide) (by omega) ?_
 refine aV.l10 cC 1 0 _ _ 1 bL (Li [1]) 1 (by decide) rfl (by decide) (by decide) (by unfold aw;decide) (by decide) (by decide) (by decide) (by decide) (by decide) (by decide) (by omega) ?_
 refine aV.dw cC 1 0 _ _ 2 bL 3 (by decide) (by decide) (by unfold aw;decide) (by decide) (by omega) ?_
 exact L2
theorem vX:Cp 38 [bL.pv,pq [1,1]] (.aB [pq [-1, -2,1],.aq]):=by
 have f1:iX [1,1]:=by unfold iX;decide +kernel
 have fm:iX [-1, -1]:=by unfold iX;decide +kernel
 have lv:Lv [1,1]:=Or.inr ⟨1,by omega,rfl⟩
 have s1:=vS (a:=Li [1,1]) (k:=1) (by omega) rfl (fun y hy=>by
  have h:y=aE 1:=by simpa using hy
  subst h
  exact⟨by decide +kernel,by decide +kernel⟩)
 rw[show xq (Li [1,1]) 1=Li [1,1] from by unfold xq;rw[if_neg (by decide +kernel)];rfl] at s1
 have s2:=vS (a:=Li [-1, -1]) (k:=1) (by omega) rfl (fun y hy=>by
  have h:y=aE (-1):=by simpa using hy
  subst h
  exact⟨by decide +kernel,by decide +kernel⟩)
 rw[show xq (Li [-1, -1]) 1=Li [-1, -1] from by unfold xq;rw[if_neg (by decide +kernel)];rfl] at s2
 have mi:=minus [1,1] (by decide) (iX.fl f1)
 rw[show ([1,1]:List Rat).map (- ·)=[-1, -1] from by decide +kernel] at mi
 have ng:=xO.e0 bL (Li [1,1]) _ _ (n8 f1 lv) mi s2
 have cp:=copied (Li [1,1]) (by decide) (fun y hy=>by
  have h:y=aE 1:=by simpa using hy
  subst h
  exact⟨by decide +kernel,by decide +kernel⟩)
 have w:=wide [1,1] 2 (by omega)
 have lf:=vz.e0 bL (Li [1,1]) _ _ (n8 f1 lv) cp (by decide) (by decide) w
 have o1:=qC.Of 1 ⟨by decide,by decide⟩
 have sh:=ku [1] (by decide) (by decide +kernel)
 rw[show zl [1]=[1] from by decide +kernel] at sh
 have to:=Ah.e0 (aE 1) (aE 1) _ (QF.mG 1 (by decide +kernel)) sh
 have tr:=qG.Trim (k:=100) [-1, -2,1] (by decide) (by decide +kernel) (by omega)
 rw[show aU [-1, -2,1]=[-1, -2,1] from by decide +kernel] at tr
 refine mo.e0 bL (Li [1,1]) _ (Li [-1, -2,1]) none lf ?_
 refine bb.e0 bL _ _ s1 ?_
 refine bb.l10 _ 0 bL (by omega) (by decide) (by decide) (by omega) ?_
 refine bb.dw _ 1 bL _ _ _ (by omega) (by decide) (by decide) ng o1 to ?_
 refine bb.xl cC 1 bL _ (by omega) HQ (by unfold aw;omega) ?_
 refine bb.Ol _ _ bL (by omega) ?_
 refine bb.Om [] _ _ 0 bL (Li [-1]) (aE (-1)) true (by decide) rfl (Cr _ (by decide +kernel) (by unfold iX;decide +kernel)) rfl (by decide) (by omega) ?_
 refine bb.Om _ _ _ 1 bL (Li [-2]) (aE (-2)) true (by decide) rfl (Cr _ (by decide +kernel) (by unfold iX;decide +kernel)) rfl (by decide) (by omega) ?_
 refine bb.Om _ _ _ 2 bL (Li [1]) (aE 1) true (by decide) rfl (Cr _ (by decide +kernel) (by unfold iX;decide +kernel)) rfl (by decide) (by omega) ?_
 exact bb.Ym _ _ _ 3 bL _ (by decide) tr
end vR
theorem zI.ov:Cp 12 [] (vB true):=zI.Cn vR.vX
namespace zI
theorem NP{a b:az}{f g:List Rat}{lo hi lo' hi':Rat}(A:Acc a f lo hi)(B:Acc b g lo' hi'){t:Nat}(ht:t≤64){n:Int}(TJ:n.natAbs<2^100)(n1:0≤aK f lo hi (grQ n t))(n2:aK f lo hi (grQ (n+1) t) = -1) :
  (aK g lo' hi' (grQ (n+1) t)=1→eP.aj t a b (.aB [(aE (grQ (n+1) t)).pv,vI 0]))∧(aK g lo' hi' (grQ (n+1) t)≠1→∀r,eP.aj (t+1) a b r→eP.aj t a b r):=by
 have hn:=x9.Pv A ht TJ n1 n2
 have g0:=lY (b:=t) (show n.natAbs<2^101 by omega) ht
 have g1:=lY (b:=t) (show (n+1).natAbs<2^101 by omega) ht
 have gp:=lY (n:=1) (b:=t) (by decide) ht
 have Yy:Sym.ht (grQ (n+1) t)≤900:=by
  unfold grQ
  rw[Rat.divInt_eq_div]
  have w:wl (n+1)≤4:=iJ (Nat.lt_of_lt_of_le (show (n+1).natAbs<2^101 by omega) (by decide))
  have x1:=kS (((n+1:Int)):Rat) ((((2^t:Nat):Int)):Rat)
  have x2:Sym.ht (((n+1:Int)):Rat)≤4:=by rw[pz];omega
  have x3:Sym.ht ((((2^t:Nat):Int)):Rat)≤3:=jH (j:=t) (by omega)
  omega
 have w:=oN hi' lo'
 have b1:=B.h1
 have b2:=B.h2
 have hc:=x9.A8 (K:=1000000) B.sm B.lj (Dy.start _ _) (x9.Of (v:=grQ (n+1) t) (by omega)) (show 1≤900 by omega) Yy (by omega) (by omega) (by omega) B.bd.1 B.bd.2
 rw[←B.e] at hc
 by_cases h0:aK f lo hi (grQ n t)=0
 ·have e:x9.wc f lo hi n t=cY (grQ n t) (grQ n t):=by unfold x9.wc;rw[if_pos h0]
  rw[e] at hn
  have c0:=QR.jN (grQ n t) (grQ n t) (by omega) (by omega)
  have ad:=QR.Add (grQ n t) (grQ 1 t) (by omega) (by omega)
  rw[H4] at ad
  have pw:=x9.LI ht
  exact⟨fun h=>eP.l10 t a b (cY (grQ n t) (grQ n t)) _ _ _ _ (by omega) hn c0 (ix _) pw ad hc (by omega),
   fun h r hL=>eP.dw t a b (cY (grQ n t) (grQ n t)) _ _ _ _ (by omega) hn c0 (ix _) pw ad hc (by rcases B.lj.three (grQ (n+1) t) with q|q|q<;>omega) (by omega) hL⟩
 ·have e:x9.wc f lo hi n t=cY (grQ n t) (grQ (n+1) t):=by unfold x9.wc;rw[if_neg h0]
  rw[e] at hn
  have c0:=QR.jN (grQ n t) (grQ (n+1) t) (by omega) (by omega)
  have dk:grQ n t≠grQ (n+1) t:=fun q=>by rw[q] at n1;omega
  exact⟨fun h=>eP.ji t a b (cY (grQ n t) (grQ (n+1) t)) _ _ (by omega) hn c0 (cR dk) hc (by omega),
   fun h r hL=>eP.oK t a b (cY (grQ n t) (grQ (n+1) t)) _ _ (by omega) hn c0 (cR dk) hc (by rcases B.lj.three (grQ (n+1) t) with q|q|q<;>omega) (by omega) hL⟩
theorem Js{a b:az}{f g:List Rat}{lo hi lo' hi':Rat}(A:Acc a f lo hi)(B:Acc b g lo' hi'):∀d t:Nat,t+d=65→∃(x:ah) (e:Int),((e=4∧x=⟨false,[],[]⟩)∨(e=0∧∃q,x=aE q∧Sym.ht q≤1000∧aK f lo hi q = -1∧aK g lo' hi' q=1)) ∧
  bR.aj t a b (.aB [x.pv,bC (l6 e)])∧eP.aj t a b (.aB [x.pv,vI e])
 |0,t,h=>⟨⟨false,[],[]⟩,4,Or.inl ⟨rfl,rfl⟩,bR.T2 t a b (by omega),eP.AS t a b (by omega)⟩
 |d+1,t,h=>by
  obtain⟨n,m1,m2,m3,m4⟩:=hX.floor A.sm A.lj A.h1 A.h2 (b:=t) (by omega)
  obtain⟨p1,p2⟩:=hX.mg A B (t:=t) (by omega) m3 m4
  obtain⟨q1,q2⟩:=NP A B (t:=t) (by omega) m2 m3 m4
  by_cases hc:aK g lo' hi' (grQ (n+1) t)=1
  ·exact⟨_,0,Or.inr ⟨rfl,_,rfl,lY (by omega) (by omega),m4,hc⟩,p1 hc,q1 hc⟩
  ·obtain⟨x,e,h1,h2,h3⟩:=Js A B d (t+1) (by omega)
   exact⟨x,e,h1,p2 hc _ h2,q2 hc _ h3⟩
end zI
end Go.Proofs.YtllmkadmohkbfaaGreatDoor.Sym
namespace Go.Proofs.YtllmkadmohkbfaaGreatDoor.Sym.Path
open Go
set_option maxRecDepth 20000
set_option linter.unusedVariables false
namespace ej
theorem e0(a b:az)(c:Nat)(d g:Bool)(h1:Cp 29 [(bq az.cells [a,b])] (vB d))(h2:d=false)(h3:Cp 12 [] (vB g)):Cp 5 [a.pv,b.pv,(.int .u8 (c:Int))] (vB g) :=
 eD Tryz.func5 84 [3,1,1,1,1,1] [.q,.ba [.o,.o,(.ja 0 0 (([a,b]:List az).map az.cells)),(.pv (vB d)),.o,.o,.skip,.skip,(.dec true)],.a,.h 0 (.pv (vB g))] (y6 (fP fY ([a,b]:List az)) h1 (bB h2) (bB h2) (bB h2) h3)
theorem e6(a b:az)(c:Nat)(d g:Bool)(i:af)(j l:Int)(m n:ah)(p s t:Int)(u:ah)(v w:Int)(h1:Cp 29 [(bq az.cells [a,b])] (vB d))(h2:d=true)(h3:Cp 12 [] (vB g))(h4:g=true)(h5:(c%10)<9223372036854775808)(h6:Cp 13 [a.pv,(vI (((c%10):Nat):Int))] (.aB [i.pv,.aq]))(h7:Cp 30 [a.pv,i.lo.pv] (.aB [vI j,.aq]))(h8:Cp 30 [a.pv,i.hi.pv] (.aB [vI l,.aq]))(h9:(c%10)≤64)(dM:(1*2^(c%10))<9223372036854775808)(gy:Cp 31 [vI 1,(vI (((1*2^(c%10)):Nat):Int))] (.aB [m.pv,.aq]))(j8:Cp 32 [i.hi.pv,i.lo.pv] n.pv)(nK:0≤j)(l9:l≤0)(om:Cp 33 [n.pv] (vI p))(sR:p=0)(o5:j=0)(pT:Cp 33 [n.pv] (vI s))(oL:s=0)(xm:Cp 35 [a.pv,b.pv] (.aB [vI t,.aq]))(BY:Cp 14 [a.pv,b.pv] (.aB [u.pv,.aq]))(Ia:Cp 30 [a.pv,u.pv] (.aB [vI v,.aq]))(R5:Cp 30 [b.pv,u.pv] (.aB [vI w,.aq]))(NQ:t<0)(Mh:v<0):Cp 5 [a.pv,b.pv,(.int .u8 (c:Int))] (vB (decide (w>0))) :=
 eD Tryz.func5 192 [3,1,1,1,1,1,1,1,1,1,1,1,1,1,1,1,1,1,1,1,1,1,1,1,1,1,1,1,1,1,1,1,1,1,1,1,1,1,1,1,1,1,1,1,1,1,1,1,1,1,1,1,1,1,1,1,1,1,1,1,1,1,1,1,1,1] [.q,.ba [.o,.o,(.ja 0 0 (([a,b]:List az).map az.cells)),(.pv (vB d)),.o,.o,(.pv (vB g)),.o,(.dec false)],.f,.ba [.o,(.pv (.int .u8 (((c%10):Nat):Int))),(iI (((c%10):Nat):Int))],.h 2 (.pv (.aB [i.pv,.aq])),.h 3 (.pv (.aB [vI j,.aq])),.h 3 (.pv (.aB [vI l,.aq])),.ba [.o,(iI (((1*2^(c%10)):Nat):Int)),(.pv (.aB [m.pv,.aq]))],.h 4 (.pv n.pv),.ba [.o,.o,.o,.o,.o,.o,.o,.o,.o,.o,.o,.o,.o,.o,.o,.o,.o,.o,.o,.o,.o,(.dec false),.o,.o,(.pv (vI p)),.o,.o,.o,.o,(.dec true),(.dec false),.o,.o,(.pv (vI s)),.o,.o,.skip,.skip,.skip,.skip,.skip,.skip,.skip,.skip,.skip,.skip,.skip,.skip,(.dec false),(.dec false)],.a,.h 2 (.pv (.aB [vI t,.aq])),.h 2 (.pv (.aB [u.pv,.aq])),.q,.a,.q,.a,.h 2 (.pv (.aB [vI v,.aq])),.h 2 (.pv (.aB [vI w,.aq])),.ba [.o,.o,.o,.o,.o,(.dec true),.o,.o,.o,.o,.o,.o,.o,.o,.o,.o,.o,(.dec true)]] (cj (fP fY ([a,b]:List az)) (cj h1 (cj (ay h2) (cj h3 (cj (ay h2) (cj (ay h2) (cj (ay h4) (cj (uS (x:=c) (y:=10) (by decide)) (cj (tF h5) (cj h6 (cj h7 (cj h8 (cj (gU (k := .i64) h9 dM) (cj gy (cj j8 (cj (Eq.refl false) (cj (Eq.refl false) (cj (Eq.refl false) (cj (Eq.refl false) (cj (Eq.refl false) (cj (Eq.refl false) (cj (Eq.refl false) (cj (Eq.refl false) (cj (bQ nK) (cj (bQ nK) (cj (bQ nK) (Pr (bQ l9) (bQ l9) om (bQ l9) (bQ l9) (aF sR) (aF sR) (bQ l9) (aF sR) (bQ l9) (bZ o5) (bZ o5) pT (bZ o5) (bZ o5) (bZ oL) (bZ oL) (bZ oL) (bZ oL) (bZ oL) (bZ oL) (bZ oL) (bZ oL) (bZ o5) (bZ oL) (bZ o5) xm BY Ia R5 (dJ NQ) (dJ NQ) (dJ NQ) (Eq.refl true) (Eq.refl true) (Eq.refl true) (Eq.refl true) (dJ Mh) (dJ Mh) (dJ Mh))))))))))))))))))))))))))))
theorem e7(a b:az)(c:Nat)(d g:Bool)(i:af)(j l:Int)(m n:ah)(p s u:Int)(v:ah)(w:Int)(z:Bool)(h1:Cp 29 [(bq az.cells [a,b])] (vB d))(h2:d=true)(h3:Cp 12 [] (vB g))(h4:g=true)(h5:(c%10)<9223372036854775808)(h6:Cp 13 [a.pv,(vI (((c%10):Nat):Int))] (.aB [i.pv,.aq]))(h7:Cp 30 [a.pv,i.lo.pv] (.aB [vI j,.aq]))(h8:Cp 30 [a.pv,i.hi.pv] (.aB [vI l,.aq]))(h9:(c%10)≤64)(dM:(1*2^(c%10))<9223372036854775808)(gy:Cp 31 [vI 1,(vI (((1*2^(c%10)):Nat):Int))] (.aB [m.pv,.aq]))(j8:Cp 32 [i.hi.pv,i.lo.pv] n.pv)(nK:0≤j)(l9:l≤0)(om:Cp 33 [n.pv] (vI p))(sR:p=0)(o5:j=0)(pT:Cp 33 [n.pv] (vI s))(oL:s=0)(xm:Cp 35 [a.pv,b.pv] (.aB [vI u,.aq]))(BY:Cp 14 [a.pv,b.pv] (.aB [v.pv,(.iface 67 (vI w))]))(Ia:0≤u)(R5:Cp 36 [(.iface 67 (vI w)),vI 3] (vB z))(NQ:z=true):Cp 5 [a.pv,b.pv,(.int .u8 (c:Int))] (vB true) :=
 eD Tryz.func5 177 [3,1,1,1,1,1,1,1,1,1,1,1,1,1,1,1,1,1,1,1,1,1,1,1,1,1,1,1,1,1,1,1,1,1,1,1,1,1,1,1,1,1,1,1,1,1,1,1,1,1,1,1,1,1,1,1,1,1,1,1,1,1,1] [.q,.ba [.o,.o,(.ja 0 0 (([a,b]:List az).map az.cells)),(.pv (vB d)),.o,.o,(.pv (vB g)),.o,(.dec false)],.f,.ba [.o,(.pv (.int .u8 (((c%10):Nat):Int))),(iI (((c%10):Nat):Int))],.h 2 (.pv (.aB [i.pv,.aq])),.h 3 (.pv (.aB [vI j,.aq])),.h 3 (.pv (.aB [vI l,.aq])),.ba [.o,(iI (((1*2^(c%10)):Nat):Int)),(.pv (.aB [m.pv,.aq]))],.h 4 (.pv n.pv),.ba [.o,.o,.o,.o,.o,.o,.o,.o,.o,.o,.o,.o,.o,.o,.o,.o,.o,.o,.o,.o,.o,(.dec false),.o,.o,(.pv (vI p)),.o,.o,.o,.o,(.dec true),(.dec false),.o,.o,(.pv (vI s)),.o,.o,.skip,.skip,.skip,.skip,.skip,.skip,.skip,.skip,.skip,.skip,.skip,.skip,(.dec false),(.dec false)],.a,.h 2 (.pv (.aB [vI u,.aq])),.h 2 (.pv (.aB [v.pv,(.iface 67 (vI w))])),.q,.a,.q,.a,.ba [.o,.o,.o,.o,(.pv (vB z)),(.dec true),.o,.skip,.skip,.skip,.skip,.skip,.skip,(.dec true)]] (cj (fP fY ([a,b]:List az)) (cj h1 (cj (ay h2) (cj h3 (cj (ay h2) (cj (ay h2) (cj (ay h4) (cj (uS (x:=c) (y:=10) (by decide)) (cj (tF h5) (cj h6 (cj h7 (cj h8 (cj (gU (k := .i64) h9 dM) (cj gy (cj j8 (cj (Eq.refl false) (cj (Eq.refl false) (cj (Eq.refl false) (cj (Eq.refl false) (cj (Eq.refl false) (cj (Eq.refl false) (cj (Eq.refl false) (cj (Eq.refl false) (Pr (bQ nK) (bQ nK) (bQ nK) (bQ l9) (bQ l9) om (bQ l9) (bQ l9) (aF sR) (aF sR) (bQ l9) (aF sR) (bQ l9) (bZ o5) (bZ o5) pT (bZ o5) (bZ o5) (bZ oL) (bZ oL) (bZ oL) (bZ oL) (bZ oL) (bZ oL) (bZ oL) (bZ oL) (bZ o5) (bZ oL) (bZ o5) xm BY (jv Ia) (jv Ia) R5 (jv Ia) NQ NQ NQ NQ NQ))))))))))))))))))))))))
theorem e9(a b:az)(c:Nat)(d g:Bool)(i:af)(j l:Int)(m n:ah)(p s u:Int)(v:ah)(w:Int)(z:Bool)(h1:Cp 29 [(bq az.cells [a,b])] (vB d))(h2:d=true)(h3:Cp 12 [] (vB g))(h4:g=true)(h5:(c%10)<9223372036854775808)(h6:Cp 13 [a.pv,(vI (((c%10):Nat):Int))] (.aB [i.pv,.aq]))(h7:Cp 30 [a.pv,i.lo.pv] (.aB [vI j,.aq]))(h8:Cp 30 [a.pv,i.hi.pv] (.aB [vI l,.aq]))(h9:(c%10)≤64)(dM:(1*2^(c%10))<9223372036854775808)(gy:Cp 31 [vI 1,(vI (((1*2^(c%10)):Nat):Int))] (.aB [m.pv,.aq]))(j8:Cp 32 [i.hi.pv,i.lo.pv] n.pv)(nK:0≤j)(l9:l≤0)(om:Cp 33 [n.pv] (vI p))(sR:p=0)(o5:j=0)(pT:Cp 33 [n.pv] (vI s))(oL:s=0)(xm:Cp 35 [a.pv,b.pv] (.aB [vI u,.aq]))(BY:Cp 14 [a.pv,b.pv] (.aB [v.pv,(.iface 67 (vI w))]))(Ia:u<0)(R5:Cp 36 [(.iface 67 (vI w)),vI 4] (vB z)):Cp 5 [a.pv,b.pv,(.int .u8 (c:Int))] (vB z) :=
 eD Tryz.func5 177 [3,1,1,1,1,1,1,1,1,1,1,1,1,1,1,1,1,1,1,1,1,1,1,1,1,1,1,1,1,1,1,1,1,1,1,1,1,1,1,1,1,1,1,1,1,1,1,1,1,1,1,1,1,1,1,1,1,1,1,1,1,1,1,1,1] [.q,.ba [.o,.o,(.ja 0 0 (([a,b]:List az).map az.cells)),(.pv (vB d)),.o,.o,(.pv (vB g)),.o,(.dec false)],.f,.ba [.o,(.pv (.int .u8 (((c%10):Nat):Int))),(iI (((c%10):Nat):Int))],.h 2 (.pv (.aB [i.pv,.aq])),.h 3 (.pv (.aB [vI j,.aq])),.h 3 (.pv (.aB [vI l,.aq])),.ba [.o,(iI (((1*2^(c%10)):Nat):Int)),(.pv (.aB [m.pv,.aq]))],.h 4 (.pv n.pv),.ba [.o,.o,.o,.o,.o,.o,.o,.o,.o,.o,.o,.o,.o,.o,.o,.o,.o,.o,.o,.o,.o,(.dec false),.o,.o,(.pv (vI p)),.o,.o,.o,.o,(.dec true),(.dec false),.o,.o,(.pv (vI s)),.o,.o,.skip,.skip,.skip,.skip,.skip,.skip,.skip,.skip,.skip,.skip,.skip,.skip,(.dec false),(.dec false)],.a,.h 2 (.pv (.aB [vI u,.aq])),.h 2 (.pv (.aB [v.pv,(.iface 67 (vI w))])),.q,.a,.q,.a,.ba [.o,.o,.o,.skip,.skip,(.dec false),.o,.o,.o,.o,.o,(.pv (vB z)),(.dec true)]] (cj (fP fY ([a,b]:List az)) (cj h1 (cj (ay h2) (cj h3 (cj (ay h2) (cj (ay h2) (cj (ay h4) (cj (uS (x:=c) (y:=10) (by decide)) (cj (tF h5) (cj h6 (cj h7 (cj h8 (cj (gU (k := .i64) h9 dM) (cj gy (cj j8 (cj (Eq.refl false) (cj (Eq.refl false) (cj (Eq.refl false) (cj (Eq.refl false) (cj (Eq.refl false) (cj (Eq.refl false) (cj (Eq.refl false) (cj (Eq.refl false) (cj (bQ nK) (cj (bQ nK) (Pr (bQ nK) (bQ l9) (bQ l9) om (bQ l9) (bQ l9) (aF sR) (aF sR) (bQ l9) (aF sR) (bQ l9) (bZ o5) (bZ o5) pT (bZ o5) (bZ o5) (bZ oL) (bZ oL) (bZ oL) (bZ oL) (bZ oL) (bZ oL) (bZ oL) (bZ oL) (bZ o5) (bZ oL) (bZ o5) xm BY (kL Ia) (kL Ia) (kL Ia) (Eq.refl false) (Eq.refl false) (Eq.refl false) (dJ Ia) (dJ Ia) R5 (Eq.refl false) (dJ Ia)))))))))))))))))))))))))))
theorem e10(a b:az)(c:Nat)(d g:Bool)(i:af)(j l:Int)(m n:ah)(p s t u:Int)(v:ah)(w z:Int)(h1:Cp 29 [(bq az.cells [a,b])] (vB d))(h2:d=true)(h3:Cp 12 [] (vB g))(h4:g=true)(h5:(c%10)<9223372036854775808)(h6:Cp 13 [a.pv,(vI (((c%10):Nat):Int))] (.aB [i.pv,.aq]))(h7:Cp 30 [a.pv,i.lo.pv] (.aB [vI j,.aq]))(h8:Cp 30 [a.pv,i.hi.pv] (.aB [vI l,.aq]))(h9:(c%10)≤64)(dM:(1*2^(c%10))<9223372036854775808)(gy:Cp 31 [vI 1,(vI (((1*2^(c%10)):Nat):Int))] (.aB [m.pv,.aq]))(j8:Cp 32 [i.hi.pv,i.lo.pv] n.pv)(nK:0≤j)(l9:l≤0)(om:Cp 33 [n.pv] (vI p))(sR:p≠0)(o5:Cp 33 [n.pv] (vI s))(pT:s≠0)(oL:Cp 34 [n.pv,m.pv] (vI t))(xm:t=0)(BY:j≠0)(Ia:l≠0)(R5:Cp 35 [a.pv,b.pv] (.aB [vI u,.aq]))(NQ:Cp 14 [a.pv,b.pv] (.aB [v.pv,.aq]))(Mh:Cp 30 [a.pv,v.pv] (.aB [vI w,.aq]))(X3:Cp 30 [b.pv,v.pv] (.aB [vI z,.aq]))(TL:u<0)(h28:w<0):Cp 5 [a.pv,b.pv,(.int .u8 (c:Int))] (vB (decide (z>0))) :=
 eD Tryz.func5 192 [3,1,1,1,1,1,1,1,1,1,1,1,1,1,1,1,1,1,1,1,1,1,1,1,1,1,1,1,1,1,1,1,1,1,1,1,1,1,1,1,1,1,1,1,1,1,1,1,1,1,1,1,1,1,1,1,1,1,1,1,1,1,1,1,1,1,1,1,1,1,1,1,1] [.q,.ba [.o,.o,(.ja 0 0 (([a,b]:List az).map az.cells)),(.pv (vB d)),.o,.o,(.pv (vB g)),.o,(.dec false)],.f,.ba [.o,(.pv (.int .u8 (((c%10):Nat):Int))),(iI (((c%10):Nat):Int))],.h 2 (.pv (.aB [i.pv,.aq])),.h 3 (.pv (.aB [vI j,.aq])),.h 3 (.pv (.aB [vI l,.aq])),.ba [.o,(iI (((1*2^(c%10)):Nat):Int)),(.pv (.aB [m.pv,.aq]))],.h 4 (.pv n.pv),.ba [.o,.o,.o,.o,.o,.o,.o,.o,.o,.o,.o,.o,.o,.o,.o,.o,.o,.o,.o,.o,.o,(.dec false),.o,.o,(.pv (vI p)),.o,.o,.skip,.skip,(.dec false),(.dec false),.o,.o,(.pv (vI s)),.o,.o,.o,.o,(.pv (vI t)),.o,.o,.o,.o,(.dec false),.o,.o,.o,(.dec false),(.dec true)],.f,.h 2 (.pv (.aB [vI u,.aq])),.h 2 (.pv (.aB [v.pv,.aq])),.q,.a,.q,.a,.h 2 (.pv (.aB [vI w,.aq])),.h 2 (.pv (.aB [vI z,.aq])),.ba [.o,.o,.o,.o,.o,(.dec true),.o,.o,.o,.o,.o,.o,.o,.o,.o,.o,.o,(.dec true)]] (cj (fP fY ([a,b]:List az)) (cj h1 (cj (ay h2) (cj h3 (cj (ay h2) (cj (ay h2) (cj (ay h4) (cj (uS (x:=c) (y:=10) (by decide)) (cj (tF h5) (cj h6 (cj h7 (cj h8 (cj (gU (k := .i64) h9 dM) (cj gy (cj j8 (cj (Eq.refl false) (cj (Eq.refl false) (cj (Eq.refl false) (cj (Eq.refl false) (cj (Eq.refl false) (cj (Eq.refl false) (cj (Eq.refl false) (cj (Eq.refl false) (cj (bQ nK) (cj (bQ nK) (cj (bQ nK) (cj (bQ l9) (cj (bQ l9) (cj om (cj (bQ l9) (cj (bQ l9) (cj (aN sR) (cj (aN sR) (Pr (bQ l9) (aN sR) (bQ l9) (Eq.refl false) (Eq.refl false) o5 (Eq.refl false) (Eq.refl false) (dq pT) (dq pT) (dq pT) oL (dq pT) (dq pT) (bZ xm) (bZ xm) (dq pT) (bZ xm) (dq pT) (aN BY) (aN BY) (dq pT) (aN BY) (Eq.refl false) (dq pT) (aN Ia) R5 NQ Mh X3 (dJ TL) (dJ TL) (dJ TL) (Eq.refl true) (Eq.refl true) (Eq.refl true) (Eq.refl true) (dJ h28) (dJ h28) (dJ h28)))))))))))))))))))))))))))))))))))
theorem e11(a b:az)(c:Nat)(d g:Bool)(i:af)(j l:Int)(m n:ah)(p s u v:Int)(w:ah)(z:Int)(aa:Bool)(h1:Cp 29 [(bq az.cells [a,b])] (vB d))(h2:d=true)(h3:Cp 12 [] (vB g))(h4:g=true)(h5:(c%10)<9223372036854775808)(h6:Cp 13 [a.pv,(vI (((c%10):Nat):Int))] (.aB [i.pv,.aq]))(h7:Cp 30 [a.pv,i.lo.pv] (.aB [vI j,.aq]))(h8:Cp 30 [a.pv,i.hi.pv] (.aB [vI l,.aq]))(h9:(c%10)≤64)(dM:(1*2^(c%10))<9223372036854775808)(gy:Cp 31 [vI 1,(vI (((1*2^(c%10)):Nat):Int))] (.aB [m.pv,.aq]))(j8:Cp 32 [i.hi.pv,i.lo.pv] n.pv)(nK:0≤j)(l9:l≤0)(om:Cp 33 [n.pv] (vI p))(sR:p≠0)(o5:Cp 33 [n.pv] (vI s))(pT:s≠0)(oL:Cp 34 [n.pv,m.pv] (vI u))(xm:u=0)(BY:j≠0)(Ia:l≠0)(R5:Cp 35 [a.pv,b.pv] (.aB [vI v,.aq]))(NQ:Cp 14 [a.pv,b.pv] (.aB [w.pv,(.iface 67 (vI z))]))(Mh:0≤v)(X3:Cp 36 [(.iface 67 (vI z)),vI 3] (vB aa))(TL:aa=true):Cp 5 [a.pv,b.pv,(.int .u8 (c:Int))] (vB true) :=
 eD Tryz.func5 177 [3,1,1,1,1,1,1,1,1,1,1,1,1,1,1,1,1,1,1,1,1,1,1,1,1,1,1,1,1,1,1,1,1,1,1,1,1,1,1,1,1,1,1,1,1,1,1,1,1,1,1,1,1,1,1,1,1,1,1,1,1,1,1,1,1,1,1,1,1,1] [.q,.ba [.o,.o,(.ja 0 0 (([a,b]:List az).map az.cells)),(.pv (vB d)),.o,.o,(.pv (vB g)),.o,(.dec false)],.f,.ba [.o,(.pv (.int .u8 (((c%10):Nat):Int))),(iI (((c%10):Nat):Int))],.h 2 (.pv (.aB [i.pv,.aq])),.h 3 (.pv (.aB [vI j,.aq])),.h 3 (.pv (.aB [vI l,.aq])),.ba [.o,(iI (((1*2^(c%10)):Nat):Int)),(.pv (.aB [m.pv,.aq]))],.h 4 (.pv n.pv),.ba [.o,.o,.o,.o,.o,.o,.o,.o,.o,.o,.o,.o,.o,.o,.o,.o,.o,.o,.o,.o,.o,(.dec false),.o,.o,(.pv (vI p)),.o,.o,.skip,.skip,(.dec false),(.dec false),.o,.o,(.pv (vI s)),.o,.o,.o,.o,(.pv (vI u)),.o,.o,.o,.o,(.dec false),.o,.o,.o,(.dec false),(.dec true)],.f,.h 2 (.pv (.aB [vI v,.aq])),.h 2 (.pv (.aB [w.pv,(.iface 67 (vI z))])),.q,.a,.q,.a,.ba [.o,.o,.o,.o,(.pv (vB aa)),(.dec true),.o,.skip,.skip,.skip,.skip,.skip,.skip,(.dec true)]] (cj (fP fY ([a,b]:List az)) (cj h1 (cj (ay h2) (cj h3 (cj (ay h2) (cj (ay h2) (cj (ay h4) (cj (uS (x:=c) (y:=10) (by decide)) (cj (tF h5) (cj h6 (cj h7 (cj h8 (cj (gU (k := .i64) h9 dM) (cj gy (cj j8 (cj (Eq.refl false) (cj (Eq.refl false) (cj (Eq.refl false) (cj (Eq.refl false) (cj (Eq.refl false) (cj (Eq.refl false) (cj (Eq.refl false) (cj (Eq.refl false) (cj (bQ nK) (cj (bQ nK) (cj (bQ nK) (cj (bQ l9) (cj (bQ l9) (cj om (cj (bQ l9) (Pr (bQ l9) (aN sR) (aN sR) (bQ l9) (aN sR) (bQ l9) (Eq.refl false) (Eq.refl false) o5 (Eq.refl false) (Eq.refl false) (dq pT) (dq pT) (dq pT) oL (dq pT) (dq pT) (bZ xm) (bZ xm) (dq pT) (bZ xm) (dq pT) (aN BY) (aN BY) (dq pT) (aN BY) (Eq.refl false) (dq pT) (aN Ia) R5 NQ (jv Mh) (jv Mh) X3 (jv Mh) TL TL TL TL TL)))))))))))))))))))))))))))))))
theorem e13(a b:az)(c:Nat)(d g:Bool)(i:af)(j l:Int)(m n:ah)(p s u v:Int)(w:ah)(z:Int)(aa:Bool)(h1:Cp 29 [(bq az.cells [a,b])] (vB d))(h2:d=true)(h3:Cp 12 [] (vB g))(h4:g=true)(h5:(c%10)<9223372036854775808)(h6:Cp 13 [a.pv,(vI (((c%10):Nat):Int))] (.aB [i.pv,.aq]))(h7:Cp 30 [a.pv,i.lo.pv] (.aB [vI j,.aq]))(h8:Cp 30 [a.pv,i.hi.pv] (.aB [vI l,.aq]))(h9:(c%10)≤64)(dM:(1*2^(c%10))<9223372036854775808)(gy:Cp 31 [vI 1,(vI (((1*2^(c%10)):Nat):Int))] (.aB [m.pv,.aq]))(j8:Cp 32 [i.hi.pv,i.lo.pv] n.pv)(nK:0≤j)(l9:l≤0)(om:Cp 33 [n.pv] (vI p))(sR:p≠0)(o5:Cp 33 [n.pv] (vI s))(pT:s≠0)(oL:Cp 34 [n.pv,m.pv] (vI u))(xm:u=0)(BY:j≠0)(Ia:l≠0)(R5:Cp 35 [a.pv,b.pv] (.aB [vI v,.aq]))(NQ:Cp 14 [a.pv,b.pv] (.aB [w.pv,(.iface 67 (vI z))]))(Mh:v<0)(X3:Cp 36 [(.iface 67 (vI z)),vI 4] (vB aa)):Cp 5 [a.pv,b.pv,(.int .u8 (c:Int))] (vB aa) :=
 eD Tryz.func5 177 [3,1,1,1,1,1,1,1,1,1,1,1,1,1,1,1,1,1,1,1,1,1,1,1,1,1,1,1,1,1,1,1,1,1,1,1,1,1,1,1,1,1,1,1,1,1,1,1,1,1,1,1,1,1,1,1,1,1,1,1,1,1,1,1,1,1,1,1,1,1,1,1] [.q,.ba [.o,.o,(.ja 0 0 (([a,b]:List az).map az.cells)),(.pv (vB d)),.o,.o,(.pv (vB g)),.o,(.dec false)],.f,.ba [.o,(.pv (.int .u8 (((c%10):Nat):Int))),(iI (((c%10):Nat):Int))],.h 2 (.pv (.aB [i.pv,.aq])),.h 3 (.pv (.aB [vI j,.aq])),.h 3 (.pv (.aB [vI l,.aq])),.ba [.o,(iI (((1*2^(c%10)):Nat):Int)),(.pv (.aB [m.pv,.aq]))],.h 4 (.pv n.pv),.ba [.o,.o,.o,.o,.o,.o,.o,.o,.o,.o,.o,.o,.o,.o,.o,.o,.o,.o,.o,.o,.o,(.dec false),.o,.o,(.pv (vI p)),.o,.o,.skip,.skip,(.dec false),(.dec false),.o,.o,(.pv (vI s)),.o,.o,.o,.o,(.pv (vI u)),.o,.o,.o,.o,(.dec false),.o,.o,.o,(.dec false),(.dec true)],.f,.h 2 (.pv (.aB [vI v,.aq])),.h 2 (.pv (.aB [w.pv,(.iface 67 (vI z))])),.q,.a,.q,.a,.ba [.o,.o,.o,.skip,.skip,(.dec false),.o,.o,.o,.o,.o,(.pv (vB aa)),(.dec true)]] (cj (fP fY ([a,b]:List az)) (cj h1 (cj (ay h2) (cj h3 (cj (ay h2) (cj (ay h2) (cj (ay h4) (cj (uS (x:=c) (y:=10) (by decide)) (cj (tF h5) (cj h6 (cj h7 (cj h8 (cj (gU (k := .i64) h9 dM) (cj gy (cj j8 (cj (Eq.refl false) (cj (Eq.refl false) (cj (Eq.refl false) (cj (Eq.refl false) (cj (Eq.refl false) (cj (Eq.refl false) (cj (Eq.refl false) (cj (Eq.refl false) (cj (bQ nK) (cj (bQ nK) (cj (bQ nK) (cj (bQ l9) (cj (bQ l9) (cj om (cj (bQ l9) (cj (bQ l9) (cj (aN sR) (Pr (aN sR) (bQ l9) (aN sR) (bQ l9) (Eq.refl false) (Eq.refl false) o5 (Eq.refl false) (Eq.refl false) (dq pT) (dq pT) (dq pT) oL (dq pT) (dq pT) (bZ xm) (bZ xm) (dq pT) (bZ xm) (dq pT) (aN BY) (aN BY) (dq pT) (aN BY) (Eq.refl false) (dq pT) (aN Ia) R5 NQ (kL Mh) (kL Mh) (kL Mh) (Eq.refl false) (Eq.refl false) (Eq.refl false) (dJ Mh) (dJ Mh) X3 (Eq.refl false) (dJ Mh))))))))))))))))))))))))))))))))))
end ej
end Go.Proofs.YtllmkadmohkbfaaGreatDoor.Sym.Path
namespace Go.Proofs.YtllmkadmohkbfaaGreatDoor.Sym
open Go Path dE
set_option linter.unusedVariables false
namespace zI
theorem V7(b:Nat):0<grQ 1 b:=by
 refine Rat.not_le.1 fun hh => ?_
 have:=Rat.mul_le_mul_of_nonneg_right hh (Rat.le_of_lt (bw b))
 rw[gL,Rat.zero_mul] at this
 exact absurd this (by decide)
theorem PL{a b:az}(ha:Sh a)(hb:Sh b)(h1:fw a=0)(h2:fw b=0):∃(s:Int) (x:ah) (e:Int),Cp 35 [a.pv,b.pv] (.aB [vI s,.aq])∧Cp 14 [a.pv,b.pv] (.aB [x.pv,bC (l6 e)]) ∧
  ((0≤s∧e=3)∨(s<0∧e=4)∨(s<0∧e=0∧Cp 30 [a.pv,x.pv] (.aB [vI (-1),.aq])∧Cp 30 [b.pv,x.pv] (.aB [vI 1,.aq]))):=by
 obtain⟨s,s1,s2⟩:=hX.jN ha hb h1 h2
 by_cases hs:0≤s
 ·exact⟨s,⟨false,[],[]⟩,3,s1,bR.e0 a b s s1 hs,Or.inl ⟨hs,rfl⟩⟩
 ·obtain⟨x,e,k1,k2,k3⟩:=Js (ha.acc h1) (hb.acc h2) 65 0 (by omega)
  refine⟨s,x,e,s1,bR.e1 a b s s1 (by omega) k2,?_⟩
  rcases k1 with ⟨rfl, -⟩|⟨rfl,q,rfl,hq,q1,q2⟩
  ·exact Or.inr (Or.inl ⟨by omega,rfl⟩)
  ·have r1:=hX.H3 ha h1 (x:=q) (by omega)
   have r2:=hX.H3 hb h2 (x:=q) (by omega)
   rw[q1] at r1
   rw[q2] at r2
   exact Or.inr (Or.inr ⟨by omega,rfl,r1,r2⟩)
theorem IF(a b:az)(bi:Int)(hbi:0≤bi∧bi≤255):Cp 5 [a.pv,b.pv,.int .u8 bi] (vB true):=by
 obtain⟨bits,rfl⟩:∃n:Nat,bi=(n:Int):=⟨bi.toNat,by omega⟩
 obtain⟨b1,v1,g1⟩:=valid [a,b] (by simp)
 cases b1 with
 |false=>exact ej.e0 a b bits _ _ v1 rfl ov
 |true =>
  obtain⟨sa,ka⟩:=g1 rfl a (by simp)
  obtain⟨sb,kb⟩:=g1 rfl b (by simp)
  obtain⟨k,hk⟩:∃k,k=bits%10:=⟨_,rfl⟩
  have Ns:k<10:=by omega
  have PZ:k≤64:=by omega
  have p2:1*2^k<9223372036854775808:=by
   have:2^k≤2^10:=Nat.pow_le_pow_right (by omega) (by omega)
   omega
  obtain⟨n,n1,n2,n3,n4⟩:=hX.LV sa ka (b:=k) PZ
  have g0:=lY (b:=k) (show n.natAbs<2^101 by omega) PZ
  have gu:=lY (b:=k) (show (n+1).natAbs<2^101 by omega) PZ
  have gp:=lY (n:=1) (b:=k) (by decide) PZ
  have mk:=QF.Make 1 ((1*2^k:Nat):Int) (by unfold aw;omega) (by unfold aw;omega) (by have:=Nat.two_pow_pos k;omega)
  have eg:Rat.divInt 1 ((1*2^k:Nat):Int)=grQ 1 k:=by unfold grQ;rw[Nat.one_mul]
  rw[eg] at mk
  obtain⟨s,x,e,c1,c2,c3⟩:=PL sa sb ka kb
  have i3:=fun c:Int=>PA.Is (some c) 3
  have i4:=fun c:Int=>PA.Is (some c) 4
  by_cases h0:aK (aT a.p) (loG a.rV) (hiG a.rV) (grQ n k)=0
  ·rw[if_pos h0] at n4
   have r1:=hX.H3 sa ka (x:=grQ n k) (by omega)
   rw[h0] at r1
   have R6:=QF.Sub (grQ n k) (grQ n k) (by omega) (by omega)
   rw[show grQ n k-grQ n k=0 by grind] at R6
   have sg:=QF.Sign 0 (by decide)
   rw[hk] at n4 r1 mk R6 p2 PZ
   rcases c3 with ⟨q1,rfl⟩|⟨q1,rfl⟩|⟨q1,rfl,q2,q3⟩
   ·exact ej.e7 a b bits _ _ (cY _ _) _ _ _ _ _ _ _ _ _ _ v1 rfl ov rfl (by omega) n4 r1 r1 PZ p2 mk R6 (by omega) (by omega) sg (ix 0) rfl sg (ix 0) c1 c2 q1 (i3 3) rfl
   ·exact ej.e9 a b bits _ _ (cY _ _) _ _ _ _ _ _ _ _ _ _ v1 rfl ov rfl (by omega) n4 r1 r1 PZ p2 mk R6 (by omega) (by omega) sg (ix 0) rfl sg (ix 0) c1 c2 q1 (i4 4)
   ·exact ej.e6 a b bits _ _ (cY _ _) _ _ _ _ _ _ _ _ _ _ v1 rfl ov rfl (by omega) n4 r1 r1 PZ p2 mk R6 (by omega) (by omega) sg (ix 0) rfl sg (ix 0) c1 c2 q2 q3 q1 (by omega)
  ·rw[if_neg h0] at n4
   have h1:aK (aT a.p) (loG a.rV) (hiG a.rV) (grQ n k)=1:=by rcases(sa.acc ka).lj.three (grQ n k) with q|q|q<;>omega
   have r1:=hX.H3 sa ka (x:=grQ n k) (by omega)
   rw[h1] at r1
   have r2:=hX.H3 sa ka (x:=grQ (n+1) k) (by omega)
   rw[n3] at r2
   have R6:=QF.Sub (grQ (n+1) k) (grQ n k) (by omega) (by omega)
   rw[show grQ (n+1) k-grQ n k=grQ 1 k by rw[←H4 n 1];grind] at R6
   have sg:=QF.Sign (grQ 1 k) (by omega)
   rw[show dz (grQ 1 k) 0=1 from fG (V7 k)] at sg
   have cc:=QF.jN (grQ 1 k) (grQ 1 k) (by omega) (by omega)
   rw[ix] at cc
   rw[hk] at n4 r1 r2 mk R6 p2 PZ sg cc
   rcases c3 with ⟨q1,rfl⟩|⟨q1,rfl⟩|⟨q1,rfl,q2,q3⟩
   ·exact ej.e11 a b bits _ _ (cY _ _) _ _ _ _ _ _ _ _ _ _ _ v1 rfl ov rfl (by omega) n4 r1 r2 PZ p2 mk R6 (by omega) (by omega) sg (by omega) sg (by omega) cc rfl (by omega) (by omega) c1 c2 q1 (i3 3) rfl
   ·exact ej.e13 a b bits _ _ (cY _ _) _ _ _ _ _ _ _ _ _ _ _ v1 rfl ov rfl (by omega) n4 r1 r2 PZ p2 mk R6 (by omega) (by omega) sg (by omega) sg (by omega) cc rfl (by omega) (by omega) c1 c2 q1 (i4 4)
   ·exact ej.e10 a b bits _ _ (cY _ _) _ _ _ _ _ _ _ _ _ _ _ v1 rfl ov rfl (by omega) n4 r1 r2 PZ p2 mk R6 (by omega) (by omega) sg (by omega) sg (by omega) cc rfl (by omega) (by omega) c1 c2 q2 q3 q1 (by omega)
end zI
end Go.Proofs.YtllmkadmohkbfaaGreatDoor.Sym
