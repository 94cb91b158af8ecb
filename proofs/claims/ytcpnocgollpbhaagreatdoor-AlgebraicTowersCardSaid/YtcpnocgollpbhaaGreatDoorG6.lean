/- Lemmas for the statements of this seat. -/
import Derived.Test.YtcpnocgollpbhaaGreatDoorG4
import Derived.Test.YtcpnocgollpbhaaGreatDoorG3
import Derived.Test.YtcpnocgollpbhaaGreatDoorG5
import Derived.Test.YtcpnocgollpbhaaGreatDoorG2
import Derived.Test.YtcpnocgollpbhaaGreatDoorP5
namespace Go.Proofs.YtcpnocgollpbhaaGreatDoor.Sym
open Go cV
set_option linter.unusedVariables false
theorem MX(q:Rat):∀p:List Rat,evR p (R.ofQ q)=R.ofQ (evalL p q)
 |[]=>rfl
 |a::r=>by rw[evR,evalL,MX q r,R.vR,R.y0]
theorem JO(x:R):∀p q:List Rat,evR (db p q) x=evR p x+evR q x
 |[],q=>by rw[db,evR];grind
 |a::p,[]=>by rw[db,evR,evR];grind
 |a::p,b::q=>by rw[db,evR,evR,evR,JO x p q,R.vR];grind
theorem F5(c:Rat)(x:R):∀p:List Rat,evR (br c p) x=R.ofQ c*evR p x
 |[]=>by rw[show br c []=[] from rfl,evR];grind
 |a::p=>by have:=F5 c x p;rw[show br c (a::p)=c*a::br c p from rfl,evR,evR,this,R.y0];grind
theorem Ej(x:R):∀p q:List Rat,evR (mulL p q) x=evR p x*evR q x
 |[],q=>by rw[mulL,evR];grind
 |a::p,q=>by rw[mulL,JO,F5,evR,evR,Ej x p q,R.gL];grind
theorem Ek(x:R):∀p:List Rat,evR (aP p) x=evR p x
 |[]=>rfl
 |a::r=>by
  have ih:=Ek x r;rw[aP];cases h:(aP r).isEmpty&&decide (a=0) with
  |false=>rw[afP,evR,evR,ih]
  |true =>rw[afz];rw[afA,ajd,ahx] at h;rw[h.1] at ih;rw[evR,evR,←ih,h.2,evR,R.gL];grind
theorem Tb{p q:List Rat}(h:∀x,evalL p x=evalL q x)(x:R):evR p x=evR q x:=by rw[←Ek x p,←Ek x q,Jc h]
theorem Wp{p q:List Rat}(h:Dv p q){x:R}(hx:evR p x=0):evR q x=0:=by obtain⟨u,hu⟩:=h;rw[Tb (q:=mulL u p) (fun y=>by rw[aN];exact hu y),Ej,hx];grind
theorem Tc(x:R):evR [1] x=1:=by rw[evR,evR,R.Cc];grind
theorem MY(t:List Rat)(x:R):∀k,evR (iz t k) x=0→evR t x=0
 |0,h=>by exfalso;have e:evR [1] x=0:=h;rw[Tc] at e;have:(0:R)<1:=R.lL.2 (by decide);grind
 |k+1,h=>by
  have e:evR (mulL (iz t k) t) x=0:=h;rw[Ej] at e;rcases R.zc e with h|h
  ·exact MY t x k h
  ·exact h
theorem Q8{p:List Rat}(hz:aS p=false)(h0:p≠[]){x:R}(h:evR p x=0):evR (bj p) x=0:=by obtain⟨_,_,_,_,k,_,f5⟩:=free_spec hz h0;exact MY _ x k (Wp f5 h)
def wQ(x b:R):Prop := -b≤x∧x≤b
theorem wQ.mul{u v A B:R}(h:wQ u A)(k:wQ v B):wQ (u*v) (A*B):=by
 have a1:=R.np (R.nV.2 h.2) (R.nV.2 k.2);have a2:=R.np (R.nV.2 h.2) (R.nV.2 k.1);have a3:=R.np (R.nV.2 h.1) (R.nV.2 k.2);have a4:=R.np (R.nV.2 h.1) (R.nV.2 k.1);constructor
 ·have e:(A-u)*(B-v)+(u - -A)*(v - -B)=(A*B+u*v)+(A*B+u*v):=by grind
  grind
 ·have e:(A-u)*(v - -B)+(u - -A)*(B-v)=(A*B-u*v)+(A*B-u*v):=by grind
  grind
theorem wQ.add{u v A B:R}(h:wQ u A)(k:wQ v B):wQ (u+v) (A+B):=by unfold wQ at *;grind
theorem wQ.mono{u A B:R}(h:wQ u A)(k:A≤B):wQ u B:=by unfold wQ at *;grind
theorem wQ.ex(u:R):∃A,0≤A∧wQ u A:=by obtain⟨B,h0,h1,h2⟩:=R.Hr u;exact⟨R.ofQ B,(R.lL.2 h0).1,h2,h1⟩
theorem MZ{B:R}{x:R}(hx:wQ x B)(hB:0≤B):∀p:List Rat,∃K,0≤K∧∀y t,wQ y B→wQ (y-x) t→wQ (evR p y-evR p x) (K*t)
 |[]=>⟨0,aic _,fun y t _ _=>by simp only[evR];unfold wQ;grind⟩
 |a::r=>by
  obtain⟨K,hK,h⟩:=MZ hx hB r;obtain⟨M,hM,hm⟩:=wQ.ex (evR r x);refine⟨K*B+M,by have:=R.np hK hB;grind,fun y t hy ht => ?_⟩;have h1:=((h y t hy ht).mul hy).add (hm.mul ht);rw[evR,evR];have e1:evR r y*y+R.ofQ a-(evR r x*x+R.ofQ a)=(evR r y-evR r x)*y+evR r x*(y-x):=by grind
  have e2:(K*B+M)*t=K*t*B+M*t:=by grind
  rw[e1,e2];exact h1
theorem Td{a b:Rat}{x:R}(h1:R.ofQ a≤x)(h2:x≤R.ofQ b){ε:Rat}(hε:0<ε):∃q,a≤q∧q≤b∧wQ (R.ofQ q-x) (R.ofQ ε):=by
 by_cases e1:x=R.ofQ a
 ·refine⟨a,afR,R.iY.1 (by rw[←e1];exact h2),?_⟩;have:=(R.lL.2 hε).1;rw[e1];unfold wQ;grind
 ·by_cases e2:x=R.ofQ b
  ·refine⟨b,R.iY.1 (by rw[←e2];exact h1),afR,?_⟩;have:=(R.lL.2 hε).1;rw[e2];unfold wQ;grind
  ·have h3:x<R.ofQ b:=by grind
   have h4:x<x+R.ofQ ε:=by have:=R.lL.2 hε;grind
   by_cases h5:R.ofQ b≤x+R.ofQ ε
   ·obtain⟨q,k1,k2⟩:=R.Cd h3;refine⟨q,R.iY.1 (by grind),R.iY.1 (by grind),?_⟩;unfold wQ;grind
   ·obtain⟨q,k1,k2⟩:=R.Cd h4;refine⟨q,R.iY.1 (by grind),R.iY.1 (by grind),?_⟩;unfold wQ;grind
theorem Yr{y c:Rat}(h:wQ (R.ofQ y) (R.ofQ c)):ab y≤c:=by have h1 : -c≤y:=R.iY.1 (by rw[R.Hp];exact h.1);have h2:=R.iY.1 h.2;rcases bC y with k|k<;>grind
theorem Cj{f:List Rat}{a b:Rat}(h:xz f a b){x:R}(h1:R.ofQ a≤x)(h2:x≤R.ofQ b):evR f x≠0:=by
 intro h0;obtain⟨c,c0,hc⟩:=h;obtain⟨B,hB,hx⟩:=wQ.ex x;have o1:(0:R)<1:=R.lL.2 (by decide);obtain⟨K,hK,hl⟩:=MZ (B:=B+1) (hx.mono (by grind)) (by grind) f;obtain⟨k,k0,k1,_⟩:=R.Hr K;have e1:c/(k+k)*(k+k)=c:=afT (by grind);have p1:0<c/(k+k):=oz c0 (by grind);have hε:0<min 1 (c/(k+k)):=by simp only[Rat.min_def];grind
 obtain⟨q,q1,q2,q3⟩:=Td h1 h2 hε;have le1:R.ofQ (min 1 (c/(k+k)))≤1:=R.iY.2 (by simp only[Rat.min_def];grind);have HQ:R.ofQ (min 1 (c/(k+k)))≤R.ofQ (c/(k+k)):=R.iY.2 (by simp only[Rat.min_def];grind);have hq:wQ (R.ofQ q) (B+1):=by unfold wQ at *;grind
 have h3:=hl (R.ofQ q) (R.ofQ (c/(k+k))) hq (q3.mono HQ);rw[h0,MX] at h3;have m1:=R.np (R.nV.2 k1) (R.lL.2 p1).1;have e2:R.ofQ k*R.ofQ (c/(k+k))=R.ofQ (k*(c/(k+k))):=(R.y0 _ _).symm;have h4:K*R.ofQ (c/(k+k))≤R.ofQ (k*(c/(k+k))):=by grind
 have h5:wQ (R.ofQ (evalL f q)) (R.ofQ (k*(c/(k+k)))):=by have:=h3.mono h4;unfold wQ at *;grind
 have h6:=Yr h5;have h7:=hc q q1 q2;grind
theorem HE{p:List Rat}(hz:aS p=false)(h0:p≠[]){u v:Rat}(he:gi (aX p) u-gi (aX p) v=0){x:R}(h1:R.ofQ u<x)(h2:x≤R.ofQ v):evR (bj p) x≠0:=by
 obtain⟨f1,f2,f3,_⟩:=free_spec hz h0;by_cases hu:evalL (bj p) u=0
 ·obtain⟨q,q1,q2⟩:=R.Cd h1;have q3:=R.Az.1 q1;obtain⟨t,t1,t2,t3⟩:=NR f3 hu (show 0<q-u by grind) 1 (Or.inl rfl);rw[ahl] at t3;have w1:R.ofQ (u+t)≤x:=by
   have:=R.iY.2 (show u+t≤q by grind);grind
  have w2:u+t≤v:=R.iY.1 (by grind);have a1:gi (aX p) (u+t)≤gi (aX p) u:=uZ f1 f2 f3 (by grind);have a2:gi (aX p) v≤gi (aX p) (u+t):=uZ f1 f2 f3 w2;exact Cj (Jn f1 f2 f3 w2 (show gi (aX p) (u+t)=gi (aX p) v by omega) t3) w1 h2
 ·have w:u≤v:=R.iY.1 (by grind);exact Cj (Jn f1 f2 f3 w (show gi (aX p) u=gi (aX p) v by omega) hu) h1.1 h2
def Wq(x:R)(r:Rat×Rat):Prop:=(r.1=r.2∧x=R.ofQ r.1)∨(R.ofQ r.1<x∧x<R.ofQ r.2)
theorem xK{p:List Rat}(hz:aS p=false)(h0:p≠[]){a w:Rat}(hw:0≤w){x:R}(hx:evR (bj p) x=0):∀(n k j:Nat) (l:List (Rat×Rat)),eT (aX p) (bj p) a w n k j=some l→R.ofQ (ptQ a w k j)<x→x≤R.ofQ (ptQ a w k (j+1))→∃r∈l,Wq x r
 |0,_,_,_,h,_,_=>by cases h
 |n+1,k,j,l,h,g1,g2=>by
  rw[eT] at h;by_cases c0:gi (aX p) (ptQ a w k j)-gi (aX p) (ptQ a w k (j+1))=0
  ·exact absurd hx (HE hz h0 c0 g1 g2)
  ·rw[afG c0] at h;by_cases c1:gi (aX p) (ptQ a w k j)-gi (aX p) (ptQ a w k (j+1))=1∧evalL (bj p) (ptQ a w k j)≠0
   ·rw[afI c1] at h;have hle:=FR a hw k j;generalize ptQ a w k j=u at *;generalize ptQ a w k (j+1)=v at *;by_cases c2:evalL (bj p) v=0
    ·rw[afI c2] at h;injection h with h;subst h
     refine⟨_,ah6.2 rfl,Or.inl ⟨rfl,?_⟩⟩;apply afE;intro fT;obtain⟨f1,f2,f3,_⟩:=free_spec hz h0;obtain⟨t,t1,t2⟩:=R.Cd (show x<R.ofQ v by grind);have t3:t<v:=R.Az.1 t2;have t4:u<t:=R.Az.1 (by grind);have b1:gi (aX p) t≤gi (aX p) u:=uZ f1 f2 f3 (ag8 t4);have b2:gi (aX p) v≤gi (aX p) t:=uZ f1 f2 f3 (ag8 t3);by_cases b3:gi (aX p) u-gi (aX p) t=0
     ·exact HE hz h0 b3 g1 t1.1 hx
     ·have b4:gi (aX p) t-gi (aX p) v=0:=by have:=c1.1;omega
      exact HE hz h0 b4 (x:=R.ofQ v) t2 (aic _) (by rw[MX,c2];rfl)
    ·rw[afG c2] at h;injection h with h;subst h
     refine⟨_,ah6.2 rfl,Or.inr ⟨g1,?_⟩⟩;have:x≠R.ofQ v:=fun e=>c2 (by rw[e,MX] at hx;exact R.SQ hx)
     grind
   ·rw[afG c1] at h;cases zt:eT (aX p) (bj p) a w n (k+1) (2*j) with
    |none=>rw[zt] at h;cases h
    |some l1 =>
     cases JS:eT (aX p) (bj p) a w n (k+1) (2*j+1) with
     |none=>rw[zt,JS] at h;cases h
     |some l2 =>
      rw[zt,JS] at h;injection h with h;subst h
      have i1:=xK hz h0 hw hx n _ _ l1 zt;have i2:=xK hz h0 hw hx n _ _ l2 JS;rw[n5] at i1;rw[show 2*j+1+1=2*(j+1) from by omega,n5] at i2;by_cases hm:x≤R.ofQ (ptQ a w (k+1) (2*j+1))
      ·obtain⟨r,r1,r2⟩:=i1 g1 hm;exact⟨r,agO.2 (Or.inl r1),r2⟩
      ·obtain⟨r,r1,r2⟩:=i2 (R.vS.1 hm) g2;exact⟨r,agO.2 (Or.inr r1),r2⟩
theorem Ys{p:List Rat}{b:Rat}(hz:aS p=false)(h0:p≠[])(hc:WI p b)(hb:0≤b){x:R}(hx:evR p x=0):R.ofQ (-b)<x∧x≤R.ofQ b:=by
 constructor
 ·rw[←R.vS];intro h;obtain⟨B,B0,B1,B2⟩:=R.Hr x;exact Cj (Jo hz h0 hc hb (u := -B) (v := -b) (fun y _ hy=>by rcases bC y with k|k<;>grind)) B2 h hx
 ·apply afE;intro h;obtain⟨B,B0,B1,B2⟩:=R.Hr x;exact Cj (Jo hz h0 hc hb (u:=b) (v:=B) (fun y hy _=>by rcases bC y with k|k<;>grind)) (R.vS.1 h).1 B1 hx
open Path
theorem HP.Lp{h L:Nat}{p:List Rat}(f:dL h L p)(h1:Bd p)(ok:rH h L):Cp 26 [pq p] (.aF [bB aW.cells ((iX h L p).map (fun r=>jU (bj p) r.1 r.2)),.aC]):=by
 have hi:=Et.Ca f h1 ok;have hF:=BC.Jv f;have hlen:=Et.sA f h1 ok;have loop:∀d t:Nat,t+d=(iX h L p).length→ee.ah (p.map aI) (((iX h L p).take t).map (fun r=>jU (bj p) r.1 r.2)) (mkGs (iX h L p)) t (.aF [bB aW.cells ((iX h L p).map (fun r=>jU (bj p) r.1 r.2)),.aC]):=by
  intro d
  induction d with
  |zero =>intro t h;rw[afD (by omega)];exact ee.jT _ _ _ t (by rw[nk];omega)
  |succ d ih =>
   intro t h';obtain⟨v,hv⟩:∃v,(iX h L p)[t]? = some v:=⟨_,afp (by omega)⟩;have Ep:(mkGs (iX h L p))[t]? = some (qG v.1 v.2):=by unfold mkGs;rw[afu,hv];rfl
   have ih:=ih (t+1) (by omega);rw[ag4,hv,agd] at ih;exact ee.l10 _ _ _ t (qG v.1 v.2) _ (by rw[nk];omega) Ep hF (by rw[afW,afq,afK,agt];omega) (by omega) ih
 exact ee.e0 _ _ hi (loop (iX h L p).length 0 (agl _))
theorem CAr.Lp{h L:Nat}{p:List Rat}(f:dL h L p)(h1:Bd p)(ok:rH h L):Cp 43 [pq p] (.aF [bB aW.cells ((iX h L p).map (fun r=>jU (bj p) r.1 r.2)),vI 0]):=by
 have hi:=WJ.Ca f h1 ok;have hF:=La.Jv f;have hlen:=Et.sA f h1 ok;have loop:∀d t:Nat,t+d=(iX h L p).length→gf.ah (p.map aI) (((iX h L p).take t).map (fun r=>jU (bj p) r.1 r.2)) (mkGs (iX h L p)) t (.aF [bB aW.cells ((iX h L p).map (fun r=>jU (bj p) r.1 r.2)),vI 0]):=by
  intro d
  induction d with
  |zero =>intro t h;rw[afD (by omega)];exact gf.cB _ _ _ t (by rw[nk];omega)
  |succ d ih =>
   intro t h';obtain⟨v,hv⟩:∃v,(iX h L p)[t]? = some v:=⟨_,afp (by omega)⟩;have Ep:(mkGs (iX h L p))[t]? = some (qG v.1 v.2):=by unfold mkGs;rw[afu,hv];rfl
   have ih:=ih (t+1) (by omega);rw[ag4,hv,agd] at ih;exact gf.l10 _ _ _ t (qG v.1 v.2) _ _ (by rw[nk];omega) Ep hF (by rw[afW,afq,afK,agt];omega) (by omega) ih
 exact gf.e1 _ _ _ hi rfl (loop (iX h L p).length 0 (agl _))
theorem Q9:rH 14 5:=by decide +kernel
theorem Wr:isoK 14 5/32≤5000000:=by decide +kernel
theorem N6{h L:Nat}{p:List Rat}(f:dL h L p)(h1:Bd p)(ok:rH h L){x:R}(hx:evR p x=0):∃r∈iX h L p,Wq x r:=by
 have hb:=B9 p;have hs:=u9 f h1 ok;obtain⟨c1,c2⟩:=Ys f.zp f.ne (SI f.zp f.ne h1) (ag8 hb) hx;have zt:=Q8 f.zp f.ne hx;refine xK f.zp f.ne (show 0≤bndP p+bndP p by grind) zt _ _ _ _ hs ?_ ?_
 ·rw[(rG _ _).1];exact c1
 ·rw[(rG _ _).2,show -bndP p+(bndP p+bndP p)=bndP p from by grind];exact c2
theorem F6{p:List Rat}(f:dL 14 5 p)(h1:Bd p):∀r∈iX 14 5 p,ht r.1≤6000000∧ht r.2≤6000000:=by intro r hr;have a:=Hm (K:=isoK 14 5) _ 0 0 _ (by omega) (by omega) (u9 f h1 Q9) r hr;have b:=Hi h1;have c:=(Hk h1).2;have d:=Wr;rw[uR] at a;omega
theorem Ra{x y:R} : (0≤R.gR (x-y)↔y≤x)∧(R.gR (x-y)≤0↔x≤y)∧(0<R.gR (x-y)↔y<x)∧(R.gR (x-y)<0↔x<y):=by
 rcases R.dW (x-y) with h|h|h
 ·have e:=h.2;have l:y<x:=by have:=h.1;grind
  rw[e];exact⟨⟨fun _=>l.1,fun _=>by decide⟩,⟨fun k=>absurd k (by decide),fun k=>by grind⟩,⟨fun _=>l,fun _=>by decide⟩,⟨fun k=>absurd k (by decide),fun k=>by grind⟩⟩
 ·have e:=h.2;have l:x=y:=by have:=h.1;grind
  rw[e,l];exact⟨⟨fun _=>by grind,fun _=>by decide⟩,⟨fun _=>by grind,fun _=>by decide⟩,⟨fun k=>absurd k (by decide),fun k=>by grind⟩,⟨fun k=>absurd k (by decide),fun k=>by grind⟩⟩
 ·have e:=h.2;have l:x<y:=by have:=h.1;grind
  rw[e];exact⟨⟨fun k=>absurd k (by decide),fun k=>by grind⟩,⟨fun _=>l.1,fun _=>by decide⟩,⟨fun k=>absurd k (by decide),fun k=>by grind⟩,⟨fun _=>l,fun _=>by decide⟩⟩
namespace fH
variable {t:aA} {T:Tw}
theorem abv(G:fH t T)(K:xE T){q:List Rat}(lq:Lk t.roots.length q){D:Nat}(hD:D≠0)(Oj:D≤10^12)(hq:Dn D (10^12) (toQ T q)) :
  ∃r∈iX 14 5 (lZ (toQ T q) (rZ (toQ T q))),Wq (lv K q) r ∧
  Cp 8 [t.pv,pq q] (.aF [(jU (bj (lZ (toQ T q) (rZ (toQ T q)))) r.1 r.2).pv,.aC])∧Cp 10 [t.pv,pq q] (.aF [(jU (bj (lZ (toQ T q) (rZ (toQ T q)))) r.1 r.2).pv,vI 0]):=by
 obtain⟨A,B,sm⟩:=G.sm;have F9:=G.HQ;have En:=Dn.hq hD Oj hq;obtain⟨m1,m2⟩:=G.Wo lq En;obtain⟨v1,v2,_⟩:=HC (toQ T q);obtain⟨f,bd⟩:=MW sm hD Oj hq v2 v1;have ev:=SY K v2 v1;have cov:=N6 f bd Q9 ev;have r1:=HP.Lp f bd Q9;have r2:=CAr.Lp f bd Q9;have TB:=F6 f bd;have hlen:=Et.sA f bd Q9;generalize lZ (toQ T q) (rZ (toQ T q))=p at *;generalize iX 14 5 p=l at *;have main:∀d g,g+d=l.length→(∃r∈l.drop g,Wq (lv K q) r)→∃r∈l,Wq (lv K q) r ∧
   da.ah (q.map aI) (l.map (fun r=>jU (bj p) r.1 r.2)) g t (.aF [(jU (bj p) r.1 r.2).pv,.aC])∧cu.ah (q.map aI) (l.map (fun r=>jU (bj p) r.1 r.2)) g t (.aF [(jU (bj p) r.1 r.2).pv,vI 0]):=by
  intro d
  induction d with
  |zero =>intro g hg he;obtain⟨r,h1,_⟩:=he;rw[afV (by omega)] at h1;cases h1
  |succ d ih =>
   intro g hg he;obtain⟨s,hs⟩:∃s,l[g]? = some s:=⟨_,afp (by omega)⟩;have Da:=afx hs;have mr:(l.map (fun r=>jU (bj p) r.1 r.2))[g]? = some (jU (bj p) s.1 s.2):=by rw[afu,hs];rfl
   obtain⟨a1,a2⟩:=TB s Da;have Om:g<(l.map (fun r=>jU (bj p) r.1 r.2)).length:=by rw[afq];omega
   obtain⟨o1,o2⟩:=OfB T (x:=s.1) a1 (by omega);obtain⟨o3,o4⟩:=OfB T (x:=s.2) a2 (by omega);have lv0:∀y:Rat,Lv 0 (Q4.tR y:Q4 T):=fun y=>⟨rfl,rfl,rfl⟩
   have lk1:∀y:Rat,Lk t.roots.length (fO (Q4.tR y:Q4 T)):=fun y=>(qx (lv0 y)).mono (ag0 _)
   have val:∀y:Rat,lv K (fO (Q4.tR y:Q4 T))=R.ofQ y:=fun y=>by unfold lv;rw[fN,Q4.JH]
   have c1:=G.Yi K (a:=q) (b:=fO (Q4.tR s.1:Q4 T)) (h:=2) (h':=6000000) lq (lk1 _) En (by rw[fN];exact Hq.tR a1) (by omega) (by omega) (by omega);have c2:=G.Yi K (a:=q) (b:=fO (Q4.tR s.2:Q4 T)) (h:=2) (h':=6000000) lq (lk1 _) En (by rw[fN];exact Hq.tR a2) (by omega) (by omega) (by omega);rw[val] at c1 c2;obtain⟨s1,s2,s3,s4⟩:=Ra (x:=lv K q) (y:=R.ofQ s.1);obtain⟨u1,u2,u3,u4⟩:=Ra (x:=lv K q) (y:=R.ofQ s.2);have f1:=QF.yE s.1 s.2 (by omega) (by omega);have f2:=QR.yE s.1 s.2 (by omega) (by omega);by_cases xU:Wq (lv K q) s
   ·refine⟨s,Da,xU,?_⟩;rcases xU with ⟨e1,e2⟩|⟨e1,e2⟩
    ·have k1:0≤R.gR (lv K q-R.ofQ s.1):=s1.2 (by rw[e2];grind);have k2:R.gR (lv K q-R.ofQ s.2)≤0:=u2.2 (by rw[e2,e1];grind);have k3:R.gR (lv K q-R.ofQ s.1)≤0:=s2.2 (by rw[e2];grind);exact⟨da.tN _ _ g t _ _ _ _ _ _ Om mr o1 c1.1 o3 c2.1 k1 k2 k3 f1 (u7.2 e1),cu.tN _ _ g t _ _ _ _ _ _ _ _ Om mr o2 c1.2 o4 c2.2 k1 k2 k3 f2 (u7.2 e1)⟩
    ·have k1:0<R.gR (lv K q-R.ofQ s.1):=s3.2 e1;have k2:R.gR (lv K q-R.ofQ s.2)<0:=u4.2 e2;exact⟨da.l10 _ _ g t _ _ _ _ _ Om mr o1 c1.1 o3 c2.1 (by omega) (by omega) k1 k2,cu.l10 _ _ g t _ _ _ _ _ _ _ Om mr o2 c1.2 o4 c2.2 (by omega) (by omega) k1 k2⟩
   ·have iu:∃r∈l.drop (g+1),Wq (lv K q) r:=by
     obtain⟨r,h1,h2⟩:=he;rw[drop_cons hs] at h1;rcases afY.1 h1 with rfl|h1
     ·exact absurd h2 xU
     ·exact⟨r,h1,h2⟩
    obtain⟨r,g1,g2,g3,g4⟩:=ih (g+1) (by omega) iu;refine⟨r,g1,g2,?_⟩;by_cases k1:R.gR (lv K q-R.ofQ s.1)<0
    ·exact⟨da.XB _ _ g t _ _ _ _ _ Om mr o1 c1.1 o3 c2.1 k1 (by omega) g3,cu.XB _ _ g t _ _ _ _ _ _ _ Om mr o2 c1.2 o4 c2.2 k1 (by omega) g4⟩
    ·by_cases k2:0<R.gR (lv K q-R.ofQ s.2)
     ·exact⟨da.Vj _ _ g t _ _ _ _ _ Om mr o1 c1.1 o3 c2.1 (by omega) k2 (by omega) g3,cu.Vj _ _ g t _ _ _ _ _ _ _ Om mr o2 c1.2 o4 c2.2 (by omega) k2 (by omega) g4⟩
     ·have x1:R.ofQ s.1≤lv K q:=s1.1 (by omega);have x2:lv K q≤R.ofQ s.2:=u2.1 (by omega);have fT:s.1≠s.2:=fun e=>xU (.inl ⟨e,by rw[←e] at x2;grind⟩)
      have hc:ig s.1 s.2≠0:=fun e=>fT (u7.1 e)
      by_cases k3:0<R.gR (lv K q-R.ofQ s.1)
      ·have k4:0≤R.gR (lv K q-R.ofQ s.2):=Int.not_lt.1 fun e=>xU (.inr ⟨s3.1 k3,u4.1 e⟩)
       exact⟨da.jT _ _ g t _ _ _ _ _ _ Om mr o1 c1.1 o3 c2.1 (by omega) (by omega) k3 k4 f1 hc (by omega) g3,cu.jT _ _ g t _ _ _ _ _ _ _ _ Om mr o2 c1.2 o4 c2.2 (by omega) (by omega) k3 k4 f2 hc (by omega) g4⟩
      ·exact⟨da.Bz _ _ g t _ _ _ _ _ _ Om mr o1 c1.1 o3 c2.1 (by omega) (by omega) (by omega) f1 hc (by omega) g3,cu.Bz _ _ g t _ _ _ _ _ _ _ _ Om mr o2 c1.2 o4 c2.2 (by omega) (by omega) (by omega) f2 hc (by omega) g4⟩
 obtain⟨r,g1,g2,g3,g4⟩:=main l.length 0 (agl _) (by rw[agB];exact cov);exact⟨r,g1,g2,da.e0 t _ _ _ m1 r1 g3,cu.e1 t _ _ _ _ _ m2 rfl r2 g4⟩
end fH
end Go.Proofs.YtcpnocgollpbhaaGreatDoor.Sym
namespace Go.Proofs.YtcpnocgollpbhaaGreatDoor.Sym
open Go Path cV
set_option linter.unusedVariables false
namespace JW
theorem ok7:rH 7 6:=by decide +kernel
theorem JP{q:List Rat}(z:aS q=false)(h0:q≠[])(hl:q.length≤6)(hf:Fl 1 q):dL 7 6 q:=⟨z,h0,hl,(Ch.Qo hf).mono (by omega),by omega,by omega,by decide +kernel⟩
theorem Yt(a b:Rat)(fQ:a≤b)(ha:a.num.natAbs<100)(hb:b.num.natAbs<100)(ha2:a.den<100)(tS:b.den<100)(s1:(ratT a).size<1000)(s2:(ratT b).size<1000):Cp 30 [(qG a b).pv] (.str (ratT a++ByteArray.mk #[46,46]++ratT b)):=by have h1:ht a≤1:=aj9.2 ⟨fz (by omega),fz (by rw[afQ];omega)⟩;have h2:ht b≤1:=aj9.2 ⟨fz (by omega),fz (by rw[afQ];omega)⟩;have hc:=WK.clean (qG a b) (Hg (afJ h1 (by omega)) (afJ h2 (by omega)));rw[Lc fQ,Ld fQ] at hc;have e2:(ByteArray.mk #[46,46]).size=2:=rfl;exact wE.e0 _ (qG a b) _ _ hc (Y7.vh a ha ha2) (by omega) (Y7.vh b hb tS) (by rw[aiL];omega)
abbrev Bk:List Rat:=[-2,0,1]
abbrev HT:List Rat:=[-3,0,1]
theorem abw:iX 7 6 Bk=[(-4,0),(0,4)]:=by decide +kernel
theorem abx:iX 7 6 HT=[(-4,0),(0,4)]:=by decide +kernel
def a2:aW:=jU (bj Bk) 0 4
def a3:aW:=jU (bj HT) 0 4
theorem Yu:bj Bk=Bk:=by decide +kernel
theorem Yv:bj HT=HT:=by decide +kernel
theorem Te:a2=jU Bk 0 4:=by unfold a2;rw[Yu]
theorem Wt:a3=jU HT 0 4:=by unfold a3;rw[Yv]
theorem n1:numT 1=ByteArray.mk #[49]:=by unfold numT;rw[afG (by decide),show(1:Int).natAbs=1 from rfl,vX (by omega)];rfl
theorem n2:numT 2=ByteArray.mk #[50]:=by unfold numT;rw[afG (by decide),show(2:Int).natAbs=2 from rfl,vX (by omega)];rfl
theorem n3:numT 3=ByteArray.mk #[51]:=by unfold numT;rw[afG (by decide),show(3:Int).natAbs=3 from rfl,vX (by omega)];rfl
theorem t1:ratT 1=ByteArray.mk #[49]:=by unfold ratT;rw[afI (by decide),show(1:Rat).num=1 from rfl,n1]
theorem t32:ratT (Rat.divInt 3 2)=ByteArray.mk #[51,47,50]:=by
 have en:(Rat.divInt 3 2).num=3:=by decide +kernel
 have ed:((Rat.divInt 3 2).den:Int)=2:=by decide +kernel
 unfold ratT;rw[afG (by rw[ed];decide),en,ed,n3,n2];decide +kernel
theorem M0(q:List Rat)(hl:q.length≤1000)(hf:Fl 68719476736 q):Cp 12 [pq q,pq q] (vB true):=by
 have:=XT.aaN (q.map aI) (q.map aI) (by rw[bx];omega) (fun a ha=>by obtain⟨x,hx,rfl⟩:=agj.1 ha;have:=bF (hf x hx);omega)
 rw[NM] at this;exact qd.e0 _ _ _ this
end JW
namespace JW
theorem Yw{p:List Rat}{lo hi:Rat}(z:aS p=false)(l:p.length=3)(f:Fl 1 p)(hg:(eL p (ax p)).length=1)(AS:SJ p lo hi=true)(hle:lo≤hi)(h1:ht lo≤1)(h2:ht hi≤1):Cp 64 [(jU p lo hi).pv] .aC:=by
 have p0:p≠[]:=fun e=>by rw[e] at l;cases l
 have F:=JP z p0 (by omega) f;have ch:Ch 7 p:=F.ch;have hc:=JV.Check (p.map aI) (V6 (iT f) (by omega));rw[F.tX] at hc;have hd:=PQ.Al p z (by omega) f (by omega);have hdl:=I8 p;have hgc:=PQ.Gcd (h:=7) (b:=8) (c:=70) (L:=6) (by omega) (by omega) (by omega) (by omega) (by omega) X5 p (ax p) z (bZ _) (by omega) (by omega) ch (ch.derive (by omega));have hI:=Et.NT F (qG lo hi) ⟨bF (afJ h1 (by omega)),bF (afJ h2 (by omega))⟩;have hb:Jx p (qG lo hi)=true:=by unfold Jx;rw[Hf hle,Lc hle,Ld hle,AS];rfl
 rw[hb] at hI;exact tP.e3 (jU p lo hi) _ _ _ hc (by show(p.map aI).length≠0;rw[bx];omega) hd hgc (by rw[bx];exact hg) hI rfl
theorem aok{p:List Rat}(z:aS p=false)(l:p.length=3)(f:Fl 1 p){lo hi:Rat}(h1:ht lo≤1)(h2:ht hi≤1):Ru p lo hi:=⟨z,cb f (by omega),by omega,by omega,by omega⟩
theorem apS{f g:List Rat}{lo hi Ud AS u v u' v':Rat}{r:PV}(O:Ru f lo hi)(P:Ru g Ud AS)(hle:lo≤hi)(abz:Ud≤AS)(k1:Ud<hi)(k2:lo<AS)(m1:ht (yQ lo hi)≤1)(m2:ht (yQ Ud AS)≤1)(e1:Jt f lo hi=(u,v))(e2:Jt g Ud AS=(u',v'))
  (hL:fV.ah (jU f u v) (jU g u' v') r):fV.ah (jU f lo hi) (jU g Ud AS) r:=by
 have h1:=O.h1;have h2:=O.h2;have h3:=P.h1;have h4:=P.h2;have x1:=HP.Md O hle (by omega);have x2:=HP.Md P abz (by omega);rw[e1] at x1;rw[e2] at x2;exact fV.l10 (jU f lo hi) (jU g Ud AS) _ _ _ _ (QF.yE hi Ud (by omega) (by omega)) (by rw[yP k1];omega) (QF.yE AS lo (by omega) (by omega)) (by rw[yP k2];omega) x1 x2 hL
theorem R3{f:List Rat}{lo hi:Rat}(O:Ru f lo hi)(hle:lo≤hi){b:Nat}(hb:b≤64){u v:Int}(hu:u.natAbs<1000)(hv:v.natAbs<1000){r:PV} :
  (1<v-u→ht (NU ((u+v)/2) b)≤1→(0≤Jr f lo hi (NU ((u+v)/2) b)→cY.ah (b:Int) (jU f lo hi) (Sym.whole ((u+v)/2)) (Sym.whole v) r→cY.ah (b:Int) (jU f lo hi) (Sym.whole u) (Sym.whole v) r) ∧
   (Jr f lo hi (NU ((u+v)/2) b)<0→cY.ah (b:Int) (jU f lo hi) (Sym.whole u) (Sym.whole ((u+v)/2)) r→cY.ah (b:Int) (jU f lo hi) (Sym.whole u) (Sym.whole v) r)) ∧
  (v-u=1→cY.ah (b:Int) (jU f lo hi) (Sym.whole u) (Sym.whole v) (.aF [(Sym.whole u).pv,.aC])):=by
 have w:∀n:Int,n.natAbs<4000→wl n≤1:=fun n hn=>lE (Nat.lt_trans hn (by decide))
 have ft:∀n:Int,n.natAbs<4000→Fit (Sym.whole n).cJ:=fun n hn=>by show _≤_;rw[nR];have:=w n hn;omega
 have q1:=cV.Sub (Sym.whole v) (Sym.whole u) (ft v (by omega)) (ft u (by omega));have o1:=cV.Of 1 (by unfold ay;omega);have o2:=cV.Of 2 (by unfold ay;omega);have q2:=cV.yE (Sym.whole (v-u)) (Sym.whole 1) (ft _ (by omega)) (ft 1 (by decide));have q3:=cV.Add (Sym.whole u) (Sym.whole v) (ft u (by omega)) (ft v (by omega));have q4:=cV.Div (Sym.whole (u+v)) (Sym.whole 2) (ft _ (by omega)) (ft 2 (by decide)) (by rw[aE];omega);rw[aE,aE] at q1 q2 q3 q4;have wm:=w ((u+v)/2) (by omega);have q5:=HP.scaled ((u+v)/2) (by omega) hb;refine⟨fun hd hg => ?_,fun hd => ?_⟩
 ·have q6:=HP.compare O hle (x:=NU ((u+v)/2) b) (by omega);exact⟨fun hc hL=>cY.l10 _ (jU f lo hi) _ _ _ _ _ _ _ _ _ none _ _ q1 o1 q2 (by rw[pd hd];omega) q3 o2 q4 q5 q6 hc hL,fun hc hL=>cY.cB _ (jU f lo hi) _ _ _ _ _ _ _ _ _ none _ _ q1 o1 q2 (by rw[pd hd];omega) q3 o2 q4 q5 q6 hc hL⟩
 ·exact cY.Bz _ (jU f lo hi) _ _ _ _ _ q1 o1 q2 (by rw[hd];decide)
theorem El{n:Int}{b:Nat}(hn:n.natAbs<1000)(hb:b≤64):Cp 56 [vI 1] (Sym.whole 1).pv∧Cp 74 [(Sym.whole n).pv,(Sym.whole 1).pv] (Sym.whole (n+1)).pv∧Cp 71 [(Sym.whole (n+1)).pv,vI (b:Int)] (.aF [(aI (NU (n+1) b)).pv,.aC]):=by
 have w:∀n:Int,n.natAbs<4000→wl n≤1:=fun n hn=>lE (Nat.lt_trans hn (by decide))
 have w1:=w n (by omega);have w2:=w (n+1) (by omega);have w3:=w 1 (by decide);have ad:=cV.Add (Sym.whole n) (Sym.whole 1) (by show _≤_;rw[nR];omega) (by show _≤_;rw[nR];omega);rw[aE,aE] at ad;exact⟨cV.Of 1 (by unfold ay;omega),ad,HP.scaled (n+1) (by omega) hb⟩
theorem f2:Fl 1 Bk:=by decide +kernel
theorem f3:Fl 1 HT:=by decide +kernel
theorem z2:aS Bk=false:=by decide +kernel
theorem z3:aS HT=false:=by decide +kernel
theorem WO{lo hi:Rat}(h1:ht lo≤1)(h2:ht hi≤1):Ru Bk lo hi:=aok z2 rfl f2 h1 h2
theorem Za{lo hi:Rat}(h1:ht lo≤1)(h2:ht hi≤1):Ru HT lo hi:=aok z3 rfl f3 h1 h2
theorem ck2:Cp 64 [a2.pv] .aC:=by rw[Te];exact Yw z2 rfl f2 (by decide +kernel) (by decide +kernel) (by decide +kernel) (by decide +kernel) (by decide +kernel)
theorem ck3:Cp 64 [a3.pv] .aC:=by rw[Wt];exact Yw z3 rfl f3 (by decide +kernel) (by decide +kernel) (by decide +kernel) (by decide +kernel) (by decide +kernel)
theorem Yx:Cp 23 [a2.pv,a3.pv] (.aF [vI (-1),.aC]):=by
 have c2:=ck2;have c3:=ck3;rw[Te] at c2 ⊢;rw[Wt] at c3 ⊢;have hg:=PQ.Gcd (h:=7) (b:=7) (c:=63) (L:=6) (by omega) (by omega) (by omega) (by omega) (by omega) (by decide) HT Bk z3 z2 (by decide) (by decide) (JP z3 (by simp) (by decide) f3).ch (JP z2 (by simp) (by decide) f2).ch;have va:=qk.e1 _ (jU Bk 0 4) _ (by decide) hg (by rw[bx];decide +kernel);have eq:=tQ.e0 (jU Bk 0 4) (jU HT 0 4) _ va rfl;have ap:fV.ah (jU Bk 0 4) (jU HT 0 4) (.aF [(jU Bk 1 (Rat.divInt 3 2)).pv,(jU HT (Rat.divInt 3 2) 2).pv,.aC]):=by refine apS (u:=0) (v:=2) (u':=0) (v':=2) (WO (by decide +kernel) (by decide +kernel)) (Za (by decide +kernel) (by decide +kernel)) (by decide +kernel) (by decide +kernel) (by decide +kernel) (by decide +kernel) (by decide +kernel) (by decide +kernel) (by decide +kernel) (by decide +kernel) ?_;refine apS (u:=1) (v:=2) (u':=1) (v':=2) (WO (by decide +kernel) (by decide +kernel)) (Za (by decide +kernel) (by decide +kernel)) (by decide +kernel) (by decide +kernel) (by decide +kernel) (by decide +kernel) (by decide +kernel) (by decide +kernel) (by decide +kernel) (by decide +kernel) ?_;refine apS (u:=1) (v:=Rat.divInt 3 2) (u':=Rat.divInt 3 2) (v':=2) (WO (by decide +kernel) (by decide +kernel)) (Za (by decide +kernel) (by decide +kernel)) (by decide +kernel) (by decide +kernel) (by decide +kernel) (by decide +kernel) (by decide +kernel) (by decide +kernel) (by decide +kernel) (by decide +kernel) ?_;exact fV.Bz (jU Bk 1 (Rat.divInt 3 2)) (jU HT (Rat.divInt 3 2) 2) _ (QF.yE (Rat.divInt 3 2) (Rat.divInt 3 2) (by decide +kernel) (by decide +kernel)) (by decide +kernel)
 have cm:=wH.e1 (jU Bk 0 4) (jU HT 0 4) _ _ _ _ _ _ eq rfl (fV.e0 _ _ ap) (Et.WL 1 (Rat.divInt 3 2) (by decide +kernel) (by decide +kernel) (by decide +kernel)) (Et.WL (Rat.divInt 3 2) 2 (by decide +kernel) (by decide +kernel) (by decide +kernel)) (QF.yE _ _ (by decide +kernel) (by decide +kernel)) (by decide +kernel);exact lC.e0 _ _ (lC.l10 0 _ _ (jU Bk 0 4) (by omega) rfl c2 (by omega) (lC.l10 1 _ _ (jU HT 0 4) (by omega) rfl c3 (by omega) (lC.jT 2 _ _ (-1) none (by omega) cm)))
theorem M3(x:Rat)(hx:ht x≤1)(b:Nat)(hb:b≤64)(n:Int)(hn:(x*twP b).floor=n):Cp 136 [(aI x).pv,vI (b:Int)] (Sym.whole n).pv:=by have:=HP.abd (x:=x) (by omega) hb;rwa[hn] at this
theorem Wu:Cp 70 [(jU Bk 0 4).pv,vI ((0:Nat):Int)] (.aF [(Sym.whole 1).pv,.aC]):=by
 have O:Ru Bk 0 4:=WO (by decide +kernel) (by decide +kernel);have hle:(0:Rat)≤4:=by decide +kernel
 obtain⟨o1,o2,_⟩:=El (n:=4) (b:=0) (by decide) (by omega);refine cY.e0 (jU Bk 0 4) _ _ _ _ _ (M3 0 (by decide +kernel) 0 (by omega) 0 (by decide +kernel)) (M3 4 (by decide +kernel) 0 (by omega) 4 (by decide +kernel)) o1 o2 ?_;refine((R3 O hle (b:=0) (by omega) (u:=0) (v:=5) (by decide) (by decide)).1 (by omega) (by decide +kernel)).2 (by decide +kernel) ?_;refine((R3 O hle (b:=0) (by omega) (u:=0) (v:=2) (by decide) (by decide)).1 (by omega) (by decide +kernel)).1 (by decide +kernel) ?_;exact(R3 O hle (b:=0) (by omega) (u:=1) (v:=2) (r := .aC) (by decide) (by decide)).2 (by omega)
theorem Rb:Cp 70 [(jU Bk 0 4).pv,vI ((1:Nat):Int)] (.aF [(Sym.whole 2).pv,.aC]):=by
 have O:Ru Bk 0 4:=WO (by decide +kernel) (by decide +kernel);have hle:(0:Rat)≤4:=by decide +kernel
 obtain⟨o1,o2,_⟩:=El (n:=8) (b:=1) (by decide) (by omega);refine cY.e0 (jU Bk 0 4) _ _ _ _ _ (M3 0 (by decide +kernel) 1 (by omega) 0 (by decide +kernel)) (M3 4 (by decide +kernel) 1 (by omega) 8 (by decide +kernel)) o1 o2 ?_;refine((R3 O hle (b:=1) (by omega) (u:=0) (v:=9) (by decide) (by decide)).1 (by omega) (by decide +kernel)).2 (by decide +kernel) ?_;refine((R3 O hle (b:=1) (by omega) (u:=0) (v:=4) (by decide) (by decide)).1 (by omega) (by decide +kernel)).1 (by decide +kernel) ?_;refine((R3 O hle (b:=1) (by omega) (u:=2) (v:=4) (by decide) (by decide)).1 (by omega) (by decide +kernel)).2 (by decide +kernel) ?_;exact(R3 O hle (b:=1) (by omega) (u:=2) (v:=3) (r := .aC) (by decide) (by decide)).2 (by omega)
theorem Yy:Cp 28 [a2.pv,vI 1] (.aF [(qG 1 (Rat.divInt 3 2)).pv,.aC]):=by have c2:=ck2;rw[Te] at c2 ⊢;obtain⟨o1,o2,o3⟩:=El (n:=2) (b:=1) (by decide) (by omega);have s1:=HP.scaled 2 (by decide) (b:=1) (by omega);have k1:=HP.compare (WO (lo:=0) (hi:=4) (by decide +kernel) (by decide +kernel)) (by decide +kernel) (x:=NU 2 1) (by decide +kernel);have:=uK.e3 (jU Bk 0 4) _ _ _ _ _ _ _ none c2 (by omega) (by omega) Rb s1 k1 (by decide +kernel) o1 o2 o3;rw[show NU 2 1=1 from by decide +kernel,show NU (2+1) 1=Rat.divInt 3 2 from by decide +kernel] at this;exact this
theorem Yz:Cp 29 [a2.pv,a3.pv] (.aF [(aI (Rat.divInt 3 2)).pv,.aC]):=by
 have c:=Yx;rw[Te,Wt] at c ⊢;obtain⟨o1,o2,o3⟩:=El (n:=1) (b:=0) (by decide) (by omega);obtain⟨p1,p2,p3⟩:=El (n:=2) (b:=1) (by decide) (by omega);have k:∀x:Rat,ht x≤1→_:=fun x hx=>HP.compare (Za (lo:=0) (hi:=4) (by decide +kernel) (by decide +kernel)) (by decide +kernel) (x:=x) (by omega)
 have L1:=j6.l10 1 (jU Bk 0 4) (jU HT 0 4) _ _ _ _ _ (by omega) Rb p1 p2 p3 (k (NU (2+1) 1) (by decide +kernel)) (by decide +kernel);have L0:=j6.cB 0 (jU Bk 0 4) (jU HT 0 4) _ _ _ _ _ (by omega) Wu o1 o2 o3 (k (NU (1+1) 0) (by decide +kernel)) (by decide +kernel) (by omega) L1;rw[show NU (2+1) 1=Rat.divInt 3 2 from by decide +kernel] at L0;exact j6.e1 _ _ _ c (by omega) L0
def t2:aA:=⟨[[aI 2]]⟩
theorem YA:fH t2 ⟨2,0,0⟩:=by
 have hn:(0:R)≤R.ofQ 2:=by rw[←R.gL];exact R.iY.2 (by decide)
 obtain⟨s,s0,s1⟩:=R.QN (R.ofQ 2) hn;let K:xE ⟨2,0,0⟩:=⟨s,0,s0,by grind,s1,by show(0:R)*0=R.ofQ 0+R.ofQ 0*s;rw[R.gL];grind⟩;have sm:Oi ⟨2,0,0⟩ 1 1:=⟨by decide,by decide,by decide,by decide,⟨2,by decide +kernel,by decide⟩,⟨0,by decide +kernel,by decide⟩,⟨0,by decide +kernel,by decide⟩⟩;have lo:∀x∈[aI 2],Lo x:=fun x hx=>by
  have:x=aI 2:=by simpa using hx
  subst this;exact⟨by decide +kernel,by decide +kernel,by decide +kernel,by decide +kernel⟩
 have n1:=tY.ph ⟨[]⟩ (a:=[aI 2]) (by decide) (fun x hx=>Hx (lo x hx));have n2:=Cg.ph 0 (a:=[aI 2]) (by decide) (fun x hx=>Hx (lo x hx));rw[show zl ([]:List (List ag)).length [aI 2]=0 from by decide +kernel] at n1;rw[show zl 0 [aI 2]=0 from by decide +kernel] at n2;have hQ:Hq 1 (toQ (⟨2,0,0⟩:Tw) [2]):=Hq.tR (q:=2) (by decide +kernel);have l0:Lk 0 [(2:Rat)] := .inr ⟨0,afy _,rfl⟩;have s1:=tY.Ee sm.tok K (t:=⟨[]⟩) (n:=0) ⟨by omega,fun j hj=>by omega⟩ 0 (afy _) [2] 1 l0 hQ (by omega) (by decide);have s2:=Cg.Ee sm.tok K (t:=t2) (n:=0) ⟨by omega,fun j hj=>by omega⟩ 0 (afy _) [2] 1 l0 hQ (by omega) (by decide);have e:R.gR (lv K [2])=1:=by rw[X9];decide +kernel
 rw[e] at s1 s2;refine⟨⟨by decide,fun j hj => ?_⟩,⟨1,1,sm⟩,⟨K⟩,F0 (by decide) ⟨fM.jT t2 0 [aI 2] 1 (by decide) rfl (by omega) (by decide) rfl (by omega) n1 s1 (by omega) (by omega) (fM.Bz t2 1 (by decide)),b7.tN t2 0 [aI 2] _ 1 (by decide) rfl (by omega) (by decide) rfl n2 rfl s2 (by omega) (by omega) (b7.Bz t2 1 (by decide))⟩⟩;have hj:j<1:=hj;have:j=0:=by omega
 subst this;rfl
theorem abA:Cp 7 [t2.pv,pq [1,1]] (.aF [pq [-1, -2,1],.aC]):=by
 have lq:Lk t2.roots.length [(1:Rat),1] := .inr ⟨1,afy _,rfl⟩;have hz:∀D:Int,(0:Rat)*(D:Rat)=((0:Int):Rat):=fun D=>by rw[ago];rfl
 have hq:Hq 2 (toQ (⟨2,0,0⟩:Tw) [1,1]):=⟨1,1,1,0,0,by decide,by decide,by decide +kernel,by decide +kernel,by decide +kernel,by decide +kernel,by decide,by decide,by decide,by decide⟩;have:=(YA.Wo lq hq).1;rwa[show lZ (toQ (⟨2,0,0⟩:Tw) [1,1]) (rZ (toQ (⟨2,0,0⟩:Tw) [1,1]))=[-1, -2,1] from by decide +kernel] at this
theorem Lq:Cp 6 [] (vB true):=by
 have h2:=of [-2,0,1] (by unfold ay;decide) (by decide);have h3:=of [-3,0,1] (by unfold ay;decide) (by decide);have g1:=of [2] (by unfold ay;decide) (by decide);have g2:=of [1,1] (by unfold ay;decide) (by decide);have g3:=of [-1, -2,1] (by unfold ay;decide) (by decide);have F2:Fl 1 Bk:=by decide +kernel
 have F3:Fl 1 HT:=by decide +kernel
 have r2:=HP.TV (JP (by decide +kernel) (by simp) (by decide) F2) F2.bd ok7;have r3:=HP.TV (JP (by decide +kernel) (by simp) (by decide) F3) F3.bd ok7;rw[abw] at r2;rw[abx] at r3;have x1:=Yt 1 (Rat.divInt 3 2) (by decide +kernel) (by decide +kernel) (by decide +kernel) (by decide +kernel) (by decide +kernel) (by rw[t1];decide) (by rw[t32];decide);rw[t1,t32] at x1;have x2:=Y7.vh (Rat.divInt 3 2) (by decide +kernel) (by decide +kernel);rw[t32] at x2;have sm:=M0 [-1, -2,1] (by decide) (by decide +kernel);exact oW.e2 _ _ _ _ _ _ _ a2 a3 (-1) (qG 1 (Rat.divInt 3 2)) (aI (Rat.divInt 3 2)) _ _ _ _ h2 r2 h3 r3 g1 g2 abA rfl rfl rfl rfl Yx Yy Yz rfl x1 (by decide +kernel) x2 rfl g3 sm
end JW
namespace JW
theorem abB(t:aA)(x:List ag):∃b,Cp 5 [t.pv,ae x] (vB b)∧(b=true→(t.roots.length≤2∨5<t.roots.length)∧(∀d∈t.roots,d.length≤6∧∀a∈d,Lo a)∧x.length≤6∧∀a∈x,Lo a):=by
 by_cases h8:8<t.roots.length
 ·exact⟨false,cz.e1 t x (by omega) (by omega) (by omega),fun h=>by cases h⟩
 have loop:∀d s:Nat,t.roots.length-s=d→∃b,cz.ah t s (vB b)∧(b=true→∀d∈t.roots.drop s,d.length≤6∧∀a∈d,Lo a):=by
  intro d
  induction d with
  |zero=>intro s hd;exact⟨true,cz.jT t s (by omega),fun _=>by rw[afV (by omega)];intro a ha;cases ha⟩
  |succ d ih =>
   intro s hd;obtain⟨v,hv⟩:∃v,t.roots[s]? = some v:=⟨_,afp (by omega)⟩;obtain⟨b1,h1,h2⟩:=short v;cases b1 with
   |false=>exact⟨false,cz.l10 t s v _ (by omega) hv h1 rfl,fun h=>by cases h⟩
   |true =>
    obtain⟨b,g1,g2⟩:=ih (s+1) (by omega);refine⟨b,cz.cB t s v _ (by omega) hv h1 rfl (by omega) g1,fun h a ha => ?_⟩;rw[drop_cons hv] at ha;rcases afY.1 ha with rfl|ha
    ·exact h2 rfl
    ·exact g2 h a ha
 obtain⟨b,l1,l2⟩:=loop _ 0 rfl;rw[agB] at l2;obtain⟨c,s1,s2⟩:=short x;by_cases h2:t.roots.length≤2
 ·cases c with
  |false=>exact⟨false,cz.e5 t x _ h2 (by omega) s1 rfl,fun h=>by cases h⟩
  |true=>exact⟨b,cz.e6 t x _ h2 (by omega) s1 rfl l1,fun h=>⟨.inl h2,l2 h,s2 rfl⟩⟩
 ·by_cases h5:t.roots.length≤5
  ·exact⟨false,cz.e0 t x (by omega) h5,fun h=>by cases h⟩
  ·cases c with
   |false=>exact⟨false,cz.e2 t x _ (by omega) (by omega) (by omega) s1 rfl,fun h=>by cases h⟩
   |true=>exact⟨b,cz.e3 t x _ (by omega) (by omega) (by omega) s1 rfl l1,fun h=>⟨.inr (by omega),l2 h,s2 rfl⟩⟩
theorem Ue(q:Rat)(h:ht q≤68719476736):Cp 97 [(aI q).pv,(aI q).pv] (vB true):=by have f:=bF h;have:=XT.Rat (aI q) (aI q) (by omega) (by omega);rw[I7] at this;exact pX.e0 _ _ _ this
theorem Uf(f:List Rat)(a b:Rat)(hl:f.length≤1000)(hf:Fl 68719476736 f)(h1:ht a≤68719476736)(h2:ht b≤68719476736):Cp 13 [(jU f a b).pv,(jU f a b).pv] (vB true) :=
 qm.e0 (jU f a b) (jU f a b) _ _ (M0 f hl hf) rfl (qf.e0 (qG a b) (qG a b) _ _ (Ue a h1) rfl (Ue b h2))
theorem BH(t:aA)(x:List ag){B C:Prop}(_:B)(_:C):Cp 3 [t.pv,ae x] (vB true):=by
 obtain⟨b,h1,h2⟩:=abB t x;cases b with
 |false=>exact dR.e0 t x _ _ h1 rfl Lq
 |true =>
  obtain⟨g1,g2,g3,g4⟩:=h2 rfl;rcases JM g1 g2 g3 g4 with ⟨c,c0,c1,c2⟩|⟨T,G,ex,lq,D,D0,D1,dn⟩
  ·rw[qp c0] at c1;have lf:=xl.e1 t x c c1;have m1:=mU.e1 t x _ c lf;have n1:=da.e2 t x _ c m1;have ng:=mT.e0 t x c c2 c0;have m2:=aZ.e0 t x _ c ng c0;have n2:=cu.e0 t x _ c m2 c0;have nm:=XT.Num (some c);have sm:=M0 [] (by simp) (fun y hy=>by cases hy);have sa:=Uf [] 0 0 (by simp) (fun y hy=>by cases hy) (by decide) (by decide);exact dR.e2 t x _ _ [] (some c) _ (some c) [] c _ c c _ c _ h1 rfl Lq rfl m1 n1 m2 n2 nm rfl sm rfl nm rfl sa
  ·obtain⟨A,B,sm⟩:=G.sm;obtain⟨K⟩:=G.rts;have En:=Dn.hq D0 D1 dn;obtain⟨m1,m2⟩:=G.Wo lq En;obtain⟨r,r1,_,n1,n2⟩:=G.abv K lq D0 D1 dn;obtain⟨v1,v2,_⟩:=HC (toQ T (bV x));obtain⟨f,bd⟩:=MW sm D0 D1 dn v2 v1;obtain⟨t1,t2⟩:=F6 f bd r r1;unfold pq at m1 m2 n1 n2;rw[←ex] at m1 m2 n1 n2;have nm:=XT.Num none;have hl:=f.len;have s1:=M0 (lZ (toQ T (bV x)) (rZ (toQ T (bV x)))) (by omega) (cb f.SK (by omega));have s2:=Uf (bj (lZ (toQ T (bV x)) (rZ (toQ T (bV x))))) r.1 r.2 (by have:=f.qv;omega) (cb f.yW (by omega)) (by omega) (by omega);exact dR.e2 t x _ _ _ none _ none _ 0 _ 0 0 _ 0 _ h1 rfl Lq rfl m1 n1 m2 n2 nm rfl s1 rfl nm rfl s2
end JW
end Go.Proofs.YtcpnocgollpbhaaGreatDoor.Sym
