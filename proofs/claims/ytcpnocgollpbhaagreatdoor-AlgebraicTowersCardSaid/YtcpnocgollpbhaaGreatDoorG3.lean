/- Lemmas for the statements of this seat. -/
import Derived.Test.YtcpnocgollpbhaaGreatDoorG2
import Derived.Test.YtcpnocgollpbhaaGreatDoorP2
namespace Go.Proofs.YtcpnocgollpbhaaGreatDoor.Sym
open Go Path cV
set_option linter.unusedVariables false
theorem Qp{f:List Rat}(hz:aS f=false)(hf:f≠[])(hc:vM f (ax f)){u v ε:Rat}(px:u≤v){s:Int}(hs:s=1∨s = -1)(hε:0<ε)(hb:TP ε u v (ax f) s) :
  gi (chainF f.length f (ax f)) u+(if sg (evalL f v) = -s then 1 else 0)=gi (chainF f.length f (ax f)) v+(if sg (evalL f u) = -s then 1 else 0):=by
 obtain⟨R,hR,hu,hv⟩:=B6 (a:=u) (b:=v);have h2:ax f≠[]:=by
  intro e;have:=(hb u afR px).1;rw[e] at this;have e0:sg (evalL [] u)=0:=by show sg (0:Rat)=0;decide
  rw[e0] at this;omega
 obtain⟨δ,ε0,hδ,aei,hl⟩:=tC hz h2 hf hc hR;have hS:=nT hR f;have hd:=oz hε (show 0<sec f R+1 by grind);have pE:=afT (a:=ε) (b:=sec f R+1) (by grind);generalize ε/(sec f R+1)=δ2 at hd pE;have OU:0<EO δ δ2:=by unfold EO;split<;>assumption
 have m1:=Am δ δ2;have m2:=An δ δ2;refine Hb (P:=fun u v=>gi (chainF f.length f (ax f)) u+(if sg (evalL f v) = -s then 1 else 0)=gi (chainF f.length f (ax f)) v+(if sg (evalL f u) = -s then 1 else 0)) OU px ?_ ?_
 ·intro x y h1 VP h3 hw;have hx:=fF (x:=x) h1 (by grind) hu hv;have hy:=fF (x:=y) (by grind) h3 hu hv;have fG:TP ε x y (ax f) s:=fun z z1 z2=>hb z (by grind) (by grind)
  rcases hl x y hx hy VP (by grind) with ⟨⟨t,ht,hB⟩,e⟩|⟨t,ht,hm,e⟩
  ·show _+_=_+_;rw[(hB x afR VP).1,(hB y VP afR).1,e]
  ·show _+_=_+_;by_cases exy:x=y
   ·rw[exy]
   ·have dI:x<y:=by grind
    have k1:=hm x y afR dI afR;have w3:=afN (show y-x≤δ2 by grind) hS;have k2:=Mq (δ:=0) hx hy hs fG hε (show sec f R*(y-x)<ε by grind) x y afR dI afR;have est:t=s:=by rcases hs with rfl|rfl<;>rcases ht with rfl|rfl<;>first|rfl|(exfalso;rw[show ((1:Int):Rat)=1 from rfl,show((-1:Int):Rat) = -1 from rfl] at *;grind)
    rw[est] at e;exact e
 ·intro x y z _ _ _ _ e1 e2;have e1:_+_=_+_:=e1;have e2:_+_=_+_:=e2;show _+_=_+_;omega
theorem sep{f U V:List Rat}{R u v ε:Rat}(hz:aS f=false)(hf:f≠[])(hc:vM f (ax f))(hu:ab u≤R)(hv:ab v≤R)(px:u≤v)(hU:∀x,evalL U x*evalL f x+evalL V x*evalL (ax f) x=1)(hε:0<ε)(h1:(nrm U R+nrm V R)*(2*ε)<1)(HF:lip f R*(v-u)≤ε)(F9:lip (ax f) R*(v-u)≤ε) :
  gi (chainF f.length f (ax f)) u-gi (chainF f.length f (ax f)) v≤1∧(evalL f u=0→gi (chainF f.length f (ax f)) u-gi (chainF f.length f (ax f)) v≤0):=by
 rcases nh f hu hv px afR hε HF with ⟨s,hs,hb⟩|Ng
 ·have hw:xz f u v:=⟨ε,hε,fun x a b=>(hb x a b).2⟩;have:=Qm hz hf hc px hw;exact⟨by omega,fun _=>by omega⟩
 ·rcases nh (ax f) hu hv px afR hε F9 with ⟨s,hs,hb⟩|VV
  ·have e:=Qp hz hf hc px hs hε hb;constructor
   ·split at e<;>split at e<;>omega
   ·intro h0;have hz0:sg (evalL f u) ≠ -s:=by rw[h0];rcases hs with rfl|rfl<;>decide
    rw[afG hz0] at e;split at e<;>omega
  ·exfalso;have a1:=vP hu U;have a2:=vP hu V;have a3:=Ng u afR px;have a4:=VV u afR px;have a5:=tA (evalL U u*evalL f u) (evalL V u*evalL (ax f) u);rw[hU u,nd,nd] at a5;have hR:=agv (cG u) hu;have b1:=fe a1 (ag8 a3) (cG _) (by grind);have b2:=fe a2 (ag8 a4) (cG _) (by grind);have e1:ab (1:Rat)=1:=by decide +kernel
   rw[e1] at a5;grind
def twP(n:Nat):Rat:=(((2^n:Nat):Int):Rat)
theorem rD(m n:Nat):twP (m+n)=twP m*twP n:=by unfold twP;rw[ahq,agf,ag2]
theorem eb{m n:Nat}(h:m≤n):twP m≤twP n:=agu.2 (by have:=afH (n:=2) (by omega) h;omega)
theorem yO:twP 0=1:=rfl
theorem Qq(n:Nat):1≤twP n:=by rw[←yO];exact eb (ag0 _)
theorem nj(n:Nat):0<twP n:=by have:=Qq n;grind
theorem oA(n:Nat):twP (n+1)=twP n+twP n:=by rw[rD];have:twP 1=2:=rfl;rw[this];grind
theorem XY(x:Rat):x*((x.den:Int):Rat)=(x.num:Rat):=by
 have h:(x.num:Rat)/((x.den:Int):Rat)=x:=by rw[←agi,ahs]
 have hd:((x.den:Int):Rat)≠0:=rC (by have:=x.den_pos;omega);have:=afT (a:=(x.num:Rat)) hd;rwa[h] at this
theorem Qr(n:Int):ab (n:Rat)=((n.natAbs:Int):Rat):=by
 rcases bC (n:Rat) with ⟨h1,h2⟩|⟨h1,h2⟩
 ·have:0≤n:=agu.1 h1;rw[h2];congr 1;omega
 ·have:n<0:=aiF.1 h1;rw[h2,←agX];congr 1;omega
theorem NP(k:Nat):4294967296^k=2^(32*k):=by rw[ajq]
theorem VX(n:Int){k:Nat}(h:wl n≤k):ab (n:Rat)≤twP (32*k):=by rw[Qr];have h1:=IU n;have h2:4294967296^wl n≤4294967296^k:=afH (by omega) h;rw[NP k] at h2;unfold twP;exact agu.2 (by omega)
theorem Qs(x:Rat):(1:Rat)≤((x.den:Int):Rat):=by have:=x.den_pos;exact agu.2 (show (1:Int)≤_ by omega)
theorem Qt(x:Rat):ab x≤twP (32*ht x):=by
 have h:=XY x;have h1:=VX x.num (eJ x);have h2:=Qs x;rw[←h,nd,Qr] at h1;have e:(((x.den:Int).natAbs:Int):Rat)=((x.den:Int):Rat):=by congr 1
 rw[e] at h1;have:=afN h2 (cG x);grind
theorem Hd{R:Rat}(hR:0≤R):∀p q:List Rat,nrm (db p q) R≤nrm p R+nrm q R
 |[],q=>by rw[db,nrm];grind
 |a::p,[]=>by rw[db];show _≤_+0;grind
 |a::p,b::q=>by have:=afF (Hd hR p q) hR;have h2:=tA a b;rw[db,nrm,nrm,nrm];grind
theorem DW(c R:Rat):∀p:List Rat,nrm (br c p) R=ab c*nrm p R
 |[]=>by show(0:Rat)=_*0;grind
 |a::p=>by show nrm (br c p) R*R+ab (c*a)=_;rw[DW c R p,nd,nrm];grind
theorem Mt{R:Rat}(hR:0≤R)(q:List Rat):∀p:List Rat,nrm (mulL p q) R≤nrm p R*nrm q R
 |[]=>by show(0:Rat)≤0*_;grind
 |a::p=>by rw[mulL];have h1:=Hd hR (br a q) (0::mulL p q);rw[DW] at h1;have h2:nrm (0::mulL p q) R=nrm (mulL p q) R*R+ab 0:=rfl;have h3:=afF (Mt hR q p) hR;rw[h2,tB] at h1;rw[nrm];grind
theorem K7{R:Rat}{r c:Nat}(hR:0≤R)(hr:R≤twP r):∀p:List Rat,(∀x∈p,ab x≤twP c)→nrm p R≤twP (c+(r+1)*p.length)
 |[],_=>ag8 (nj _)
 |a::p,h=>by have ih:=K7 hR hr p (fun x hx=>h x (ag9 _ hx));have ha:=h a (agA ..);have h1:=fe ih hr (qt hR p) (ag8 (nj r));rw[←rD] at h1;have h2:=eb (show c≤c+(r+1)*p.length+r by omega);rw[nrm,afX,show c+(r+1)*(p.length+1)=c+(r+1)*p.length+r+1 from by rw[afU];omega,oA];grind
theorem K8{R:Rat}{r c:Nat}(hR:0≤R)(hr:R≤twP r):∀p:List Rat,(∀x∈p,ab x≤twP c)→lip p R≤twP (c+(r+2)*p.length)
 |[],_=>ag8 (nj _)
 |a::p,h=>by
  have hp:=fun x hx=>h x (ag9 a hx)
  have ih:=K8 hR hr p hp;have hn:=K7 hR hr p hp;have h1:=fe ih hr (iA hR p) (ag8 (nj r));rw[←rD] at h1;have e1:(r+2)*p.length=(r+1)*p.length+p.length:=by rw[show r+2=r+1+1 from rfl,age (r+1) 1];omega
  have h2:=eb (show c+(r+1)*p.length≤c+(r+2)*p.length+r by omega);have h3:=eb (show c+(r+2)*p.length+r+1≤c+(r+2)*(p.length+1) by rw[afU];omega);rw[oA] at h3;rw[lip,afX];grind
theorem Qu{h:Nat}{p:List Rat}(hp:Fl h p):∀x∈p,ab x≤twP (32*h):=fun x hx=>agv (Qt x) (eb (by have:=hp x hx;omega))
theorem TQ{a b N r:Nat}{R:Rat}(ha:1≤a)(fQ:a≤b)(hR:0≤R)(hr:R≤twP r)(hs:(r+1)*(N+2)+1≤64*a):∀(n i j:Nat) (p d:List Rat),B7 a b N i j p d→d≠[]→vM p d→d.length<n+1 →
  ∃U V:List Rat,(∀x,evalL U x*evalL p x+evalL V x*evalL d x=1)∧nrm U R≤twP (32*(4*xB a b (N-1)-3*xB a b j))∧nrm V R≤twP (32*(4*xB a b (N-1)-3*xB a b j))
 |0,i,j,p,d,_,h0,_,hl=>absurd (afr (by omega)) h0
 |n+1,i,j,p,d,e,h0,hc,hl=>by
  have TR:=e.bound;have hlen:=e.len;have vj:=afC.2 h0;have AO:=e.lt;have x1:∀j,1≤xB a b j:=fun j=>afJ ha (dK a b fQ (i:=0) (ag0 _))
  have hjN:=dK a b fQ (i:=j) (j:=N-1) (by omega);by_cases R0:aP (br (-1) (b8 p d))=[]
  ·obtain⟨c,rfl,Fy⟩:=Jl e.zq h0 hc R0;refine⟨[],[1/c],fun x => ?_,ag8 (nj _),?_⟩
   ·rw[gK,gK,afT Fy];show 0*_+1=1;grind
   ·have e1:nrm [1/c] R=ab (1/c):=by show 0*R+_=_;grind
    have hh:=tv 1 c;have SD:=e.hq.fl (x1 j) c (by simp);have hi:=P4 c;have ZB:1/c=c⁻¹:=by rw[agW,ahl]
    rw[e1];refine agv (Qt _) (eb ?_);rw[ZB];omega
  ·obtain⟨r1,r2⟩:=e.rest fQ h0;have XV:=jA (p:=p) e.zq h0;have xP:=afC.2 R0;have UH:Ch (xB a b (j+(p.length-d.length))) (aP (br (-1) (b8 p d))):=by
    refine Ch.trim ?_;obtain⟨D,d1,d2,d3⟩:=r1;refine⟨D,d1,d2,fun i => ?_⟩;obtain⟨m,m1,m2⟩:=d3 i;refine⟨-m,?_,by rw[gn];exact m2⟩;rw[dD,agX,←m1];grind
   obtain⟨U,V,XZ,hnU,Y3⟩:=TQ ha fQ hR hr hs n j _ d _ (e.next fQ h0 UH XV (bH _)) R0 (Jk e.zq h0 hc) (by omega);have hq:=Mr e.hp e.hq (x1 i) (x1 j) e.zq h0;have E6:=Jq (p:=p) e.zq h0;obtain⟨j',rfl⟩:∃j',j=j'+1:=⟨j-1,by omega⟩;obtain⟨δ,hδ⟩:∃δ,p.length-d.length=δ+1:=⟨p.length-d.length-1,by omega⟩;have hg:=u5 a b fQ j' δ;have hi:=dK a b fQ (i:=i) (j:=j') (by omega);have Y0:=dK a b fQ (i:=0) (j:=j') (by omega);have e00:xB a b 0=a:=rfl;rw[hδ] at hnU Y3;have hgN:=dK a b fQ (i:=j'+1+(δ+1)) (j:=N-1) (by omega);have vo:xB a b i+(p.length+1-d.length)*(xB a b (j'+1)+1)+xB a b (j'+1)≤xB a b (j'+1+(δ+1))+xB a b (j'+1):=by rw[show p.length+1-d.length=δ+2 from by omega];omega
   have ZN:=K7 hR hr _ (Qu (cb hq vo));have hqm:(r+1)*(dP p d).1.length≤(r+1)*(N+2):=afO _ (by omega);have two:2*(xB a b (j'+1)+1)≤(δ+2)*(xB a b (j'+1)+1):=afw _ (by omega);have X0:=agv ZN (eb (show _≤32*(xB a b (j'+1+(δ+1))+xB a b (j'+1))+((r+1)*(N+2)) by omega));generalize hS:32*(4*xB a b (N-1)-3*xB a b (j'+1+(δ+1)))=S at hnU Y3;generalize hQ:32*(xB a b (j'+1+(δ+1))+xB a b (j'+1))+((r+1)*(N+2))=Q at X0;have hT:S+Q+1≤32*(4*xB a b (N-1)-3*xB a b (j'+1)):=by omega
   refine⟨br (-1) V,db U (mulL V (dP p d).1),fun x => ?_,?_,?_⟩
   ·have k1:=XZ x;have k2:=nZ (p:=p) e.zq h0 x;rw[bh,bO,aN];have k3:evalL (aP (br (-1) (b8 p d))) x=evalL (dP p d).1 x*evalL d x-evalL p x:=by grind
    rw[k3] at k1;grind
   ·rw[DW,show ab (-1:Rat)=1 from by decide +kernel,ahl];exact agv Y3 (eb (by omega))
   ·have m1:=Hd hR U (mulL V (dP p d).1);have m2:=Mt hR (dP p d).1 V;have m3:=fe Y3 X0 (qt hR V) (ag8 (nj _));rw[←rD] at m3;have m4:=eb (show S≤S+Q by omega);have m5:=eb hT;rw[oA] at m5;grind
theorem NQ{f:List Rat}{a N r m:Nat}{R u v:Rat}(ha:1≤a)(e:B7 a (a+1) N 0 1 f (ax f))(hf:f≠[])(hc:vM f (ax f))(hR:0≤R)(hr:R≤twP r)(hs:(r+1)*(N+2)+1≤64*a)(hu:ab u≤R)(hv:ab v≤R)(px:u≤v)
  (hm:32*(4*xB a (a+1) (N-1))+32*(a+1)+(r+2)*f.length+3≤m) (hw:(v-u)*twP m≤1) :
  gi (chainF f.length f (ax f)) u-gi (chainF f.length f (ax f)) v≤1∧(evalL f u=0→gi (chainF f.length f (ax f)) u-gi (chainF f.length f (ax f)) v≤0):=by
 by_cases h2:ax f=[]
 ·rw[me h2,me h2];exact⟨by omega,fun _=>by omega⟩
 ·obtain⟨U,V,XZ,hU,hV⟩:=TQ ha (agT a) hR hr hs f.length 0 1 f (ax f) e h2 hc (by have:=e.len;omega);generalize hS:32*(4*xB a (a+1) (N-1)-3*xB a (a+1) 1)=S at hU hV;have hS2:S≤32*(4*xB a (a+1) (N-1)):=by omega
  generalize 32*(4*xB a (a+1) (N-1))=S2 at hm hS2;have e0:xB a (a+1) 0=a:=rfl;have e1:xB a (a+1) 1=a+1:=rfl;have l1:=K8 hR hr f (Qu (cb (e.hp.fl (by rw[e0];exact ha)) (show xB a (a+1) 0≤a+1 by rw[e0];omega)));have l2:=K8 hR hr (ax f) (Qu (e.hq.fl (by rw[e1];omega)));rw[e1] at l2;have hlen:(r+2)*(ax f).length≤(r+2)*f.length:=afO _ (by have:=e.len;omega);have l2':=agv l2 (eb (show 32*(a+1)+(r+2)*(ax f).length≤32*(a+1)+(r+2)*f.length by omega));generalize hL:32*(a+1)+(r+2)*f.length=L at l1 l2';have hp:=nj (S+3);have hε:=oz (show (0:Rat)<1 by decide) hp;have Sy:=afT (a:=1) (b:=twP (S+3)) (by grind);generalize 1/twP (S+3)=ε at hε Sy;have t1:twP (S+3)=8*twP S:=by rw[rD,show twP 3=8 from rfl];grind
  have Rl:0≤v-u:=by grind
  have key:∀l:Rat,0≤l→l≤twP L→l*(v-u)≤ε:=by
   intro l h0 hl;have k1:=afF hl Rl;have k2:=afN (eb (show L+(S+3)≤m by omega)) Rl;rw[rD] at k2;have k3:twP L*(v-u)*twP (S+3)≤1:=by grind
   refine Rat.not_lt.1 fun dI => ?_
   have k4:ε<twP L*(v-u):=by grind
   have k5:=Rat.mul_lt_mul_of_pos_right k4 hp;grind
  refine sep (U:=U) (V:=V) (ε:=ε) e.zp hf hc hu hv px XZ hε ?_ (key _ (iA hR _) l1) (key _ (iA hR _) l2');have k6:=afF (show nrm U R+nrm V R≤twP S+twP S by grind) (show 0≤2*ε by grind);rw[t1] at Sy;have hpS:=ai6 hε (nj S);grind
end Go.Proofs.YtcpnocgollpbhaaGreatDoor.Sym
namespace Go.Proofs.YtcpnocgollpbhaaGreatDoor.Sym
set_option linter.unusedVariables false
set_option linter.unusedSectionVars false
theorem Qv{a b δ:Rat}(ha:0<a)(hb:0≤b)(hδ:0<δ):∃t,0<t∧t≤δ∧t*b<a:=by
 have sE:0<b+1:=by grind
 have hq:=oz ha sE;have hm:a/(b+1)*(b+1)=a:=by rw[agW,aja,Rat.inv_mul_cancel _ (by grind),ajs]
 have key:∀t,0<t→t≤a/(b+1)→t*b<a:=fun t h1 h2=>by have h3:=afF h2 (ag8 sE);rw[hm] at h3;grind
 by_cases h:a/(b+1)≤δ
 ·exact⟨_,hq,h,key _ hq afR⟩
 ·exact⟨δ,hδ,afR,key δ hδ (by grind)⟩
theorem NR{f:List Rat}(hc:vM f (ax f)){x δ:Rat}(hx:evalL f x=0)(hδ:0<δ)(s:Rat)(hs:s=1∨s = -1):∃t,0<t∧t≤δ∧evalL f (x+s*t)≠0:=by
 obtain⟨U,V,XZ⟩:=hc;have h1:=XZ x;rw[hx,cX] at h1;have hd:dEv f x≠0:=fun e=>by rw[e] at h1;grind
 have hR:0≤ab x+δ:=by have:=cG x;grind
 obtain⟨t,t1,t2,t3⟩:=Qv (Ap hd) (nT hR f) hδ;refine⟨t,t1,t2,fun e => ?_⟩;have ht:=K4 x (x+s*t) f;rw[e,hx] at ht;have aO:ab (s*t)=t:=by
  rw[nd];rcases hs with rfl|rfl
  ·rcases bC t with k|k<;>rcases bC (1:Rat) with m|m<;>grind
  ·rcases bC t with k|k<;>rcases bC (-1:Rat) with m|m<;>grind
 have hx1:ab x≤ab x+δ:=by grind
 have Z8:ab (x+s*t)≤ab x+δ:=by have:=tA x (s*t);grind
 have hb:=K5 hx1 Z8 f;have e1:s*t*(dEv f x+s*t*Mo x (x+s*t) f)=0:=by
  have:x+s*t-x=s*t:=by grind
  rw[this] at ht;grind
 have aaX:s*t≠0:=fun e=>by rw[e,tB] at aO;grind
 rcases agG.1 e1 with e2|e2
 ·exact aaX e2
 ·have e3:dEv f x = -(s*t*Mo x (x+s*t) f):=by grind
  have e4:ab (dEv f x)=t*ab (Mo x (x+s*t) f):=by rw[e3,Aq,nd,aO]
  have e5:=afN hb (ag8 t1);grind
def Jr(f:List Rat)(lo hi x:Rat):Int:=if lo=hi then ig lo x else if x≤lo then 1 else if hi≤x then -1 else sg (evalL f x)*sg (evalL f lo)
theorem Js{p q:Rat}(h:p<q):ig p q = -1:=by unfold ig;rw[afI h]
theorem yP{p q:Rat}(h:q<p):ig p q=1:=by unfold ig;rw[afG (by grind),afG (by grind)]
theorem K9(p:Rat):ig p p=0:=gM.2 rfl
theorem DX(p q:Rat):(p<q∧ig p q = -1)∨(p=q∧ig p q=0)∨(q<p∧ig p q=1):=by
 by_cases h1:p<q
 ·exact Or.inl ⟨h1,Js h1⟩
 ·by_cases h2:q<p
  ·exact Or.inr (Or.inr ⟨h2,yP h2⟩)
  ·have:p=q:=by grind
   subst this;exact Or.inr (Or.inl ⟨rfl,K9 _⟩)
def yQ(lo hi:Rat):Rat:=Rat.divInt 1 2*(lo+hi)
def Jt(f:List Rat)(lo hi:Rat):Rat×Rat :=
 if lo=hi then (lo,hi) else if Jr f lo hi (yQ lo hi)=0 then (yQ lo hi,yQ lo hi) else if Jr f lo hi (yQ lo hi)=1 then (yQ lo hi,hi) else (lo,yQ lo hi)
open cV Go Path
abbrev pq(q:List Rat):PV:=ae (q.map aI)
theorem getM{q:List Rat}{n:Nat}{v:Rat}(h:q[n]? = some v):(q.map aI)[n]? = some (aI v):=by rw[afu,h];rfl
theorem bx(q:List Rat):(q.map aI).length=q.length:=afq ..
theorem xA{k:Nat}{q:List Rat}(h:Fl k q)(hk:k≤68719476736):mX 274877906944 (q.map aI):=G4 (cb h (by omega))
def DY(p q:List ag):Int:=if tX p=0 then tX q else tX p
theorem yR{m t:Nat}{f g:Nat→Rat}{v:Rat}(ht:t<m)(hv:f t=v)(ho:∀i,i≠t→f i=g i):((lI m g).map aI).set t (aI v)=(lI m f).map aI:=by
 rw[←List.map_set,Qc g v ht]
 congr 1
 refine KY (fun i _ => ?_);split
 ·rename_i e;rw[e,hv]
 ·rename_i e;exact(ho i e).symm
namespace BC
theorem Trim{k:Nat}(q:List Rat)(hl:q.length≤1000000)(hf:Fl k q)(hk:k≤68719476736):Cp 82 [pq q] (pq (aP q)):=by have:=JV.Trim (q.map aI) (by rw[bx];omega) (xA hf hk);rwa[gI] at this
theorem Bf(p:List Rat)(t:Nat):Cp 225 [pq p,vI (t:Int)] (aI (coef p t)).pv:=by
 by_cases h:t<p.length
 ·exact nL.e0 _ _ t _ (by rw[bx];omega) rfl (getM (ox h))
 ·rw[cW (by omega)];exact nL.e1 _ _ (by rw[bx];omega)
theorem plus{a b d:Nat}(p q:List Rat)(c:Rat)(hlp:p.length≤100000)(hlq:q.length≤100000)(hp:Fl a p)(hq:Fl b q)(hc:ht c≤d)(ha:1≤a)(hb:1≤b)(hk:a+b+d+1≤68719476736):Cp 187 [pq p,pq q,(aI c).pv] (pq (aP (db p (br c q)))):=by
 have DZ:∀i,ht (coef p i)≤a∧ht (coef q i)≤b:=fun i=>⟨vJ hp ha i,vJ hq hb i⟩
 have zM:max (p.map aI).length (q.map aI).length=max p.length q.length:=by rw[bx,bx]
 have loop:∀(j t:Nat),max p.length q.length-t=j→sr.ah (p.map aI) (q.map aI) t (aI c) ((lI (max p.length q.length) (fun i=>if i<t then coef p i+c*coef q i else 0)).map aI) (pq (aP (db p (br c q)))):=by
  intro j
  induction j with
  |zero =>
   intro t hj;have e:aP (db p (br c q))=aP (lI (max p.length q.length) (fun i=>if i<t then coef p i+c*coef q i else 0)):=by
    refine kM (fun i => ?_);rw[gx,dD];by_cases hi:i<max p.length q.length
    ·rw[mY (ij _ hi),afI (by omega)]
    ·rw[cW (p:=lI _ _) (by rw[c9];omega),cW (p:=p) (by omega),cW (p:=q) (by omega)];grind
   rw[e];refine sr.cB _ _ t _ _ _ (by omega) (by rw[zM,bx,c9]) (Trim (k:=a+b+d+1) _ (by rw[c9];omega) (lX (fun i => ?_)) hk);obtain⟨c1,c2⟩:=DZ i;have h1:=nS c (coef q i);have h2:=tu (coef p i) (c*coef q i);have h0:=j9;by_cases hi:i<max p.length q.length
   ·rw[mY (ij _ hi),afI (by omega)];omega
   ·rw[cW (p:=lI _ _) (by rw[c9];omega),h0];omega
  |succ j ih =>
   intro t hj;obtain⟨c1,c2⟩:=DZ t;have h1:=nS c (coef q t);refine sr.l10 _ _ t _ _ _ _ _ _ (by omega) (Bf p t) (Bf q t) (QF.Mul c (coef q t) (by omega) (by omega)) (QF.Add (coef p t) (c*coef q t) (by omega) (by omega)) (by rw[bx,c9];omega) (by omega) ?_;rw[yR (f:=fun i=>if i<t+1 then coef p i+c*coef q i else 0) (by omega) (afI (by omega)) (fun i hi=>by
    by_cases h:i<t
    ·rw[afI h,afI (by omega)]
    ·rw[afG h,afG (by omega)])]
   exact ih (t+1) (by omega)
 have:=loop _ 0 rfl;refine sr.e0 _ _ _ (by omega) ?_;rw[zM,FJ];exact this
theorem Mu(p q:List ag)(hp:mX 274877906944 p)(hq:mX 274877906944 q):Cp 174 [bB (bp ag.cells) [p,q]] (bW (yJ (DY p q))):=by
 have h1:=JV.Check p hp;have h2:=JV.Check q hq;refine km.e0 [p,q] ?_;unfold DY;by_cases e:tX p=0
 ·rw[afI e];rw[e] at h1;refine km.l10 _ 0 p (by simp) rfl h1 (by omega) ?_;by_cases e2:tX q=0
  ·rw[e2] at h2 ⊢;exact km.l10 _ 1 q (by simp) rfl h2 (by omega) (km.jT _ 2 (by simp))
  ·rw[qp e2] at h2 ⊢;exact km.cB _ 1 q _ (by simp) rfl h2
 ·rw[afG e];rw[qp e] at h1 ⊢;exact km.cB _ 0 p _ (by simp) rfl h1
end BC
namespace La
theorem Trim{k:Nat}(q:List Rat)(hl:q.length≤1000000)(hf:Fl k q)(hk:k≤68719476736):Cp 42 [pq q] (pq (aP q)):=by have:=Qa.Trim (q.map aI) (by rw[bx];omega) (xA hf hk);rwa[gI] at this
theorem plus{a b d:Nat}(p q:List Rat)(c:Rat)(s:Nat)(hlp:p.length≤100000)(hlq:q.length+s≤100000)(hp:Fl a p)(hq:Fl b q)(hc:ht c≤d)(ha:1≤a)(hb:1≤b)(hk:a+b+d+1≤68719476736):Cp 213 [pq p,pq q,(aI c).pv,vI (s:Int)] (pq (aP (db p (fD s (br c q))))):=by
 have DZ:∀i,ht (coef p i)≤a∧ht (coef q i)≤b:=fun i=>⟨vJ hp ha i,vJ hq hb i⟩
 have bd:∀i j,ht (coef p i+c*coef q j)≤a+b+d+1:=by intro i j;have c1:=(DZ i).1;have c2:=(DZ j).2;have h1:=nS c (coef q j);have h2:=tu (coef p i) (c*coef q j);omega
 have loop:∀(j t:Nat),q.length-t=j→t≤q.length→gE.ah (s:Int) (max p.length (q.length+s)) (q.map aI) t (aI c) ((lI (max p.length (q.length+s)) (fun i=>if s≤i∧i<s+t then coef p i+c*coef q (i-s) else coef p i)).map aI) (pq (aP (db p (fD s (br c q))))):=by
  intro j
  induction j with
  |zero =>
   intro t hj ht;have e:aP (db p (fD s (br c q)))=aP (lI (max p.length (q.length+s)) (fun i=>if s≤i∧i<s+t then coef p i+c*coef q (i-s) else coef p i)):=by
    refine kM (fun i => ?_);rw[gx,kr,dD];by_cases hi:i<max p.length (q.length+s)
    ·rw[mY (ij _ hi)];by_cases h1:i<s
     ·rw[afI h1,afG (by omega),agS]
     ·rw[afG h1];by_cases h2:i<s+t
      ·rw[afI (by omega)]
      ·rw[afG (by omega),cW (p:=q) (by omega),ahE,agS]
    ·rw[cW (p:=lI _ _) (by rw[c9];omega),cW (p:=p) (by omega),afG (by omega),cW (p:=q) (by omega)];grind
   rw[e];refine gE.cB _ _ _ t _ _ _ (by rw[bx];omega) (by rw[bx,c9]) (Trim (k:=a+b+d+1) _ (by rw[c9];omega) (lX (fun i => ?_)) hk);have h0:=j9;by_cases hi:i<max p.length (q.length+s)
   ·rw[mY (ij _ hi)];split
    ·exact bd _ _
    ·have:=(DZ i).1;omega
   ·rw[cW (p:=lI _ _) (by rw[c9];omega),h0];omega
  |succ j ih =>
   intro t hj ht;obtain⟨w,hw⟩:∃w,q[t]? = some w:=⟨_,afp (by omega)⟩;have hwh:=hq w (afx hw);have c1:=(DZ (t+s)).1;have h1:=nS c w;have hg:t+s<max p.length (q.length+s):=by omega
   refine gE.l10 _ _ _ t _ _ (aI w) (t+s) (aI (coef p (t+s))) _ _ (t+s) (by rw[bx];omega) (getM hw) (by unfold ay;omega) (by omega) hg ?_ (QR.Mul c w (by omega) (by omega)) (QR.Add (coef p (t+s)) (c*w) (by omega) (by omega)) (by omega) hg (by rw[bx,c9];omega) (by omega) ?_
   ·rw[getM (ij _ hg),afG (by omega)]
   ·rw[yR (f:=fun i=>if s≤i∧i<s+(t+1) then coef p i+c*coef q (i-s) else coef p i) hg (by
     rw[afI (by omega),show t+s-s=t from by omega,mY hw]) (fun i hi=>by
     by_cases h:s≤i∧i<s+t
     ·rw[afI h,afI (by omega)]
     ·rw[afG h,afG (by omega)])]
    exact ih (t+1) (by omega) (by omega)
 have:=loop _ 0 rfl (by omega);have aO:(p.map aI).take (min (p.map aI).length (max p.length (q.length+s)))++(List.replicate (max p.length (q.length+s)) (⟨false,[],[]⟩:ag)).drop (min (p.map aI).length (max p.length (q.length+s)))=(lI (max p.length (q.length+s)) (fun i=>if s≤i∧i<s+0 then coef p i+c*coef q (i-s) else coef p i)).map aI:=by
  rw[bx,agx (by omega),afD (by rw[bx];omega)];refine ai3 fun i => ?_
  by_cases hi:i<max p.length (q.length+s)
  ·rw[getM (ij _ hi),afG (by omega)];by_cases h2:i<p.length
   ·rw[ah0 (by rw[bx];exact h2),getM (ox h2)]
   ·rw[agD (by rw[bx];omega),agn,agL,bx,afI (by omega),cW (by omega)];rfl
  ·rw[ag3 (by rw[afW,bx,ahg,agy];omega),ag3 (by rw[bx,c9];omega)]
 refine gE.e0 _ _ _ _ (max p.length (q.length+s)) (by rw[bx];unfold ay;omega) (by rw[bx,bx];omega) (by omega) (by rw[bx,agy];omega) ?_;rw[aO];exact this
theorem both(p q:List ag)(hp:mX 274877906944 p)(hq:mX 274877906944 q):Cp 237 [ae p,ae q] (vI (DY p q)):=by
 have h1:=Qa.Check p hp;have h2:=Qa.Check q hq;unfold DY;by_cases e:tX p=0
 ·rw[afI e];exact lV.e1 _ _ _ _ h1 e h2
 ·rw[afG e];exact lV.e0 _ _ _ h1 e
end La
theorem getTop{q:List Rat}(h:q≠[]):q[q.length-1]? = some (bz q):=ox (by have:=afC.2 h;omega)
theorem Ar{h:Nat}{q:List Rat}(hq:Ch h q)(h1:1≤h):ht (bz q)≤h:=by have:=hq.ht (q.length-1);unfold bz;omega
namespace BC
theorem VY:∀(n:Nat) (q:List Rat),q.length=n→n<4611686018427387904→Fl 274877906944 q→jw.a8 (q.map aI) [] (.row 0 0 ((aP q).map aI).length 3) [(0,(.pure (((aP q).map aI).map ag.cells).flatten))]:=by
 intro n
 induction n with
 |zero =>intro q hq _ _;have:q=[]:=afr hq;subst this;exact jw.Py [] rfl rfl (by simp)
 |succ n ih =>
  intro q hq hb hf;obtain⟨v,hv⟩:∃v,q[n]? = some v:=⟨_,afp (by omega)⟩;have hs:=G3 hv hq;have hm:(q.map aI)[n]? = some (aI v):=by rw[afu,hv];rfl
  have GX:=hf v (afx hv);have sg:=uS.Sign (aI v) (jx GX);rw[bI] at sg;have hl:(q.map aI).length=n+1:=by rw[afq];exact hq
  by_cases h0:v=0
  ·have e:aP q=aP (q.take n):=by
    conv=>lhs;rw[hs,h0,tx]
   rw[e];refine jw.uF (q.map aI) n (aI v) _ n rfl (by omega) (by unfold ay;omega) (by omega) (by omega) hm sg (gM.2 h0) (by omega) (by omega) ?_;have:=ih (q.take n) (by rw[afK];omega) (by omega) (fun x hx=>hf x (ahY hx));rwa[ahh] at this
  ·have e:aP q=q:=by rw[hs,yI h0]
   rw[e];exact jw.xe (q.map aI) n (aI v) _ rfl rfl (by omega) (by unfold ay;omega) (by omega) (by omega) hm sg (fun e=>h0 (gM.1 e))
theorem TS{k:Nat}(q:List Rat)(hl:q.length≤1000000)(hf:Fl k q)(hk:k≤68719476736):au bu 82 [.pv (pq q)] [] (.row 0 0 ((aP q).map aI).length 3) [(0,(.pure (((aP q).map aI).map ag.cells).flatten))]:=by
 have loop:∀(j t:Nat) (site:List ag),q.length-t=j→t≤q.length→site=(q.take t).map aI→jw.ah site (q.map aI) t [] (.row 0 0 ((aP q).map aI).length 3) [(0,(.pure (((aP q).map aI).map ag.cells).flatten))]:=by
  intro j
  induction j with
  |zero =>intro t site hj ht hs;refine jw.cB site _ _ rfl (by rw[bx];omega) ?_;rw[afD (by omega)] at hs;rw[hs];exact VY q.length q rfl (by omega) (cb hf (by omega))
  |succ j ih =>
   intro t site hj ht hs;obtain⟨v,hv⟩:∃v,q[t]? = some v:=⟨_,afp (by omega)⟩;have hvh:=hf v (afx hv);have WH:site.length=t:=by rw[hs,afq,afK];omega
   refine jw.l10 site _ t _ _ rfl (by rw[bx];omega) (getM hv) (QF.xx v (by omega)) (by simp;omega) (by omega) (ih (t+1) _ (by omega) (by omega) ?_);rw[hs,ag4,hv];simp
 exact jw.e0 _ (loop _ 0 [] rfl (by omega) rfl)
theorem mW{h b:Nat}(p q:List Rat)(hz:aS q=false)(o5:q≠[])(hp:Ch h p)(hq:Ch b q)(h1:1≤h)(sE:1≤b)(hlp:p.length≤10000)(hlq:q.length≤10000)(hk:2*(h+(p.length+1-q.length)*(b+1))+3*b+5≤68719476736):Cp 132 [pq p,pq q] (.aF [pq (dP p q).1,pq (dP p q).2]):=by
 have E6:=afC.2 o5;have hqt:=Ar hq sE;have As:=cK hz o5;obtain⟨H,hH⟩:∃H,H=h+(p.length+1-q.length)*(b+1):=⟨_,rfl⟩;rw[←hH] at hk;have hqc:∀i,ht (coef q i)≤b:=fun i=>by have:=hq.ht i;omega
 have loop:∀(n hc:Nat) (out rest:List Rat),rest.length<n→1≤hc→Ch hc rest→hc+(rest.length+1-q.length)*(b+1)≤H→aS out=false→aS rest=false→out.length≤p.length+1-q.length→rest.length≤p.length→(∀i,ht (coef out i)≤H+b)→(∀i,i+q.length≤rest.length→coef out i=0) →
   jb.ah (q.map aI) (rest.map aI).length (p.length+1-q.length) (aI (bz q)) (rest.map aI) ((lI (p.length+1-q.length) (coef out)).map aI) (.aF [pq (oM n out rest q).1,pq (oM n out rest q).2]):=by
  intro n
  induction n with
  |zero=>intro hc out rest hn;omega
  |succ n ih =>
   intro hc out rest hn Es hr hcH zo zr lo lr ho Kj;rw[oM];cases hb:Nat.blt rest.length q.length with
   |true =>
    have dI:=yM.1 hb;rw[afz];have e:aP (lI (p.length+1-q.length) (coef out))=out:=by rw[←lF zo];refine kM (fun i => ?_);rw[lF zo];exact FK (fun i hi=>cW (by omega)) i
    have ht:=Trim (k:=H+b) (lI (p.length+1-q.length) (coef out)) (by rw[c9];omega) (lX (fun i=>by rw[FK (fun i hi=>cW (by omega))];exact ho i)) (by omega)
    rw[e] at ht;exact jb.cB _ _ _ _ _ _ _ (by rw[bx,bx];exact dI) (by rw[bx,c9]) ht rfl
   |false =>
    have hle:=vK.1 hb;rw[afP];have E2:rest≠[]:=by intro e;rw[e] at hle;simp at hle;exact o5 hle
    have YV:=Ar hr Es;have Xc:∀i,ht (coef rest i)≤hc:=fun i=>by have:=hr.ht i;omega
    have WH:=po As (by omega) hle;have e1:rest.length+1-q.length=(rest.length-q.length)+1:=by omega
    have e2:((nB rest q).length+1-q.length)*(b+1)≤(rest.length-q.length)*(b+1):=afw _ (by omega);rw[e1,age,agV] at hcH;have SD:ht (stepC rest q)≤hc+b:=by have:=tv (bz rest) (bz q);unfold stepC;omega
    have hdiv:=QF.Div (bz rest) (bz q) (by omega) (by omega) As;have cc:∀i,coef (aP (db out (fD (rest.length-q.length) [stepC rest q]))) i=if i=rest.length-q.length then stepC rest q else coef out i:=by
     intro i;rw[eR,gx,kr];by_cases h3:i=rest.length-q.length
     ·rw[afI h3,afG (by omega),Kj i (by omega),h3,ahR,vH,aiw]
     ·rw[afG h3];split
      ·rw[agS]
      ·rw[cW (p:=[stepC rest q]) (by simp;omega),agS]
    refine jb.l10 _ _ _ _ _ _ (rest.length-1) (aI (bz rest)) (aI (stepC rest q)) none (rest.length-q.length) (by rw[bx,bx];exact hle) (by rw[bx,bx];unfold ay;omega) (by rw[bx];unfold ay;omega) (by rw[bx];omega) (by rw[bx];omega) (getM (getTop E2)) hdiv (by rw[bx,bx];omega) (by omega) (by rw[bx,c9];omega) ?_;rw[yR (f:=coef (aP (db out (fD (rest.length-q.length) [stepC rest q])))) (by omega) (by rw[cc,afI rfl]) (fun i hi=>by rw[cc,afG hi])];have next:=ih (hc+b+1) (aP (db out (fD (rest.length-q.length) [stepC rest q]))) (nB rest q) (by omega) (by omega) (hr.step hq As) (by omega) (bH _) (bH _) (uT (fun i hi=>by
     rw[←eR,cc,afG (by omega),cW (by omega)])) (by omega) (fun i=>by
     rw[cc];split
     ·omega
     ·exact ho i) (fun i hi=>by rw[cc,afG (by omega)];exact Kj i (by omega))
    have inner:∀(j t:Nat),q.length-t=j→t≤q.length→jb.a8 (q.map aI) (rest.map aI).length (p.length+1-q.length) (((rest.map aI).length:Int)-((q.map aI).length:Int)) t (aI (bz q)) (aI (stepC rest q)) ((lI rest.length (fun i=>coef rest i-if rest.length-q.length≤i∧i<rest.length-q.length+t then stepC rest q*coef q (i-(rest.length-q.length)) else 0)).map aI) ((lI (p.length+1-q.length) (coef (aP (db out (fD (rest.length-q.length) [stepC rest q]))))).map aI)
      (.aF [pq (oM n (aP (db out (fD (rest.length-q.length) [stepC rest q]))) (nB rest q) q).1,pq (oM n (aP (db out (fD (rest.length-q.length) [stepC rest q]))) (nB rest q) q).2]):=by
     intro j
     induction j with
     |zero =>
      intro t hj ht;have e:aP (lI rest.length (fun i=>coef rest i-if rest.length-q.length≤i∧i<rest.length-q.length+t then stepC rest q*coef q (i-(rest.length-q.length)) else 0))=nB rest q:=by
       refine kM (fun i => ?_);rw[gx,kr,dD];by_cases hi:i<rest.length
       ·rw[mY (ij _ hi)];by_cases h3:i<rest.length-q.length
        ·rw[afG (by omega),afI h3];grind
        ·rw[afI (by omega),afG h3];grind
       ·rw[cW (p:=lI _ _) (by rw[c9];omega),cW (p:=rest) (by omega),afG (by omega),cW (p:=q) (by omega)];grind
      have Y4:=TS (k:=2*hc+2*b+1) (lI rest.length (fun i=>coef rest i-if rest.length-q.length≤i∧i<rest.length-q.length+t then stepC rest q*coef q (i-(rest.length-q.length)) else 0)) (by rw[c9];omega) (lX (fun i=>by
       by_cases hi:i<rest.length
       ·rw[mY (ij _ hi)];have a1:=Xc i;have a2:=hqc (i-(rest.length-q.length));have a3:=nS (stepC rest q) (coef q (i-(rest.length-q.length)));have a4:=P2 (coef rest i) (stepC rest q*coef q (i-(rest.length-q.length)));split
        ·omega
        ·rw[show coef rest i-0=coef rest i from by grind];omega
       ·rw[cW (p:=lI _ _) (by rw[c9];omega),j9];omega)) (by omega)
      rw[e] at Y4;exact jb.xe _ _ _ _ _ _ _ _ _ _ _ (by rw[bx];omega) (by rw[bx,bx,c9]) Y4 next
     |succ j Xb =>
      intro t hj ht;obtain⟨w,hw⟩:∃w,q[t]? = some w:=⟨_,afp (by omega)⟩;have hwc:=mY hw;have a2:=hqc t;rw[hwc] at a2;have a1:=Xc (rest.length-q.length+t);have a3:=nS (stepC rest q) w;have hg:rest.length-q.length+t<rest.length:=by omega
      refine jb.uF _ _ _ _ _ _ _ _ _ (aI w) (rest.length-q.length+t) (aI (coef rest (rest.length-q.length+t))) _ _ (rest.length-q.length+t) (by rw[bx];omega) (getM hw) (by rw[bx,bx];unfold ay;omega) (by rw[bx,bx];omega) (by rw[bx];omega) ?_ (QF.Mul _ _ (by omega) (by omega)) (QF.Sub (coef rest (rest.length-q.length+t)) (stepC rest q*w) (by omega) (by omega)) (by rw[bx,bx];omega) (by rw[bx];omega) (by rw[bx,c9];omega) (by omega) ?_
      ·rw[getM (ij _ hg),afG (by omega)]
       congr 2;grind
      ·rw[yR (f:=fun i=>coef rest i-if rest.length-q.length≤i∧i<rest.length-q.length+(t+1) then stepC rest q*coef q (i-(rest.length-q.length)) else 0) hg (by
        rw[afI (by omega),show rest.length-q.length+t-(rest.length-q.length)=t from by omega,hwc]) (fun i hi=>by
        by_cases h:rest.length-q.length≤i∧i<rest.length-q.length+t
        ·rw[afI h,afI (by omega)]
        ·rw[afG h,afG (by omega)])]
       exact Xb (t+1) (by omega) (by omega)
    have:=inner _ 0 rfl (by omega);have e0:(lI rest.length (fun i=>coef rest i-if rest.length-q.length≤i∧i<rest.length-q.length+0 then stepC rest q*coef q (i-(rest.length-q.length)) else 0))=rest:=by
     refine ai3 (fun i => ?_);by_cases hi:i<rest.length
     ·rw[ij _ hi,ox hi,afG (by omega)]
      congr 1;grind
     ·rw[ag3 (by rw[c9];omega),ag3 (by omega)]
    rwa[e0] at this
 have dI:=gT p;have hmul:((aP p).length+1-q.length)*(b+1)≤(p.length+1-q.length)*(b+1):=afw _ (by omega);have:=loop (p.length+1) h [] (aP p) (by omega) h1 hp.trim (by omega) rfl (bH p) (by simp) dI (fun i=>by rw[lH,j9];omega) (fun i _=>rfl);have Y4:=TS (k:=h) p (by omega) (hp.fl h1) (by omega);refine jb.e0 _ _ _ _ (p.length+1-q.length) (q.length-1) (aI (bz q)) Y4 (by rw[bx,bx];unfold ay;omega) (by rw[bx,bx];unfold ay;omega) (by rw[bx,bx];omega) (by omega) (by rw[bx];unfold ay;omega) (by rw[bx];omega) (getM (getTop o5)) ?_;rw[FJ];exact this
theorem kR{h:Nat}(p:List Rat)(hz:aS p=false)(hp:Ch h p)(h1:1≤h)(hl:p.length≤10000)(hk:3*h+3≤68719476736):Cp 135 [pq p] (pq (b9 p)):=by
 by_cases h0:p=[]
 ·subst h0;exact xj.e0 _ rfl
 ·have As:=cK hz h0;have htp:=Ar hp h1;have iZ:=afC.2 h0;have tD:=uS.Of 1 (by unfold ay;omega);have z1:ht ((1:Int):Rat)=1:=by decide
  have hd:=QF.Div ((1:Int):Rat) (bz p) (by omega) (by omega) As;have b1:=tv ((1:Int):Rat) (bz p);have HG:=plus (a:=1) (d:=h+1) [] p (((1:Int):Rat)/bz p) (by simp) (by omega) (fun x hx=>by cases hx) (hp.fl h1) (by omega) (by omega) h1 (by omega);have e:aP (db [] (br (((1:Int):Rat)/bz p) p))=b9 p:=rfl;rw[e] at HG;exact xj.e1 _ _ (p.length-1) _ _ none _ (by rw[bx];omega) tD (by rw[bx];unfold ay;omega) (by rw[bx];omega) (getM (getTop h0)) hd HG
theorem gcd{a b N i j:Nat}(ha:1≤a)(fQ:a≤b)(hN:N≤1000)(hk:4*xB a b (N+2)+10≤68719476736)(p q:List Rat)(e:B7 a b N i j p q)(hl:p.length≤10000):Cp 133 [pq p,pq q] (pq (eL p q)):=by
 have hx:xB a b (N+2)=xB a b N+2*(xB a b (N+1)+1):=rfl;have x1:∀j,1≤xB a b j:=fun j=>afJ ha (dK a b fQ (i:=0) (ag0 _))
 have loop:∀(n i j:Nat) (p q:List Rat),q.length<n→B7 a b N i j p q→p.length≤10000→jH.ah (p.map aI) (q.map aI) (pq (b9 (lY n p q))):=by
  intro n
  induction n with
  |zero=>intro i j p q hn;omega
  |succ n ih =>
   intro i j p q hn e hl;have hi:=e.idx;have AO:=e.lt;rw[lY];by_cases h:q.length=0
   ·rw[beq_iff.2 h,afz];have:=dK a b fQ (i:=i) (j:=N+1) (by omega);exact jH.cB _ _ _ (by rw[bx];omega) (kR p e.zp e.hp (x1 i) hl (by omega))
   ·have fT:q≠[]:=fun e=>h (by rw[e];rfl)
    rw[iG.2 h,afP];obtain⟨r1,r2⟩:=e.rest fQ fT;have hz:=fX p q;have hlen:=e.len;have TR:=e.bound;have b1:=dK a b fQ (i:=j+(p.length-q.length)) (j:=N+1) (by omega);have hd:=mW p q e.zq fT e.hp e.hq (x1 i) (x1 j) hl (by omega) (by obtain⟨j',rfl⟩:∃j',j=j'+1:=⟨j-1,by omega⟩;obtain⟨d,hd⟩:∃d,p.length-q.length=d+1:=⟨p.length-q.length-1,by omega⟩;have h2:=dK a b fQ (i:=i) (j:=j') (by omega);have h3:=u5 a b fQ j' d;have h4:=dK a b fQ (i:=j'+1+(d+1)) (j:=N+1) (by omega);have h5:=dK a b fQ (i:=j'+1) (j:=N) (by omega);rw[show p.length+1-q.length=d+2 from by omega];omega)
    have hm:=kR (b8 p q) hz r1 (x1 _) (by omega) (by omega);exact jH.l10 _ _ _ _ _ (by rw[bx];omega) hd hm (ih _ _ q _ (by rw[dx hz];omega) (e.next fQ fT (r1.kR (x1 _) hz) (by rw[dx hz];exact r2) (cR _)) (by omega))
 exact jH.e0 _ _ (loop (q.length+1) i j p q (Nat.lt_succ_self _) e hl)
end BC
namespace La
theorem mW{h b:Nat}(p q:List Rat)(hz:aS q=false)(o5:q≠[])(hp:Ch h p)(hq:Ch b q)(h1:1≤h)(sE:1≤b)(hlp:p.length≤10000)(hlq:q.length≤10000)(hk:2*(h+(p.length+1-q.length)*(b+1))+3*b+5≤68719476736):Cp 163 [pq p,pq q] (.aF [pq (dP p q).1,pq (dP p q).2]):=by
 have E6:=afC.2 o5;have hqt:=Ar hq sE;have As:=cK hz o5;obtain⟨H,hH⟩:∃H,H=h+(p.length+1-q.length)*(b+1):=⟨_,rfl⟩;rw[←hH] at hk;have tD:=Ak.Of 1 (by unfold ay;omega);have loop:∀(n hc:Nat) (out rest:List Rat),rest.length<n→1≤hc→Ch hc rest→hc+(rest.length+1-q.length)*(b+1)≤H→out.length≤p.length+1-q.length→rest.length≤p.length→(∀i,ht (coef out i)≤H+b)→(∀i,i+q.length≤rest.length→coef out i=0) →
   fL.ah (q.map aI) (out.map aI) (rest.map aI) (.aF [pq (oM n out rest q).1,pq (oM n out rest q).2]):=by
  intro n
  induction n with
  |zero=>intro hc out rest hn;omega
  |succ n ih =>
   intro hc out rest hn Es hr hcH lo lr ho Kj;rw[oM];cases hb:Nat.blt rest.length q.length with
   |true =>have dI:=yM.1 hb;rw[afz];exact fL.cB _ _ _ (by rw[bx,bx];exact dI)
   |false =>
    have hle:=vK.1 hb;rw[afP];have E2:rest≠[]:=by intro e;rw[e] at hle;simp at hle;exact o5 hle
    have YV:=Ar hr Es;have WH:=po As (by omega) hle;have e1:rest.length+1-q.length=(rest.length-q.length)+1:=by omega
    have e2:((nB rest q).length+1-q.length)*(b+1)≤(rest.length-q.length)*(b+1):=afw _ (by omega);rw[e1,age,agV] at hcH;have SD:ht (stepC rest q)≤hc+b:=by have:=tv (bz rest) (bz q);unfold stepC;omega
    have hdiv:=QR.Div (bz rest) (bz q) (by omega) (by omega) As;have cc:∀i,coef (aP (db out (fD (rest.length-q.length) [stepC rest q]))) i=if i=rest.length-q.length then stepC rest q else coef out i:=by
     intro i;rw[eR,gx,kr];by_cases h3:i=rest.length-q.length
     ·rw[afI h3,afG (by omega),Kj i (by omega),h3,ahR,vH,aiw]
     ·rw[afG h3];split
      ·rw[agS]
      ·rw[cW (p:=[stepC rest q]) (by simp;omega),agS]
    have p1:=plus (b:=hc+b) (d:=1) out [stepC rest q] ((1:Int):Rat) (rest.length-q.length) (by omega) (by simp;omega) (lX ho) (fun x hx=>by rw[ah6.1 hx];exact SD) (by decide) (by omega) (by omega) (by omega);have q1:aP (db out (fD (rest.length-q.length) (br ((1:Int):Rat) [stepC rest q])))=aP (db out (fD (rest.length-q.length) [stepC rest q])):=by rw[show ((1:Int):Rat)=1 from rfl,vL]
    rw[q1] at p1;have sv:=QR.Neg (stepC rest q) (by omega);have p2:=plus (d:=hc+b) rest q (-(stepC rest q)) (rest.length-q.length) (by omega) (by omega) (hr.fl Es) (hq.fl sE) (by rw[uR];exact SD) Es sE (by omega);have TT:((rest.map aI).length:Int)-((q.map aI).length:Int)=((rest.length-q.length:Nat):Int):=by rw[bx,bx];omega
    have next:=ih (hc+b+1) (aP (db out (fD (rest.length-q.length) [stepC rest q]))) (nB rest q) (by omega) (by omega) (hr.step hq As) (by omega) (uT (fun i hi=>by
     rw[←eR,cc,afG (by omega),cW (by omega)])) (by omega) (fun i=>by
     rw[cc];split
     ·omega
     ·exact ho i) (fun i hi=>by rw[cc,afG (by omega)];exact Kj i (by omega))
    exact fL.l10 _ _ _ (rest.length-1) (aI (bz rest)) (q.length-1) (aI (bz q)) (aI (stepC rest q)) _ _ _ _ _ (by rw[bx,bx];exact hle) (by rw[bx];unfold ay;omega) (by rw[bx];omega) (getM (getTop E2)) (by rw[bx];unfold ay;omega) (by rw[bx];omega) (getM (getTop o5)) hdiv (by rw[bx,bx];unfold ay;omega) tD (by rw[TT];exact p1) sv (by rw[TT];exact p2) next
 have dI:=gT p;have hmul:((aP p).length+1-q.length)*(b+1)≤(p.length+1-q.length)*(b+1):=afw _ (by omega);have:=loop (p.length+1) h [] (aP p) (by omega) h1 hp.trim (by omega) (by simp) dI (fun i=>by rw[lH,j9];omega) (fun i _=>rfl);exact fL.e0 _ _ _ (Trim (k:=h) p (by omega) (hp.fl h1) (by omega)) this
theorem kR{h:Nat}(p:List Rat)(hz:aS p=false)(hp:Ch h p)(h1:1≤h)(hl:p.length≤10000)(hk:3*h+3≤68719476736):Cp 166 [pq p] (pq (b9 p)):=by
 by_cases h0:p=[]
 ·subst h0;exact lg.e0 _ rfl
 ·have As:=cK hz h0;have htp:=Ar hp h1;have iZ:=afC.2 h0;have tD:=Ak.Of 1 (by unfold ay;omega);have z1:ht ((1:Int):Rat)=1:=by decide
  have hd:=QR.Div ((1:Int):Rat) (bz p) (by omega) (by omega) As;have b1:=tv ((1:Int):Rat) (bz p);have HG:=plus (a:=1) (d:=h+1) [] p (((1:Int):Rat)/bz p) 0 (by simp) (by omega) (fun x hx=>by cases hx) (hp.fl h1) (by omega) (by omega) h1 (by omega);have e:aP (db [] (fD 0 (br (((1:Int):Rat)/bz p) p)))=b9 p:=rfl;rw[e] at HG;exact lg.e1 _ _ (p.length-1) _ _ _ _ (by rw[bx];omega) tD (by rw[bx];unfold ay;omega) (by rw[bx];omega) (getM (getTop h0)) hd HG
theorem gcd{a b N i j:Nat}(ha:1≤a)(fQ:a≤b)(hN:N≤1000)(hk:4*xB a b (N+2)+10≤68719476736)(p q:List Rat)(e:B7 a b N i j p q)(hl:p.length≤10000):Cp 164 [pq p,pq q] (pq (eL p q)):=by
 have hx:xB a b (N+2)=xB a b N+2*(xB a b (N+1)+1):=rfl;have x1:∀j,1≤xB a b j:=fun j=>afJ ha (dK a b fQ (i:=0) (ag0 _))
 have loop:∀(n i j:Nat) (p q:List Rat),q.length<n→B7 a b N i j p q→p.length≤10000→gZ.ah (p.map aI) (q.map aI) (pq (lY n p q)):=by
  intro n
  induction n with
  |zero=>intro i j p q hn;omega
  |succ n ih =>
   intro i j p q hn e hl;have hi:=e.idx;have AO:=e.lt;rw[lY];by_cases h:q.length=0
   ·rw[beq_iff.2 h,afz];exact gZ.cB _ _ (by rw[bx];omega)
   ·have fT:q≠[]:=fun e=>h (by rw[e];rfl)
    rw[iG.2 h,afP];obtain⟨r1,r2⟩:=e.rest fQ fT;have hz:=fX p q;have hlen:=e.len;have TR:=e.bound;have b1:=dK a b fQ (i:=j+(p.length-q.length)) (j:=N+1) (by omega);have hd:=mW p q e.zq fT e.hp e.hq (x1 i) (x1 j) hl (by omega) (by obtain⟨j',rfl⟩:∃j',j=j'+1:=⟨j-1,by omega⟩;obtain⟨d,hd⟩:∃d,p.length-q.length=d+1:=⟨p.length-q.length-1,by omega⟩;have h2:=dK a b fQ (i:=i) (j:=j') (by omega);have h3:=u5 a b fQ j' d;have h4:=dK a b fQ (i:=j'+1+(d+1)) (j:=N+1) (by omega);have h5:=dK a b fQ (i:=j'+1) (j:=N) (by omega);rw[show p.length+1-q.length=d+2 from by omega];omega)
    have hm:=kR (b8 p q) hz r1 (x1 _) (by omega) (by omega);exact gZ.l10 _ _ _ _ _ (by rw[bx];omega) hd hm (ih _ _ q _ (by rw[dx hz];omega) (e.next fQ fT (r1.kR (x1 _) hz) (by rw[dx hz];exact r2) (cR _)) (by omega))
 have ZF:=kR p e.zp e.hp (x1 i) hl (by have:=dK a b fQ (i:=i) (j:=N+1) (by have:=e.idx;have:=e.lt;omega);omega);have W4:=kR q e.zq e.hq (x1 j) (by have:=e.len;omega) (by have:=dK a b fQ (i:=j) (j:=N+1) (by have:=e.idx;omega);omega);refine gZ.e0 _ _ _ _ ZF W4 ?_;have e':B7 a b N i j (b9 p) (b9 q):=⟨e.hp.kR (x1 i) e.zp,e.hq.kR (x1 j) e.zq,e.lt,by rw[dx e.zp,dx e.zq];exact e.len,by rw[dx e.zp];exact e.bound,cR _,cR _⟩;have:=loop (q.length+1) i j (b9 p) (b9 q) (by rw[dx e.zq];omega) e' (by rw[dx e.zp];exact hl);rwa[Sw p q e.zp e.zq] at this
end La
def fB(h L:Nat):Nat:=L*(h+(L+1)*(xB h (h+1) (L+1)+1)+xB h (h+1) (L+1))+1
def sB(h L:Nat):Nat:=xB (fB h L) (fB h L+1) (L+1)
structure dL (h L:Nat) (p:List Rat):Prop where
 zp:aS p=false
 ne:p≠[]
 len:p.length≤L
 ch:Ch h p
 h1:1≤h
 hL:L≤10
 sz:sB h L≤1073741824
theorem xC{a b:Nat}(ha:1≤a)(fQ:a≤b)(j:Nat):1≤xB a b j:=afJ ha (dK a b fQ (i:=0) (ag0 _))
section
variable {h L:Nat} {p:List Rat}
theorem dL.pos(f:dL h L p):1≤L:=by have:=afC.2 f.ne;have:=f.len;omega
theorem dL.tX(f:dL h L p):Sym.tX (p.map aI)=0:=jy f.zp (by have:=f.len;have:=f.hL;omega)
theorem dL.fb(f:dL h L p):xB h (h+1) (L+1)≤fB h L∧h+(L+1)*(xB h (h+1) (L+1)+1)+xB h (h+1) (L+1)≤fB h L∧1≤fB h L∧fB h L≤1073741824∧h≤fB h L:=by have hL:=f.pos;have h1:1*(h+(L+1)*(xB h (h+1) (L+1)+1)+xB h (h+1) (L+1))≤L*(h+(L+1)*(xB h (h+1) (L+1)+1)+xB h (h+1) (L+1)):=afw _ hL;have h2:=dK (fB h L) (fB h L+1) (agT _) (i:=0) (j:=L+1) (ag0 _);have h3:=f.sz;have h4:xB (fB h L) (fB h L+1) 0=fB h L:=rfl;have h5:sB h L=xB (fB h L) (fB h L+1) (L+1):=rfl;have h6:fB h L=L*(h+(L+1)*(xB h (h+1) (L+1)+1)+xB h (h+1) (L+1))+1:=rfl;refine⟨?_,?_,?_,?_,?_⟩<;>omega
theorem dL.euc(f:dL h L p):B7 h (h+1) L 0 1 p (ax p):=⟨f.ch,f.ch.derive (by have:=f.len;have:=f.hL;omega),by omega,mc f.ne,by have:=f.len;omega,f.zp,bZ p⟩
theorem dL.x2(f:dL h L p):4*xB h (h+1) (L+2)+10≤68719476736:=by obtain⟨h1,h2,h3,h4,h5⟩:=f.fb;have e:xB h (h+1) (L+2)=xB h (h+1) L+2*(xB h (h+1) (L+1)+1):=rfl;have:=Hc h (h+1) (agT _) L;omega
theorem dL.Lb(f:dL h L p):Ch (xB h (h+1) (L+1)) (eL p (ax p)):=by have:=Ms f.h1 (agT h) ((ax p).length+1) 0 1 p (ax p) f.euc;exact this.kR (xC f.h1 (agT h) _) (sw _ _ _ f.zp (bZ p))
theorem dL.D4(f:dL h L p):eL p (ax p)≠[]:=BZ _ f.zp (bZ p) f.ne
theorem dL.Qw(f:dL h L p):2*(h+(p.length+1-(eL p (ax p)).length)*(xB h (h+1) (L+1)+1))+3*xB h (h+1) (L+1)+5≤68719476736:=by obtain⟨h1,h2,h3,h4,h5⟩:=f.fb;have hl:=f.len;have:(p.length+1-(eL p (ax p)).length)*(xB h (h+1) (L+1)+1)≤(L+1)*(xB h (h+1) (L+1)+1):=afw _ (by omega);omega
theorem dL.yG(f:dL h L p):(eL p (ax p)).length≤p.length:=((vN p (ax p) f.zp (bZ p)).1.len (iV _ _) f.zp f.ne).2
theorem dL.yS(f:dL h L p):(dP p (eL p (ax p))).1.length≤p.length:=by have:=Jq (p:=p) (iV p (ax p)) f.D4;have:=afC.2 f.D4;omega
theorem dL.He(f:dL h L p):Ch (fB h L) (dP p (eL p (ax p))).1:=by have hq:=Mr f.ch f.Lb f.h1 (xC f.h1 (agT h) _) (iV _ _) f.D4;have hl:=f.len;have h1:(p.length+1-(eL p (ax p)).length)*(xB h (h+1) (L+1)+1)≤(L+1)*(xB h (h+1) (L+1)+1):=afw _ (by omega);have h2:=Ch.Qo (cb hq (show _≤h+(L+1)*(xB h (h+1) (L+1)+1)+xB h (h+1) (L+1) by omega));refine h2.mono ?_;have h3:(dP p (eL p (ax p))).1.length*(h+(L+1)*(xB h (h+1) (L+1)+1)+xB h (h+1) (L+1))≤L*(h+(L+1)*(xB h (h+1) (L+1)+1)+xB h (h+1) (L+1)):=afw _ (by have:=f.yS;omega);unfold fB;omega
theorem dL.yT(f:dL h L p):Ch (fB h L) (bj p):=f.He.kR f.fb.2.2.1 (mb _ _).1
theorem dL.qu(f:dL h L p):(bj p).length≤p.length:=by unfold bj;rw[dx (mb _ _).1];exact f.yS
theorem dL.yU(f:dL h L p):B7 (fB h L) (fB h L+1) L 0 1 (bj p) (ax (bj p)):=by obtain⟨f1,f2,_⟩:=free_spec f.zp f.ne;have:=f.qu;have:=f.len;have:=f.hL;exact⟨f.yT,f.yT.derive (by omega),by omega,mc f2,by omega,f1,bZ _⟩
theorem Ju{a b N:Nat}(ha:1≤a)(fQ:a≤b):∀(n i j:Nat) (p d:List Rat),B7 a b N i j p d→∀g∈chainF n p d,Ch (xB a b (N+1)) g∧g.length≤p.length
 |0,i,j,p,d,e,g,hg=>by rw[chainF,ah6] at hg;rw[hg];exact⟨e.hp.mono (dK a b fQ (by have:=e.idx;have:=e.lt;omega)),afy _⟩
 |n+1,i,j,p,d,e,g,hg=>by
  have hp:Ch (xB a b (N+1)) p:=e.hp.mono (dK a b fQ (by have:=e.idx;have:=e.lt;omega));by_cases h:d=[]
  ·rw[h,nU,ah6] at hg;rw[hg];exact⟨hp,afy _⟩
  ·rw[kt h] at hg;rcases afY.1 hg with hg|hg
   ·rw[hg];exact⟨hp,afy _⟩
   ·obtain⟨r1,r2⟩:=e.rest fQ h;have hc:Ch (xB a b (j+(p.length-d.length))) (aP (br (-1) (b8 p d))):=by
     refine Ch.trim ?_;obtain⟨D,d1,d2,d3⟩:=r1;refine⟨D,d1,d2,fun i => ?_⟩;obtain⟨m,m1,m2⟩:=d3 i;refine⟨-m,?_,by rw[gn];exact m2⟩;rw[dD,agX,←m1];grind
    have:=Ju ha fQ n _ _ d _ (e.next fQ h hc (jA e.zq h) (bH _)) g hg;exact⟨this.1,by have:=e.len;omega⟩
theorem dL.chain(f:dL h L p):∀g∈aX p,Fl 1073741824 g∧g.length≤10:=by intro g hg;have hf:=f.fb;obtain⟨h1,h2⟩:=Ju hf.2.2.1 (agT _) (bj p).length 0 1 _ _ f.yU g hg;have h3:=f.sz;have h4:=f.qu;have h5:=f.len;have h6:=f.hL;exact⟨cb (h1.fl (xC hf.2.2.1 (agT _) _)) h3,by omega⟩
theorem dL.rE(f:dL h L p):(aX p).length≤11:=by have h1:=xy (bj p).length (bj p) (ax (bj p));have h2:=f.qu;have h3:=f.len;have h4:=f.hL;have h5:(aX p).length≤(bj p).length+1:=h1;omega
end
theorem u6:∀(l:Int) (r:List Int),0≤varS l r∧varS l r≤r.length
 |_,[]=>⟨ajr _,ajr _⟩
 |l,s::r=>by
  rw[varS];obtain⟨a,b⟩:=u6 l r;obtain⟨c,d⟩:=u6 s r;rw[afX];split
  ·omega
  ·split<;>omega
theorem mf(G:List (List Rat))(x:Rat):0≤gi G x∧gi G x≤G.length:=by have:=u6 0 (G.map (fun g=>sg (evalL g x)));rw[afq] at this;exact this
abbrev Mv(G:List (List Rat)):PV:=bB (bp ag.cells) (G.map (fun g=>g.map aI))
theorem BC.Jv{h L:Nat}{p:List Rat}(f:dL h L p):Cp 69 [pq p] (.aF [pq (bj p),.aC]):=by have hl:=f.len;have hL:=f.hL;have hf:=f.fb;have HH:=f.ch.fl f.h1;have yV:=JV.Check (p.map aI) (xA HH (by omega));rw[f.tX] at yV;have hd:=JV.derive (p.map aI) (by rw[bx];omega) (iT (cb HH (by omega)));rw[gI] at hd;have hp:=afC.2 f.ne;have hg:=BC.gcd f.h1 (agT h) (by omega) f.x2 p (ax p) f.euc (by omega);have Qf:=BC.mW p (eL p (ax p)) (iV _ _) f.D4 f.ch f.Lb f.h1 (xC f.h1 (agT h) _) (by omega) (by have:=f.yG;omega) f.Qw;have hm:=BC.kR (dP p (eL p (ax p))).1 (mb _ _).1 f.He hf.2.2.1 (by have:=f.yS;omega) (by omega);exact Fm.e1 _ _ _ _ _ _ yV (by rw[bx];omega) hd hg Qf hm
theorem La.Jv{h L:Nat}{p:List Rat}(f:dL h L p):Cp 94 [pq p] (.aF [pq (bj p),vI 0]):=by have hl:=f.len;have hL:=f.hL;have hf:=f.fb;have HH:=f.ch.fl f.h1;have yV:=Qa.Check (p.map aI) (xA HH (by omega));rw[f.tX] at yV;have hd:=Qa.derive (p.map aI) (by rw[bx];omega) (iT (cb HH (by omega)));rw[gI] at hd;have hp:=afC.2 f.ne;have hg:=La.gcd f.h1 (agT h) (by omega) f.x2 p (ax p) f.euc (by omega);have Qf:=La.mW p (eL p (ax p)) (iV _ _) f.D4 f.ch f.Lb f.h1 (xC f.h1 (agT h) _) (by omega) (by have:=f.yG;omega) f.Qw;have hm:=La.kR (dP p (eL p (ax p))).1 (mb _ _).1 f.He hf.2.2.1 (by have:=f.yS;omega) (by omega);exact qe.e2 _ _ _ _ _ _ _ yV rfl (by rw[bx];omega) hd hg Qf hm
theorem Au{p q:List ag}(hp:tX p=0)(hq:tX q=0):DY p q=0:=by unfold DY;rw[afI hp];exact hq
theorem BC.next{a b N i j:Nat}(ha:1≤a)(fQ:a≤b)(hN:N≤60)(hk:4*xB a b (N+2)+10≤68719476736){p d:List Rat}(e:B7 a b N i j p d)(h:d≠[]):Cp 182 [pq p,pq d] (.aF [pq (dP p d).1,pq (b8 p d),.aC])∧Cp 183 [pq (b8 p d),(aI ((-1:Int):Rat)).pv] (.aF [pq (aP (br (-1) (b8 p d))),.aC]):=by
 have x1:∀j,1≤xB a b j:=xC ha fQ;have hi:=e.idx;have AO:=e.lt;have hlen:=e.len;have TR:=e.bound;obtain⟨r1,r2⟩:=e.rest fQ h;have hx:xB a b (N+2)=xB a b N+2*(xB a b (N+1)+1):=rfl;have b0:=dK a b fQ (i:=i) (j:=N+1) (by omega);have b1:=dK a b fQ (i:=j+(p.length-d.length)) (j:=N+1) (by omega);have b2:=dK a b fQ (i:=j) (j:=N+1) (by omega);have hcp:=jy e.zp (by omega);have hcd:=jy e.zq (by omega);have hzr:=fX p d;have UH:=jy hzr (by omega);constructor
 ·have yV:=BC.Mu (p.map aI) (d.map aI) (xA (e.hp.fl (x1 i)) (by omega)) (xA (e.hq.fl (x1 j)) (by omega));rw[Au hcp hcd] at yV;have hd:=BC.mW p d e.zq h e.hp e.hq (x1 i) (x1 j) (by omega) (by omega) (by
   obtain⟨j',rfl⟩:∃j',j=j'+1:=⟨j-1,by omega⟩;obtain⟨d',hd⟩:∃d',p.length-d.length=d'+1:=⟨p.length-d.length-1,by omega⟩;have h2:=dK a b fQ (i:=i) (j:=j') (by omega);have h3:=u5 a b fQ j' d';have h4:=dK a b fQ (i:=j'+1+(d'+1)) (j:=N+1) (by omega);rw[show p.length+1-d.length=d'+2 from by omega];omega)
  have:=afC.2 h;exact IM.e1 _ _ _ _ yV (by rw[bx];omega) hd
 ·have yV:=JV.Check ((b8 p d).map aI) (xA (r1.fl (x1 _)) (by omega));rw[UH] at yV;have hp:=BC.plus (a:=1) (d:=1) [] (b8 p d) ((-1:Int):Rat) (by simp) (by omega) (fun x hx=>by cases hx) (r1.fl (x1 _)) (by decide) (by omega) (x1 _) (by omega);exact Dx.e0 _ _ _ yV hp
theorem La.next{a b N i j:Nat}(ha:1≤a)(fQ:a≤b)(hN:N≤60)(hk:4*xB a b (N+2)+10≤68719476736){p d:List Rat}(e:B7 a b N i j p d)(h:d≠[]):Cp 211 [pq p,pq d] (.aF [pq (dP p d).1,pq (b8 p d),vI 0])∧Cp 212 [pq (b8 p d),(aI ((-1:Int):Rat)).pv] (.aF [pq (aP (br (-1) (b8 p d))),vI 0]):=by
 have x1:∀j,1≤xB a b j:=xC ha fQ;have hi:=e.idx;have AO:=e.lt;have hlen:=e.len;have TR:=e.bound;obtain⟨r1,r2⟩:=e.rest fQ h;have hx:xB a b (N+2)=xB a b N+2*(xB a b (N+1)+1):=rfl;have b0:=dK a b fQ (i:=i) (j:=N+1) (by omega);have b1:=dK a b fQ (i:=j+(p.length-d.length)) (j:=N+1) (by omega);have b2:=dK a b fQ (i:=j) (j:=N+1) (by omega);have hcp:=jy e.zp (by omega);have hcd:=jy e.zq (by omega);have hzr:=fX p d;have UH:=jy hzr (by omega);constructor
 ·have yV:=La.both (p.map aI) (d.map aI) (xA (e.hp.fl (x1 i)) (by omega)) (xA (e.hq.fl (x1 j)) (by omega));rw[Au hcp hcd] at yV;have hd:=La.mW p d e.zq h e.hp e.hq (x1 i) (x1 j) (by omega) (by omega) (by
   obtain⟨j',rfl⟩:∃j',j=j'+1:=⟨j-1,by omega⟩;obtain⟨d',hd⟩:∃d',p.length-d.length=d'+1:=⟨p.length-d.length-1,by omega⟩;have h2:=dK a b fQ (i:=i) (j:=j') (by omega);have h3:=u5 a b fQ j' d';have h4:=dK a b fQ (i:=j'+1+(d'+1)) (j:=N+1) (by omega);rw[show p.length+1-d.length=d'+2 from by omega];omega)
  have:=afC.2 h;exact ri.e2 _ _ _ _ _ yV rfl (by rw[bx];omega) hd
 ·have yV:=Qa.Check ((b8 p d).map aI) (xA (r1.fl (x1 _)) (by omega));rw[UH] at yV;have hp:=La.plus (a:=1) (d:=1) [] (b8 p d) ((-1:Int):Rat) 0 (by simp) (by omega) (fun x hx=>by cases hx) (r1.fl (x1 _)) (by decide) (by omega) (x1 _) (by omega);exact oT.e1 _ _ _ _ yV rfl hp
theorem dL.Mw{h L:Nat}{p:List Rat}(f:dL h L p):4*xB (fB h L) (fB h L+1) (L+2)+10≤68719476736:=by have e:xB (fB h L) (fB h L+1) (L+2)=xB (fB h L) (fB h L+1) L+2*(xB (fB h L) (fB h L+1) (L+1)+1):=rfl;have h1:=Hc (fB h L) (fB h L+1) (agT _) L;have h2:=f.sz;have h3:sB h L=xB (fB h L) (fB h L+1) (L+1):=rfl;omega
end Go.Proofs.YtcpnocgollpbhaaGreatDoor.Sym
namespace Go.Proofs.YtcpnocgollpbhaaGreatDoor.Sym
open Go Path cV
set_option linter.unusedVariables false
namespace Et
theorem check(p:List ag)(hp:mX 274877906944 p):Cp 175 [ae p] (bW (yJ (if tX p=0 then (if p.length=0 then 8 else 0) else tX p))):=by
 have hk:=JV.Check p hp;by_cases h:tX p=0
 ·rw[afI h];rw[h] at hk;by_cases h0:p.length=0
  ·rw[afI h0];exact rk.e0 p hk h0
  ·rw[afG h0];exact rk.e1 p hk h0
 ·rw[afG h];rw[qp h] at hk ⊢;exact rk.e2 p _ hk
theorem chain{h L:Nat}{p:List Rat}(f:dL h L p):Cp 130 [pq p] (.aF [Mv (aX p),.aC]):=by
 have hL:=f.hL;have Rj:=f.fb;obtain⟨f1,f2,_⟩:=free_spec f.zp f.ne;have HH:=f.qu;have hl:=f.len;have Lt:=f.yT.fl Rj.2.2.1;have hd:=JV.Al ((bj p).map aI) (jy f1 (by omega)) (iT (cb Lt (by omega)));rw[gI] at hd;have loop:∀(n i j:Nat) (pre:List (List Rat)) (q d:List Rat),d.length<n→pre.length+n≤20→B7 (fB h L) (fB h L+1) L i j q d→oh.ah (d.map aI) ((pre++[q]).map (fun g=>g.map aI)) (.aF [Mv (pre++chainF n q d),.aC]):=by
  intro n
  induction n with
  |zero=>intro i j pre q d hn;omega
  |succ n ih =>
   intro i j pre q d hn HG e;by_cases h0:d=[]
   ·subst h0;rw[nU];exact oh.tN _ _ (by simp)
   ·rw[kt h0];obtain⟨c1,c2⟩:=BC.next Rj.2.2.1 (agT _) (by omega) f.Mw e h0;obtain⟨r1,r2⟩:=e.rest (agT _) h0;have hc:Ch (xB (fB h L) (fB h L+1) (j+(q.length-d.length))) (aP (br (-1) (b8 q d))):=by
     refine Ch.trim ?_;obtain⟨D,d1,d2,d3⟩:=r1;refine⟨D,d1,d2,fun i => ?_⟩;obtain⟨m,m1,m2⟩:=d3 i;refine⟨-m,?_,by rw[gn];exact m2⟩;rw[dD,agX,←m1];grind
    have next:=ih _ _ (pre++[q]) d _ (by have:=jA (p:=q) e.zq h0;omega) (by rw[afW,agt];omega) (e.next (agT _) h0 hc (jA e.zq h0) (bH _))
    have es:(pre++[q]).map (fun g=>g.map aI)++[d.map aI]=(pre++[q]++[d]).map (fun g=>g.map aI):=by rw[agd (l₁:=pre++[q])];rfl
    have hlen:((pre++[q]++[d]).map (fun g=>g.map aI)).length=pre.length+2:=by simp
    have tD:=uS.Of (-1) (by unfold ay;omega);have:=afC.2 h0;refine oh.l10 _ _ pre.length (q.map aI) _ _ _ _ (by rw[bx];omega) (by rw[es,hlen];omega) (by rw[es,hlen];unfold ay;omega) (by rw[es,hlen];omega) (by rw[es,hlen];omega) (by rw[es];simp) c1 tD c2 ?_;rw[es];have e2:pre++[q]++chainF n d (aP (br (-1) (b8 q d)))=pre++q::chainF n d (aP (br (-1) (b8 q d))):=by simp
    rwa[e2] at next
 have:=loop (bj p).length 0 1 [] (bj p) (ax (bj p)) (mc f2) (by simp;omega) f.yU;exact oh.e0 _ _ _ (BC.Jv f) hd this
theorem changes(G:List (List Rat))(x:Rat)(hG:∀g∈G,aS g=false∧Fl 1073741824 g∧g.length≤10)(hl:G.length≤1000)(hx:ht x≤1073741824):Cp 184 [Mv G,(aI x).pv] (vI (gi G x)):=by
 have loop:∀(j t n:Nat) (l:Int),G.length-t=j→t≤G.length→n≤t → -1≤l→l≤1→iy.ah n l (G.map (fun g=>g.map aI)) t (aI x) (vI ((n:Int)+varS l ((G.drop t).map (fun g=>sg (evalL g x))))):=by
  intro j
  induction j with
  |zero =>intro t n l hj ht hn _ _;rw[afV (by omega),aih,varS,Int.add_zero];exact iy.tN n l _ t _ (by rw[afq];omega)
  |succ j ih =>
   intro t n l hj htt hn HF F9;obtain⟨g,hg⟩:∃g,G[t]? = some g:=⟨_,afp (by omega)⟩;obtain⟨z,fl,ln⟩:=hG g (afx hg);have hm:(G.map (fun g=>g.map aI))[t]? = some (g.map aI):=by rw[afu,hg];rfl
   have tT:=JV.Eval (g.map aI) (aI x) (jy z (by omega)) (iT fl) (bF hx);rw[gI,bI] at tT;have h3:=rB g x 1073741824 fl hx;have h4:g.length*(2*1073741824+1)≤10*(2*1073741824+1):=afw _ ln;have hs:=QF.Sign (evalL g x) (by omega);have hv:=uJ.e0 _ _ _ none _ tT hs;have VK:ig (evalL g x) 0=sg (evalL g x):=rfl;have h3s:=ni (evalL g x);rw[VK] at hv;have dI:t<(G.map (fun g=>g.map aI)).length:=by rw[afq];omega
   rw[drop_cons hg,agk,varS];generalize sg (evalL g x)=s at hv h3s;by_cases h0:s=0
   ·rw[afI h0];exact iy.jT n l _ t _ _ _ dI hm hv h0 (by omega) (ih (t+1) n l (by omega) (by omega) (by omega) HF F9)
   ·rw[afG h0];by_cases h1:s = -l
    ·rw[afI h1];have:=ih (t+1) (n+1) s (by omega) (by omega) (by omega) (by omega) (by omega);rw[show (((n+1:Nat):Int))+varS s ((G.drop (t+1)).map (fun g=>sg (evalL g x)))=(n:Int)+(1+varS s ((G.drop (t+1)).map (fun g=>sg (evalL g x)))) from by omega] at this;exact iy.l10 n l _ t _ _ _ dI hm hv h0 (by unfold ay;omega) h1 (by omega) (by omega) this
    ·rw[afG h1,ajk];exact iy.cB n l _ t _ _ _ dI hm hv h0 (by unfold ay;omega) h1 (by omega) (ih (t+1) n s (by omega) (by omega) (by omega) (by omega) (by omega))
 have:=loop _ 0 0 0 rfl (by omega) (by omega) (by omega) (by omega);rw[agB,show(((0:Nat):Int))=0 from rfl,ajk] at this;exact iy.e0 _ _ this
theorem pz{h L:Nat}{p:List Rat}(f:dL h L p):∀g∈aX p,aS g=false∧Fl 1073741824 g∧g.length≤10:=by
 intro g hg;refine⟨?_,f.chain g hg⟩;have key:∀(n:Nat) (p d:List Rat),aS p=false→aS d=false→∀g∈chainF n p d,aS g=false:=by
  intro n
  induction n with
  |zero=>intro p d hp _ g hg;rw[chainF,ah6] at hg;rw[hg];exact hp
  |succ n ih =>
   intro p d hp hd g hg;by_cases h:d=[]
   ·rw[h,nU,ah6] at hg;rw[hg];exact hp
   ·rw[kt h] at hg;rcases afY.1 hg with hg|hg
    ·rw[hg];exact hp
    ·exact ih d _ hd (bH _) g hg
 exact key _ _ _ (free_spec f.zp f.ne).1 (bZ _) g hg
theorem Count{h L:Nat}{p:List Rat}(f:dL h L p)(lo hi:Rat)(hlh:lo≤hi)(h1:ht lo≤1073741824)(h2:ht hi≤1073741824):Cp 223 [pq p,(aI lo).pv,(aI hi).pv] (.aF [vI (gi (aX p) lo-gi (aX p) hi),.aC]):=by have hc:=f.rE;have yV:=check (p.map aI) (xA (f.ch.fl f.h1) (by have:=f.fb;omega));have hp:=afC.2 f.ne;rw[f.tX,afI rfl,afG (by rw[bx];omega)] at yV;obtain⟨a1,a2⟩:=mf (aX p) lo;obtain⟨b1,b2⟩:=mf (aX p) hi;exact A7.e3 _ _ _ _ _ _ _ _ _ yV (QF.Valid lo (by omega)) rfl (QF.Valid hi (by omega)) rfl (QF.yE lo hi (by omega) (by omega)) (yK.2 hlh) (chain f) (changes _ lo (pz f) (by omega) h1) (changes _ hi (pz f) (by omega) h2) (by unfold ay;omega)
end Et
namespace WJ
theorem Error(p:List ag)(hp:mX 274877906944 p):Cp 204 [ae p] (vI (if tX p=0 then (if p.length=0 then 8 else 0) else tX p)):=by
 have hk:=Qa.Check p hp;by_cases h:tX p=0
 ·rw[afI h];by_cases h0:p.length=0
  ·rw[afI h0];exact iF.e1 p _ hk h h0
  ·rw[afG h0];exact iF.e2 p _ hk h h0
 ·rw[afG h];exact iF.e0 p _ hk h
theorem chain{h L:Nat}{p:List Rat}(f:dL h L p):Cp 161 [pq p] (Mv (aX p)):=by
 have hL:=f.hL;have Rj:=f.fb;obtain⟨f1,f2,_⟩:=free_spec f.zp f.ne;have HH:=f.qu;have hl:=f.len;have Lt:=f.yT.fl Rj.2.2.1;have hd:=Qa.Al ((bj p).map aI) (jy f1 (by omega)) (iT (cb Lt (by omega)));rw[gI] at hd;have loop:∀(n i j:Nat) (pre:List (List Rat)) (q d:List Rat),d.length<n→pre.length+n≤20→B7 (fB h L) (fB h L+1) L i j q d→gd.ah (d.map aI) ((pre++[q]).map (fun g=>g.map aI)) (Mv (pre++chainF n q d)):=by
  intro n
  induction n with
  |zero=>intro i j pre q d hn;omega
  |succ n ih =>
   intro i j pre q d hn HG e;by_cases h0:d=[]
   ·subst h0;rw[nU];exact gd.cB _ _ (by simp)
   ·rw[kt h0];obtain⟨c1,c2⟩:=La.next Rj.2.2.1 (agT _) (by omega) f.Mw e h0;obtain⟨r1,r2⟩:=e.rest (agT _) h0;have hc:Ch (xB (fB h L) (fB h L+1) (j+(q.length-d.length))) (aP (br (-1) (b8 q d))):=by
     refine Ch.trim ?_;obtain⟨D,d1,d2,d3⟩:=r1;refine⟨D,d1,d2,fun i => ?_⟩;obtain⟨m,m1,m2⟩:=d3 i;refine⟨-m,?_,by rw[gn];exact m2⟩;rw[dD,agX,←m1];grind
    have next:=ih _ _ (pre++[q]) d _ (by have:=jA (p:=q) e.zq h0;omega) (by rw[afW,agt];omega) (e.next (agT _) h0 hc (jA e.zq h0) (bH _))
    have es:(pre++[q]).map (fun g=>g.map aI)++[d.map aI]=(pre++[q]++[d]).map (fun g=>g.map aI):=by rw[agd (l₁:=pre++[q])];rfl
    have hlen:((pre++[q]++[d]).map (fun g=>g.map aI)).length=pre.length+2:=by simp
    have tD:=Ak.Of (-1) (by unfold ay;omega);have:=afC.2 h0;refine gd.l10 _ _ pre.length (q.map aI) _ _ _ _ _ _ (by rw[bx];omega) (by rw[es,hlen];omega) (by rw[es,hlen];unfold ay;omega) (by rw[es,hlen];omega) (by rw[es,hlen];omega) (by rw[es];simp) c1 tD c2 ?_;rw[es];have e2:pre++[q]++chainF n d (aP (br (-1) (b8 q d)))=pre++q::chainF n d (aP (br (-1) (b8 q d))):=by simp
    rwa[e2] at next
 have:=loop (bj p).length 0 1 [] (bj p) (ax (bj p)) (mc f2) (by simp;omega) f.yU;exact gd.e0 _ _ _ _ _ (La.Jv f) hd this
theorem changes(G:List (List Rat))(x:Rat)(hG:∀g∈G,aS g=false∧Fl 1073741824 g∧g.length≤10)(hl:G.length≤1000)(hx:ht x≤1073741824):Cp 207 [Mv G,(aI x).pv] (vI (gi G x)):=by
 have loop:∀(j t n:Nat) (l:Int),G.length-t=j→t≤G.length→n≤t → -1≤l→l≤1→dw.ah n l (G.map (fun g=>g.map aI)) t (aI x) (vI ((n:Int)+varS l ((G.drop t).map (fun g=>sg (evalL g x))))):=by
  intro j
  induction j with
  |zero =>intro t n l hj ht hn _ _;rw[afV (by omega),aih,varS,Int.add_zero];exact dw.tN n l _ t _ (by rw[afq];omega)
  |succ j ih =>
   intro t n l hj htt hn HF F9;obtain⟨g,hg⟩:∃g,G[t]? = some g:=⟨_,afp (by omega)⟩;obtain⟨z,fl,ln⟩:=hG g (afx hg);have hm:(G.map (fun g=>g.map aI))[t]? = some (g.map aI):=by rw[afu,hg];rfl
   have tT:=Qa.At (g.map aI) (aI x) (by rw[bx];omega) (iT fl) (bF hx);rw[gI,bI] at tT;have h3:=rB g x 1073741824 fl hx;have h4:g.length*(2*1073741824+1)≤10*(2*1073741824+1):=afw _ ln;have hv:=QR.Sign (evalL g x) (by omega);have VK:ig (evalL g x) 0=sg (evalL g x):=rfl;have h3s:=ni (evalL g x);rw[VK] at hv;have dI:t<(G.map (fun g=>g.map aI)).length:=by rw[afq];omega
   rw[drop_cons hg,agk,varS];generalize sg (evalL g x)=s at hv h3s;by_cases h0:s=0
   ·rw[afI h0];exact dw.l10 n l _ t _ _ _ _ dI hm tT hv h0 (by omega) (ih (t+1) n l (by omega) (by omega) (by omega) HF F9)
   ·rw[afG h0];by_cases h1:s = -l
    ·rw[afI h1];have:=ih (t+1) (n+1) s (by omega) (by omega) (by omega) (by omega) (by omega);rw[show (((n+1:Nat):Int))+varS s ((G.drop (t+1)).map (fun g=>sg (evalL g x)))=(n:Int)+(1+varS s ((G.drop (t+1)).map (fun g=>sg (evalL g x)))) from by omega] at this;exact dw.cB n l _ t _ _ _ _ dI hm tT hv h0 (by unfold ay;omega) h1 (by omega) (by omega) this
    ·rw[afG h1,ajk];exact dw.jT n l _ t _ _ _ _ dI hm tT hv h0 (by unfold ay;omega) h1 (by omega) (ih (t+1) n s (by omega) (by omega) (by omega) (by omega) (by omega))
 have:=loop _ 0 0 0 rfl (by omega) (by omega) (by omega) (by omega);rw[agB,show(((0:Nat):Int))=0 from rfl,ajk] at this;exact dw.e0 _ _ this
end WJ
def qG(a b:Rat):ak:=⟨aI a,aI b⟩
def ak.ok(r:ak):Bool:=r.lo.valid&&(r.hi.valid&&decide (r.lo.val≤r.hi.val))
def Mx(r:ak):Rat:=bif r.ok then r.lo.val else 0
def My(r:ak):Rat:=bif r.ok then r.hi.val else 0
theorem D5{r:ak}(h:r.ok=true):r.lo.valid=true∧r.hi.valid=true∧r.lo.val≤r.hi.val:=by unfold ak.ok at h;simp only[Bool.and_eq_true,decide_eq_true_eq] at h;exact h
theorem VZ(r:ak):Mx r≤My r:=by
 unfold Mx My;cases h:r.ok with
 |true=>exact(D5 h).2.2
 |false=>exact afR
theorem Hf{a b:Rat}(h:a≤b):(qG a b).ok=true:=by unfold ak.ok qG;simp only[su,bI,decide_eq_true h,Bool.and_self]
theorem Lc{a b:Rat}(h:a≤b):Mx (qG a b)=a:=by unfold Mx;rw[Hf h,afz];exact bI a
theorem Ld{a b:Rat}(h:a≤b):My (qG a b)=b:=by unfold My;rw[Hf h,afz];exact bI b
theorem Qx{r:ak}(h:r.ok=true):qG (Mx r) (My r)=r:=by obtain⟨h1,h2,h3⟩:=D5 h;unfold qG Mx My;rw[h,afz,afz,Ah h1,Ah h2]
theorem SE{r:ak}(h:r.ok=false):qG (Mx r) (My r)=⟨⟨false,[],[]⟩,⟨false,[],[]⟩⟩:=by unfold qG Mx My;rw[h];rfl
abbrev Jw(k:Nat)(r:ak):Prop:=(r.lo.num.length≤k∧r.lo.den.length≤k)∧(r.hi.num.length≤k∧r.hi.den.length≤k)
theorem Hg{a b:Rat}{k:Nat}(ha:ht a≤k)(hb:ht b≤k):Jw k (qG a b):=⟨bF ha,bF hb⟩
theorem V0{r:ak}{k:Nat}(h:Jw k r)(hk:1≤k):ht (Mx r)≤k:=by
 unfold Mx;cases r.ok with
 |true=>exact eK h.1.1 h.1.2 hk
 |false=>exact afJ (ajj j9) hk
theorem V1{r:ak}{k:Nat}(h:Jw k r)(hk:1≤k):ht (My r)≤k:=by
 unfold My;cases r.ok with
 |true=>exact eK h.2.1 h.2.2 hk
 |false=>exact afJ (ajj j9) hk
namespace WK
theorem Valid(r:ak)(h:Jw 68719476736 r):Cp 142 [r.pv] (vB r.ok):=by
 have h1:=uS.Valid r.lo ⟨by omega,by omega⟩;have h2:=uS.Valid r.hi ⟨by omega,by omega⟩;have h3:=uS.yE r.lo r.hi ⟨by omega,by omega⟩ ⟨by omega,by omega⟩;unfold ak.ok;cases hv:r.lo.valid with
 |false=>exact mQ.e2 r _ h1 hv
 |true =>
  cases hw:r.hi.valid with
  |false=>exact mQ.e1 r _ _ h1 hv h2 hw
  |true =>have:=mQ.e0 r _ _ _ h1 hv h2 hw h3;rwa[show decide (ig r.lo.val r.hi.val≤0)=decide (r.lo.val≤r.hi.val) from decide_eq_decide.2 yK] at this
theorem clean(r:ak)(h:Jw 68719476736 r):Cp 75 [r.pv] (qG (Mx r) (My r)).pv:=by
 have hv:=Valid r h;cases hk:r.ok with
 |false=>rw[SE hk];exact qg.e0 r _ hv hk
 |true =>obtain⟨h1,h2,h3⟩:=D5 hk;have:=qg.e1 r _ _ _ hv hk (JV.xx r.lo ⟨by omega,by omega⟩) (JV.xx r.hi ⟨by omega,by omega⟩);rw[Ah h1,Ah h2] at this;rw[Qx hk];exact this
theorem TU(x:Rat)(hx:ht x≤68719476736):Cp 73 [(aI x).pv] (qG x x).pv:=uI.e0 _ _ _ (QF.xx x hx) (QF.xx x hx)
end WK
namespace CJv
theorem Valid(r:ak)(h:Jw 68719476736 r):Cp 245 [r.pv] (vB r.ok):=by
 have h1:=Ak.Valid r.lo ⟨by omega,by omega⟩;have h2:=Ak.Valid r.hi ⟨by omega,by omega⟩;have h3:=Ak.yE r.lo r.hi ⟨by omega,by omega⟩ ⟨by omega,by omega⟩;unfold ak.ok;cases hv:r.lo.valid with
 |false=>exact iE.e2 r _ h1 hv
 |true =>
  cases hw:r.hi.valid with
  |false=>exact iE.e1 r _ _ h1 hv h2 hw
  |true =>have:=iE.e0 r _ _ _ h1 hv h2 hw h3;rwa[show decide (ig r.lo.val r.hi.val≤0)=decide (r.lo.val≤r.hi.val) from decide_eq_decide.2 yK] at this
end CJv
def ptQ(a w:Rat)(k j:Nat):Rat:=a+w*Rat.divInt (j:Int) ((2^k:Nat):Int)
theorem Hh(k:Nat):(((2^k:Nat):Int):Rat)≠0:=fun e=>by have:=aiD.1 (show (((2^k:Nat):Int):Rat)=((0:Int):Rat) from e);have:=aiG (n:=k) (show 0<2 by omega);omega
theorem n5(a w:Rat)(k j:Nat):ptQ a w (k+1) (2*j)=ptQ a w k j:=by
 unfold ptQ
 congr 2
 have h:=Hh k;have h2:=Hh (k+1);rw[agi,agi,agW,agW];have e:(((2^(k+1):Nat):Int):Rat)=(((2^k:Nat):Int):Rat)*2:=by rw[show (2:Rat)=((2:Int):Rat) from rfl,←ag2];congr 1
 have e2:((2*j:Nat):Int)=(j:Int)*2:=by omega
 rw[e,e2,ag2,show(((2:Int)):Rat)=2 from rfl,Rat.inv_mul_rev];have i2:(2:Rat)*2⁻¹=1:=by decide +kernel
 generalize ((((2^k:Nat):Int):Rat))⁻¹=u;generalize ((j:Int):Rat)=v;have:v*2*(2⁻¹*u)=v*(2*2⁻¹)*u:=by grind
 rw[this,i2];grind
theorem Qy(a w:Rat)(k j:Nat):Rat.divInt 1 2*(ptQ a w k j+ptQ a w k (j+1))=ptQ a w (k+1) (2*j+1):=by
 rw[←n5 a w k j,←n5 a w k (j+1)];unfold ptQ;rw[agi,agi,agi,agi,agW,agW,agW,agW];generalize ((((2^(k+1):Nat):Int):Rat))⁻¹=u;have e1:((2*j:Nat):Int)=2*(j:Int):=by omega
 have e2:((2*(j+1):Nat):Int)=2*(j:Int)+2:=by omega
 have e3:((2*j+1:Nat):Int)=2*(j:Int)+1:=by omega
 rw[e1,e2,e3,agM,agM,ag2];generalize ((j:Int):Rat)=v;have i2:((1:Int):Rat)*(((2:Int):Rat))⁻¹=1/2:=by decide +kernel
 rw[i2,show((2:Int):Rat)=2 from rfl,show((1:Int):Rat)=1 from rfl];grind
theorem FR{w:Rat}(a:Rat)(h:0≤w)(k j:Nat):ptQ a w k j≤ptQ a w k (j+1):=by
 unfold ptQ;have h2:Rat.divInt (j:Int) ((2^k:Nat):Int)≤Rat.divInt ((j+1:Nat):Int) ((2^k:Nat):Int):=by rw[agi,agi,agW,agW];refine afF (agu.2 (by omega)) (ag8 (Rat.inv_pos.2 ?_));have:=aiG (n:=k) (show 0<2 by omega);exact aiF.2 (show (0:Int)<_ by omega)
 have:=afN h2 h;grind
theorem Qz(k:Nat){j:Nat}(hj:j≤2^k):wl (j:Int)≤k/32+1:=by
 refine lE ?_;have h1:2^k<2^(32*(k/32+1)):=ahv (by omega) (by omega);rw[ajq] at h1;have h2:(2:Nat)^32=4294967296:=by decide
 rw[h2] at h1;generalize 4294967296^(k/32+1)=P at h1 ⊢;omega
theorem Av(a w:Rat){k j:Nat}(hj:j≤2^k):ht (ptQ a w k j)≤ht a+ht w+k/32+4:=by have h3:=vE (j:Int) ((2^k:Nat):Int);have h6:=Qz k hj;have h7:=Qz k (afy (2^k));have h8:=nS w (Rat.divInt (j:Int) ((2^k:Nat):Int));have h9:=tu a (w*Rat.divInt (j:Int) ((2^k:Nat):Int));unfold ptQ;omega
theorem QA(a w:Rat)(k j:Nat):ptQ a w k (j+1)-ptQ a w k j=w*Rat.divInt 1 ((2^k:Nat):Int):=by
 unfold ptQ;rw[agi,agi,agi,agW,agW,agW];have e:(((j+1:Nat):Int):Rat)=((j:Int):Rat)+1:=by rw[show ((j+1:Nat):Int)=(j:Int)+1 from by omega,agM];rfl
 have e1:((1:Int):Rat)=1:=rfl;rw[e,e1];generalize ((((2^k:Nat):Int):Rat))⁻¹=u;grind
theorem rG(a w:Rat):ptQ a w 0 0=a∧ptQ a w 0 1=a+w:=by
 have e0:Rat.divInt ((0:Nat):Int) ((2^0:Nat):Int)=0:=by decide +kernel
 have e1:Rat.divInt ((1:Nat):Int) ((2^0:Nat):Int)=1:=by decide +kernel
 unfold ptQ;rw[e0,e1];constructor<;>grind
def eT(G:List (List Rat))(f:List Rat)(a w:Rat):Nat→Nat→Nat→Option (List (Rat×Rat))
 |0,_,_=>none
 |n+1,k,j=>if gi G (ptQ a w k j)-gi G (ptQ a w k (j+1))=0 then some [] else
  if gi G (ptQ a w k j)-gi G (ptQ a w k (j+1))=1∧evalL f (ptQ a w k j)≠0 then
   (if evalL f (ptQ a w k (j+1))=0 then some [(ptQ a w k (j+1),ptQ a w k (j+1))] else some [(ptQ a w k j,ptQ a w k (j+1))])
  else match eT G f a w n (k+1) (2*j),eT G f a w n (k+1) (2*j+1) with
   |some x,some y=>some (x++y)
   |_,_=>none
theorem D6{G:List (List Rat)}{f:List Rat}{a w:Rat} : ∀(n k j:Nat) (l:List (Rat×Rat)),eT G f a w n k j=some l→(l.length:Int)=gi G (ptQ a w k j)-gi G (ptQ a w k (j+1))
 |0,_,_,_,h=>by cases h
 |n+1,k,j,l,h=>by
  rw[eT] at h;by_cases h0:gi G (ptQ a w k j)-gi G (ptQ a w k (j+1))=0
  ·rw[afI h0] at h;injection h with h;subst h;exact h0.symm
  ·rw[afG h0] at h;by_cases h1:gi G (ptQ a w k j)-gi G (ptQ a w k (j+1))=1∧evalL f (ptQ a w k j)≠0
   ·rw[afI h1] at h;split at h<;>(injection h with h;subst h;exact h1.1.symm)
   ·rw[afG h1] at h;cases hx:eT G f a w n (k+1) (2*j) with
    |none=>rw[hx] at h;cases h
    |some x =>
     cases hy:eT G f a w n (k+1) (2*j+1) with
     |none=>rw[hx,hy] at h;cases h
     |some y =>
      rw[hx,hy] at h;injection h with h;subst h
      have i1:=D6 n _ _ _ hx;have i2:=D6 n _ _ _ hy;rw[n5] at i1;rw[show 2*j+1+1=2*(j+1) from by omega,n5] at i2;rw[afW];omega
theorem X1{a w:Rat}(hw:0≤w){k j:Nat} : a≤ptQ a w k j:=by
 unfold ptQ;have h2:0≤Rat.divInt (j:Int) ((2^k:Nat):Int):=by rw[agi,agW];refine ags (agu.2 (show (0:Int)≤_ by omega)) (ag8 (Rat.inv_pos.2 ?_));have:=aiG (n:=k) (show 0<2 by omega);exact aiF.2 (show (0:Int)<_ by omega)
 have:=ags hw h2;grind
theorem V2(a w:Rat)(k:Nat):ptQ a w k (2^k)=a+w:=by unfold ptQ;rw[agi,agW,Rat.mul_inv_cancel _ (Hh k)];grind
theorem SF{a w:Rat}(hw:0≤w){k i j:Nat}(h:i≤j):ptQ a w k i≤ptQ a w k j:=by
 induction h with
 |refl=>exact afR
 |step _ ih=>exact agv ih (FR a hw k _)
theorem Aw{f:List Rat}{a w:Rat}{K:Nat}(hw:0≤w)(hz:aS f=false)(hf:f≠[])(hc:vM f (ax f))
  (hs:∀j,j<2^K→gi (chainF f.length f (ax f)) (ptQ a w K j)-gi (chainF f.length f (ax f)) (ptQ a w K (j+1))≤1∧(evalL f (ptQ a w K j)=0→gi (chainF f.length f (ax f)) (ptQ a w K j)-gi (chainF f.length f (ax f)) (ptQ a w K (j+1))≤0)) :
  ∀(n k j:Nat),n+k=K+1→k≤K→j<2^k→∃l,eT (chainF f.length f (ax f)) f a w n k j=some l
 |0,k,j,hn,hk,hj=>by omega
 |n+1,k,j,hn,hk,hj=>by
  have ha:=uZ hz hf hc (FR a hw k j);rw[eT];by_cases h0:gi (chainF f.length f (ax f)) (ptQ a w k j)-gi (chainF f.length f (ax f)) (ptQ a w k (j+1))=0
  ·exact⟨_,afI h0⟩
  ·rw[afG h0];by_cases h1:gi (chainF f.length f (ax f)) (ptQ a w k j)-gi (chainF f.length f (ax f)) (ptQ a w k (j+1))=1∧evalL f (ptQ a w k j)≠0
   ·rw[afI h1];split
    ·exact⟨_,rfl⟩
    ·exact⟨_,rfl⟩
   ·rw[afG h1];by_cases Y5:k=K
    ·subst Y5;obtain⟨s1,s2⟩:=hs j hj;exact absurd ⟨by omega,fun e=>by have:=s2 e;omega⟩ h1
    ·have hp:2^(k+1)=2*2^k:=by rw[afM];omega
     obtain⟨x,hx⟩:=Aw hw hz hf hc hs n (k+1) (2*j) (by omega) (by omega) (by omega);obtain⟨y,hy⟩:=Aw hw hz hf hc hs n (k+1) (2*j+1) (by omega) (by omega) (by omega);rw[hx,hy];exact⟨_,rfl⟩
def ES(m:Rat):Nat→Nat→Nat
 |0,j=>j
 |n+1,j=>if twP j<m then ES m n (j+1) else j
def BD(t:Rat):List Rat→Nat→Nat
 |[],j=>j
 |c::r,j=>BD t r (ES (1+ab (c/t)) (441-j) j)
def bndP(p:List Rat):Rat:=twP (BD (bz p) p 0)
theorem FT{m:Rat}(hm:m≤twP 440):∀n j,n+j=441→j≤440→j≤ES m n j∧ES m n j≤440∧m≤twP (ES m n j)
 |0,j,h,hj=>by omega
 |n+1,j,h,hj=>by
  rw[ES];by_cases dI:twP j<m
  ·rw[afI dI];have:j<440:=by
    refine ahP fun hh => ?_
    have:=eb hh;grind
   obtain⟨a,b,c⟩:=FT hm n (j+1) (by omega) (by omega);exact⟨by omega,b,c⟩
  ·rw[afG dI];exact⟨afy _,hj,by grind⟩
theorem V3{c t:Rat}(hc:ht c≤1)(O7:ht t≤1):1+ab (c/t)≤twP 440:=by have h1:=Qt (c/t);have h2:=tv c t;have h3:=eb (show 32*ht (c/t)≤64 by omega);have h4:=Qq 64;have h5:twP 65=twP 64+twP 64:=oA 64;have h6:twP 65≤twP 440:=eb (by omega);grind
theorem sy{t:Rat} : ∀(p:List Rat) (j:Nat),(∀c∈p,1+ab (c/t)≤twP 440)→j≤440→j≤BD t p j∧BD t p j≤440∧∀c∈p,1+ab (c/t)≤twP (BD t p j)
 |[],j,_,hj=>⟨afy _,hj,fun c h=>by cases h⟩
 |c::r,j,h,hj=>by
  obtain⟨a1,a2,a3⟩:=FT (h c (agA ..)) (441-j) j (by omega) hj;obtain⟨b1,b2,b3⟩:=sy r _ (fun x hx=>h x (ag9 _ hx)) a2;rw[BD];refine⟨by omega,b2,fun x hx => ?_⟩;rcases afY.1 hx with rfl|hx
  ·exact agv a3 (eb b1)
  ·exact b3 x hx
theorem V4{j:Nat}(h:j≤66):ht (twP j)≤3:=by
 unfold twP;rw[DI];refine aj9.2 ⟨lE ?_,by omega⟩;have h1:2^j<2^96:=ahv (by omega) (by omega);have h2:(2:Nat)^96=4294967296^3:=by decide
 rw[h2] at h1;generalize 2^j=x at h1 ⊢;generalize 4294967296^3=y at h1 ⊢;omega
theorem SG{j m:Nat}(h:j<32*m):ht (twP j)≤max m 1:=by
 unfold twP;rw[DI];have h1:2^j<2^(32*m):=ahv (by omega) h;rw[ajq] at h1;have h2:wl (((2^j:Nat):Int))≤m:=lE (by show((2^j:Nat):Int).natAbs<4294967296^m;rw[afQ];exact h1)
 omega
theorem B8{j:Nat}(h:j≤441):ht (twP j)≤14:=SG (m:=14) (by omega)
def Bd(p:List Rat):Prop:=Fl 14 p∧∀c∈p,1+ab (c/bz p)≤twP 440
theorem SH{p:List Rat}(hp:Fl 1 p):ht (bz p)≤1:=by unfold bz;exact vJ hp (by omega) _
theorem Fl.bd{p:List Rat}(hp:Fl 1 p):Bd p:=⟨cb hp (by omega),fun c hc=>V3 (hp c hc) (SH hp)⟩
theorem QB{p:List Rat}(hp:Bd p):ht (bz p)≤14:=by unfold bz;exact vJ hp.1 (by omega) _
theorem Hi{p:List Rat}(hp:Bd p):ht (bndP p)≤14:=B8 (by have:=(sy p 0 hp.2 (by omega)).2.1;omega)
theorem B9(p:List Rat):0<bndP p:=nj _
theorem SI{p:List Rat}(hz:aS p=false)(h0:p≠[])(hp:Bd p):WI p (bndP p):=by
 intro c hc;have h1:=(sy p 0 hp.2 (by omega)).2.2 c hc;have O7:=cK hz h0;have h2:ab (c/bz p)*ab (bz p)=ab c:=by rw[←nd,afT O7]
 have h3:=afF h1 (cG (bz p));unfold bndP;grind
theorem V5(p:List Rat)(hp:Bd p):bndP p≤twP 440:=eb (sy p 0 hp.2 (by omega)).2.1
theorem Mz(q:Rat):(if q<0 then -q else q)=ab q:=by
 rcases bC q with ⟨h1,h2⟩|⟨h1,h2⟩
 ·rw[afG (by grind),h2]
 ·rw[afI h1,h2]
theorem MA{p:List Rat}(h0:p≠[]):(p.map aI)[p.length-1]? = some (aI (bz p)):=by
 have:=afC.2 h0;have e:p[p.length-1]? = some (bz p):=by unfold bz;rw[ox (show p.length-1<p.length by omega)]
 rw[afu,e];rfl
theorem Ax{p:List Rat}(hz:aS p=false)(h0:p≠[])(x:Rat):evalL p x=0↔evalL (bj p) x=0:=by
 obtain⟨f1,f2,f3,⟨u,hu⟩,k,hk,v,hv⟩:=free_spec hz h0;constructor
 ·intro h;have h1:=hv x;rw[h,ahE,DP] at h1;refine afE fun fT => ?_
  have:∀n:Nat,evalL (bj p) x^n≠0:=fun n=>by
   induction n with
   |zero=>rw[aik];decide
   |succ n ih=>rw[ai4];intro e;rcases agG.1 e with e|e;exact ih e;exact fT e
  exact this k h1
 ·intro h;rw[hu,h,ahE]
def SJ(p:List Rat)(lo hi:Rat):Bool:=bif decide (lo=hi) then decide (evalL (bj p) lo=0) else (decide (sg (evalL (bj p) lo)*sg (evalL (bj p) hi) = -1)&&decide (gi (aX p) lo-gi (aX p) hi=1))
def Jx(p:List Rat)(r:ak):Bool:=r.ok&&SJ p (Mx r) (My r)
theorem n6{x:Rat} : sg x=0↔x=0:=by rcases eS x with ⟨h1,h2⟩|⟨h1,h2⟩|⟨h1,h2⟩<;>constructor<;>intro h<;>first|exact h1|exact h2|(exfalso;rw[h2] at h;exact absurd h (by decide))|(exfalso;grind)
theorem u7{p q:Rat} : ig p q=0↔p=q:=by
 unfold ig;by_cases h1:p<q
 ·rw[afI h1];constructor
  ·intro h;exact absurd h (by decide)
  ·intro h;subst h;exact absurd h1 Rat.lt_irrefl
 ·rw[afG h1];by_cases h2:p=q
  ·rw[afI h2];exact⟨fun _=>h2,fun _=>rfl⟩
  ·rw[afG h2];exact⟨fun h=>absurd h (by decide),fun h=>absurd h h2⟩
theorem MB{a b:Int}{q:Prop}[Decidable q](h:a=b↔q):(a==b)=decide q:=by
 by_cases hq:q
 ·rw[ag6 hq,h.2 hq];simp
 ·rw[ag5 hq];have:a≠b:=fun e=>hq (h.1 e)
  simpa using this
theorem xD(x y:Rat):ay (sg x*sg y):=by unfold ay;rcases ni x with h|h|h<;>rcases ni y with k|k|k<;>rw[h,k]<;>decide
theorem dL.yW{h L:Nat}{p:List Rat}(f:dL h L p):Fl 1073741824 (bj p):=cb (f.yT.fl f.fb.2.2.1) f.fb.2.2.2.1
theorem dL.qv{h L:Nat}{p:List Rat}(f:dL h L p):(bj p).length≤10:=by have:=f.qu;have:=f.len;have:=f.hL;omega
theorem dL.SK{h L:Nat}{p:List Rat}(f:dL h L p):Fl 1073741824 p:=cb (f.ch.fl f.h1) (by have:=f.fb;omega)
theorem dL.yX{h L:Nat}{p:List Rat}(f:dL h L p):p.length≤10:=by have:=f.len;have:=f.hL;omega
namespace Et
theorem SL{h L:Nat}{p:List Rat}(f:dL h L p):Cp 175 [pq p] .aC:=by have yV:=check (p.map aI) (xA (f.ch.fl f.h1) (by have:=f.fb;omega));have hp:=afC.2 f.ne;rw[f.tX,afI rfl,afG (by rw[bx];omega)] at yV;exact yV
theorem value(q:List Rat)(x:Rat)(z:aS q=false)(fl:Fl 1073741824 q)(ln:q.length≤10)(hx:ht x≤1073741824):Cp 185 [pq q,(aI x).pv] (vI (sg (evalL q x))):=by have tT:=JV.Eval (q.map aI) (aI x) (jy z (by omega)) (iT fl) (bF hx);rw[gI,bI] at tT;have h3:=rB q x 1073741824 fl hx;have h4:q.length*(2*1073741824+1)≤10*(2*1073741824+1):=afw _ ln;exact uJ.e0 _ _ _ none _ tT (QF.Sign (evalL q x) (by omega))
theorem QC{h L:Nat}{p:List Rat}(f:dL h L p)(h1:Bd p):Cp 129 [pq p] (.aF [(aI (bndP p)).pv,.aC]):=by
 have tD:=uS.Of 1 (by unfold ay;omega);have e1:((1:Int):Rat)=1:=rfl;rw[e1] at tD;have hlen:=f.yX;have VS:=afC.2 f.ne;have As:=QB h1;have htn:=cK f.zp f.ne;have loop:∀d t j:Nat,p.length-t=d→t≤p.length→j≤440→jc.ah (p.map aI) t (aI (twP j)) (.aF [(aI (twP (BD (bz p) (p.drop t) j))).pv,.aC]):=by
  intro d
  induction d with
  |zero =>intro t j hd ht hj;rw[afV (by omega)];exact jc.jT _ t _ (by rw[bx];omega)
  |succ d ih =>
   intro t j hd htt hj;obtain⟨c,hc⟩:∃c,p[t]? = some c:=⟨_,afp (by omega)⟩;have hcm:(p.map aI)[t]? = some (aI c):=by rw[afu,hc];rfl
   have Es:=h1.1 c (afx hc);have Qf:=QF.Div c (bz p) (by omega) (by omega) htn;have hq:=tv c (bz p);have fQ:=QF.Abs (c/bz p) (by omega);rw[Mz] at fQ;have hqt:=h1.2 c (afx hc);have hht:ht (ab (c/bz p))≤28:=by
    rw[←Mz];split
    ·rw[uR];omega
    ·omega
   have H5:=QF.Add 1 (ab (c/bz p)) (by decide) (by omega);have hh1:=tu 1 (ab (c/bz p));have dU:ht (1:Rat)=1:=by decide
   rw[drop_cons hc,BD];have inner:∀n j,n+j=441→j≤440→jc.a8 (p.map aI) t (aI (twP j)) (aI (c/bz p)) (.aF [(aI (twP (BD (bz p) (p.drop (t+1)) (ES (1+ab (c/bz p)) n j)))).pv,.aC]):=by
    intro n
    induction n with
    |zero=>intro j h hj;omega
    |succ n ihn =>
     intro j hn hj;have ZU:=B8 (j:=j) (by omega);have yD:=QF.yE (twP j) (1+ab (c/bz p)) (by omega) (by omega);rw[ES];by_cases dI:twP j<1+ab (c/bz p)
     ·rw[afI dI];have abb:j<440:=by
       refine ahP fun hh => ?_
       have:=eb hh;grind
      have HK:=QF.Add (twP j) (twP j) (by omega) (by omega);rw[←oA] at HK;refine jc.uF _ t _ _ _ _ _ _ _ tD fQ H5 yD ?_ HK (ihn (j+1) (by omega) (by omega));refine Int.lt_of_not_ge fun hh => ?_
      have:=vG.1 hh;grind
     ·rw[afG dI];exact jc.xe _ t _ _ _ _ _ _ tD fQ H5 yD (vG.2 (by grind)) (by omega) (ih (t+1) j (by omega) (by omega) hj)
   refine jc.l10 _ t _ _ (p.length-1) _ _ (by rw[bx];omega) hcm (by rw[bx];unfold ay;omega) (by rw[bx];omega) (MA f.ne) Qf (inner (441-j) j (by omega) hj)
 have:=loop _ 0 0 rfl (by omega) (by omega);rw[agB,yO] at this;exact jc.e0 _ _ (SL f) tD this
theorem NS{h L:Nat}{p:List Rat}(f:dL h L p)(r:ak)(hr:Jw 1073741824 r):Cp 176 [pq p,r.pv] (.aF [vB (Jx p r),.aC]):=by
 have hv:=WK.Valid r ⟨⟨by omega,by omega⟩,⟨by omega,by omega⟩⟩;obtain⟨f1,f2,_⟩:=free_spec f.zp f.ne;cases ho:r.ok with
 |false =>
  rw[ho] at hv;have:Jx p r=false:=by unfold Jx;rw[ho,ah1]
  rw[this];exact jI.e0 _ r _ hv rfl
 |true =>
  rw[ho] at hv;have hm:=Qx ho;have h1:=V0 hr (by omega);have h2:=V1 hr (by omega);have hle:=VZ r;have e0:Jx p r=SJ p (Mx r) (My r):=by unfold Jx;rw[ho,agU]
  rw[e0];generalize Mx r=lo at hm h1 hle ⊢;generalize My r=hi at hm h2 hle ⊢;subst hm;have hc:=QF.yE lo hi (by omega) (by omega);unfold SJ;by_cases he:lo=hi
  ·rw[ag6 he,afz];have Hj:=value p lo f.zp f.SK f.yX h1;have:=jI.e1 _ (qG lo hi) _ _ _ hv rfl hc (by rw[he];exact u7.2 rfl) Hj;rw[MB (q:=evalL (bj p) lo=0) (by rw[n6];exact Ax f.zp f.ne lo)] at this;exact this
  ·rw[ag5 he,afP];have fT:ig lo hi≠0:=fun e=>he (u7.1 e)
   have v1:=value (bj p) lo f1 f.yW f.qv h1;have v2:=value (bj p) hi f1 f.yW f.qv h2;by_cases hs:sg (evalL (bj p) lo)*sg (evalL (bj p) hi) = -1
   ·rw[ag6 hs,agU];have:=jI.e3 _ (qG lo hi) _ _ _ _ _ _ none hv rfl hc fT (BC.Jv f) v1 v2 (xD _ _) hs (Count f lo hi hle h1 h2);rw[MB (q:=gi (aX p) lo-gi (aX p) hi=1) Iff.rfl] at this;exact this
   ·rw[ag5 hs,ah1];exact jI.e2 _ (qG lo hi) _ _ _ _ _ hv rfl hc fT (BC.Jv f) v1 v2 (xD _ _) hs
theorem NT{h L:Nat}{p:List Rat}(f:dL h L p)(r:ak)(hr:Jw 1073741824 r):Cp 124 [pq p,r.pv] (.aF [vB (Jx p r),.aC]):=tO.e0 _ r _ none (SL f) (NS f r hr)
end Et
namespace WJ
theorem SL{h L:Nat}{p:List Rat}(f:dL h L p):Cp 204 [pq p] (vI 0):=by have yV:=Error (p.map aI) (xA (f.ch.fl f.h1) (by have:=f.fb;omega));have hp:=afC.2 f.ne;rw[f.tX,afI rfl,afG (by rw[bx];omega)] at yV;exact yV
theorem atS(q:List Rat)(x:Rat)(fl:Fl 1073741824 q)(ln:q.length≤10)(hx:ht x≤1073741824):Cp 208 [pq q,(aI x).pv] (aI (evalL q x)).pv∧Cp 85 [(aI (evalL q x)).pv] (vI (sg (evalL q x))):=by have tT:=Qa.At (q.map aI) (aI x) (by rw[bx];omega) (iT fl) (bF hx);rw[gI,bI] at tT;have h3:=rB q x 1073741824 fl hx;have h4:q.length*(2*1073741824+1)≤10*(2*1073741824+1):=afw _ ln;exact⟨tT,QR.Sign (evalL q x) (by omega)⟩
theorem QC{h L:Nat}{p:List Rat}(f:dL h L p)(h1:Bd p):Cp 159 [pq p] (.aF [(aI (bndP p)).pv,vI 0]):=by
 have tD:=Ak.Of 1 (by unfold ay;omega);have e1:((1:Int):Rat)=1:=rfl;rw[e1] at tD;have hlen:=f.yX;have VS:=afC.2 f.ne;have As:=QB h1;have htn:=cK f.zp f.ne;have loop:∀d t j:Nat,p.length-t=d→t≤p.length→j≤440→df.ah (p.map aI) t (aI (twP j)) (.aF [(aI (twP (BD (bz p) (p.drop t) j))).pv,vI 0]):=by
  intro d
  induction d with
  |zero =>intro t j hd ht hj;rw[afV (by omega)];exact df.cB _ t _ (by rw[bx];omega)
  |succ d ih =>
   intro t j hd htt hj;obtain⟨c,hc⟩:∃c,p[t]? = some c:=⟨_,afp (by omega)⟩;have hcm:(p.map aI)[t]? = some (aI c):=by rw[afu,hc];rfl
   have Es:=h1.1 c (afx hc);have Qf:=QR.Div c (bz p) (by omega) (by omega) htn;have hq:=tv c (bz p);have fQ:=QR.Abs (c/bz p) (by omega);rw[Mz] at fQ;have hqt:=h1.2 c (afx hc);have hht:ht (ab (c/bz p))≤28:=by
    rw[←Mz];split
    ·rw[uR];omega
    ·omega
   have H5:=QR.Add (ab (c/bz p)) 1 (by omega) (by decide);have hh1:=tu 1 (ab (c/bz p));have dU:ht (1:Rat)=1:=by decide
   rw[Rat.add_comm] at H5;rw[drop_cons hc,BD];have inner:∀n j,n+j=441→j≤440→df.a8 (p.map aI) t (aI (twP j)) (aI (c/bz p)) (.aF [(aI (twP (BD (bz p) (p.drop (t+1)) (ES (1+ab (c/bz p)) n j)))).pv,vI 0]):=by
    intro n
    induction n with
    |zero=>intro j h hj;omega
    |succ n ihn =>
     intro j hn hj;have ZU:=B8 (j:=j) (by omega);have yD:=QR.yE (twP j) (1+ab (c/bz p)) (by omega) (by omega);rw[ES];by_cases dI:twP j<1+ab (c/bz p)
     ·rw[afI dI];have abb:j<440:=by
       refine ahP fun hh => ?_
       have:=eb hh;grind
      have HK:=QR.Add (twP j) (twP j) (by omega) (by omega);rw[←oA] at HK;refine df.uF _ t _ _ _ _ _ _ _ fQ tD H5 yD ?_ HK (ihn (j+1) (by omega) (by omega));refine Int.lt_of_not_ge fun hh => ?_
      have:=vG.1 hh;grind
     ·rw[afG dI];exact df.xe _ t _ _ _ _ _ _ fQ tD H5 yD (vG.2 (by grind)) (by omega) (ih (t+1) j (by omega) (by omega) hj)
   refine df.l10 _ t _ _ (p.length-1) _ _ _ (by rw[bx];omega) hcm (by rw[bx];unfold ay;omega) (by rw[bx];omega) (MA f.ne) Qf (inner (441-j) j (by omega) hj)
 have:=loop _ 0 0 rfl (by omega) (by omega);rw[agB,yO] at this;exact df.e1 _ _ _ (SL f) rfl tD this
end WJ
def mkGs(l:List (Rat×Rat)):List ak:=l.map (fun r=>qG r.1 r.2)
theorem nk(l:List (Rat×Rat)):(mkGs l).length=l.length:=afq ..
theorem yY(l m:List (Rat×Rat)):mkGs (l++m)=mkGs l++mkGs m:=agd ..
theorem Jy(p:List Rat):∃r,aX p=bj p::r:=uX _ _ _
def isoK(h L:Nat):Nat:=32*(4*xB (fB h L) (fB h L+1) (L-1))+32*(fB h L+1)+442*L+3+442
def rH(h L:Nat):Prop:=441*(L+2)+1≤64*fB h L∧isoK h L/32+40≤1073741824
instance (h L:Nat):Decidable (rH h L):=by unfold rH;infer_instance
def iX(h L:Nat)(p:List Rat):List (Rat×Rat):=(eT (aX p) (bj p) (-bndP p) (bndP p+bndP p) (isoK h L+1) 0 0).getD []
theorem Hk{p:List Rat}(hp:Bd p):bndP p+bndP p≤twP 441∧ht (bndP p+bndP p)≤14:=by have h:=(sy p 0 hp.2 (by omega)).2.1;unfold bndP;rw[←oA];exact⟨eb (by omega),B8 (by omega)⟩
theorem QD(k:Nat):Rat.divInt 1 ((2^k:Nat):Int)*twP k=1:=by rw[agi];exact afT (Hh k)
theorem X2(k:Nat):0≤Rat.divInt 1 ((2^k:Nat):Int):=by
 have h:=QD k;have p:=nj k;generalize Rat.divInt 1 ((2^k:Nat):Int)=δ at *;generalize twP k=W at *;refine Rat.not_lt.1 fun dI => ?_
 have:=ai6 (show 0 < -δ by grind) p;grind
theorem X3{b T W δ:Rat}(h:b≤W)(hδ:0≤δ)(hT:0<T)(e:δ*(T*W)=1):b*δ*T≤1:=by have:=afF h (ags hδ (ag8 hT));grind
theorem u9{h L:Nat}{p:List Rat}(f:dL h L p)(h1:Bd p)(ok:rH h L):eT (aX p) (bj p) (-bndP p) (bndP p+bndP p) (isoK h L+1) 0 0=some (iX h L p):=by
 obtain⟨f1,f2,f3,_⟩:=free_spec f.zp f.ne;have hb:=B9 p;have hw:0≤bndP p+bndP p:=by grind
 obtain⟨l,hl⟩:=Aw (K:=isoK h L) (a := -bndP p) hw f1 f2 f3 (by
  intro j hj;have w:=QA (-bndP p) (bndP p+bndP p) (isoK h L) j;have k1:=X1 (a := -bndP p) hw (k:=isoK h L) (j:=j);have k2:=SF (a := -bndP p) hw (k:=isoK h L) (show j+1≤2^isoK h L by omega);rw[V2] at k2;have k3:=FR (-bndP p) hw (isoK h L) j;have u1:ab (ptQ (-bndP p) (bndP p+bndP p) (isoK h L) j)≤bndP p:=Jh (by grind) (by grind);have u2:ab (ptQ (-bndP p) (bndP p+bndP p) (isoK h L) (j+1))≤bndP p:=Jh (by grind) (by grind);refine NQ (r:=440) (m:=isoK h L-442) f.fb.2.2.1 f.yU f2 f3 (ag8 hb) (V5 p h1) ok.1 u1 u2 k3 ?_ ?_
  ·have hl:=f.qu;have F9:=f.len;have:(440+2)*(bj p).length≤442*L:=afO _ (by omega);unfold isoK;omega
  ·rw[w];have e1:isoK h L=(isoK h L-442)+442:=by unfold isoK;omega
   have e2:=QD (isoK h L);have e3:twP (isoK h L)=twP (isoK h L-442)*twP 442:=by rw[←rD,←e1]
   have b2:=agv (Hk h1).1 (eb (show 441≤442 by omega));exact X3 b2 (X2 _) (nj _) (by rw[←e3];exact e2)) (isoK h L+1) 0 0 (by omega) (by omega) (by omega)
 have hl:eT (aX p) (bj p) (-bndP p) (bndP p+bndP p) (isoK h L+1) 0 0=some l:=hl;unfold iX;rw[hl];rfl
namespace Et
theorem WL(lo hi:Rat)(h1:ht lo≤1073741824)(h2:ht hi≤1073741824)(hle:lo≤hi):Cp 127 [(qG lo hi).pv] (aI (Rat.divInt 1 2*(lo+hi))).pv:=by
 have hc:=WK.clean (qG lo hi) (Hg (afJ h1 (by omega)) (afJ h2 (by omega)));rw[Lc hle,Ld hle] at hc;have hh:=wF.e0 _ none (QF.Make 1 2 (by unfold ay;omega) (by unfold ay;omega) (by omega));have h3:=tu lo hi;have h4:ht (Rat.divInt 1 2)≤1:=by decide
 exact yx.e0 _ (qG lo hi) _ _ _ hc hh (QF.Add lo hi (by omega) (by omega)) (QF.Mul _ _ (by omega) (by omega))
theorem xr{p:List Rat}{x:Rat} : sg (evalL p x)≠0↔evalL p x≠0:=not_congr n6
theorem Hl{h L:Nat}{p:List Rat}(f:dL h L p){a w:Rat}{K:Nat}(hw:0≤w)(hh:ht a+ht w+K/32+4≤1073741824):∀(n k j:Nat) (l:List (Rat×Rat)) (out z:List ak),n+k=K+1→j<2^k→eT (aX p) (bj p) a w n k j=some l→z=out++mkGs l→z.length≤1000000 →
  au bu 131 [(.row 200000 0 out.length 6),(.pv (pq p)),(.pv (Mv (aX p))),(.pv (aI (ptQ a w k j)).pv),(.pv (aI (ptQ a w k (j+1))).pv)] [(200000,(.pure ((out:List ak).map ak.cells).flatten))] (.row 0 0 z.length 6) [(0,(.pure ((z:List ak).map ak.cells).flatten))] ∧
  (out=[]→au bu 131 [(.pv .ek),(.pv (pq p)),(.pv (Mv (aX p))),(.pv (aI (ptQ a w k j)).pv),(.pv (aI (ptQ a w k (j+1))).pv)] [] (.row 0 0 z.length 6) [(0,(.pure ((z:List ak).map ak.cells).flatten))])
 |0,k,j,l,out,z,hn,hj,hl,hz,hlen=>by cases hl
 |n+1,k,j,l,out,z,hn,hj,hl,hz,hlen=>by
  have p1:=Av a w (k:=k) (j:=j) (by omega);have p2:=Av a w (k:=k) (j:=j+1) (by omega);have Y5:k/32≤K/32:=aiO (by omega);have SD:=f.rE;have c1:=changes (aX p) (ptQ a w k j) (pz f) (by omega) (by omega);have c2:=changes (aX p) (ptQ a w k (j+1)) (pz f) (by omega) (by omega);obtain⟨a1,a2⟩:=mf (aX p) (ptQ a w k j);obtain⟨b1,b2⟩:=mf (aX p) (ptQ a w k (j+1));have hI:ay (gi (aX p) (ptQ a w k j)-gi (aX p) (ptQ a w k (j+1))):=by unfold ay;omega
  have v1:=value p (ptQ a w k j) f.zp f.SK f.yX (by omega);have v2:=value p (ptQ a w k (j+1)) f.zp f.SK f.yX (by omega);have r1:=Ax f.zp f.ne (ptQ a w k j);have r2:=Ax f.zp f.ne (ptQ a w k (j+1));have hle:=FR a hw k j;have D7:=WL (ptQ a w k j) (ptQ a w k (j+1)) (by omega) (by omega) hle;rw[Qy] at D7;have Wx:=WK.TU (ptQ a w k (j+1)) (by omega);have z1:=QF.xx (ptQ a w k j) (by omega);have z2:=QF.xx (ptQ a w k (j+1)) (by omega);have hj1:2*j<2^(k+1):=by rw[afM];omega
  have Gi:2*j+1<2^(k+1):=by rw[afM];omega
  rw[eT] at hl;by_cases h0:gi (aX p) (ptQ a w k j)-gi (aX p) (ptQ a w k (j+1))=0
  ·rw[afI h0] at hl;injection hl with hl;subst hl
   have:z=out:=by rw[hz];exact ahA _
   subst this;refine⟨jQ.e0 z _ _ _ _ _ _ c1 c2 hI h0,fun e => ?_⟩;subst e;exact jP.e0 _ _ _ _ _ _ c1 c2 hI h0
  ·rw[afG h0] at hl;have QE:∀l1 l2:List (Rat×Rat),eT (aX p) (bj p) a w n (k+1) (2*j)=some l1→eT (aX p) (bj p) a w n (k+1) (2*j+1)=some l2→z=(out++mkGs l1)++mkGs l2 →
     au bu 131 [(.row 200000 0 out.length 6),(.pv (pq p)),(.pv (Mv (aX p))),(.pv (aI (ptQ a w k j)).pv),(.pv (aI (ptQ a w (k+1) (2*j+1))).pv)] [(200000,(.pure ((out:List ak).map ak.cells).flatten))] (.row 0 0 (out++mkGs l1).length 6) [(0,(.pure (((out++mkGs l1):List ak).map ak.cells).flatten))] ∧
     au bu 131 [(.row 200000 0 (out++mkGs l1).length 6),(.pv (pq p)),(.pv (Mv (aX p))),(.pv (aI (ptQ a w (k+1) (2*j+1))).pv),(.pv (aI (ptQ a w k (j+1))).pv)] [(200000,(.pure (((out++mkGs l1):List ak).map ak.cells).flatten))] (.row 0 0 z.length 6) [(0,(.pure ((z:List ak).map ak.cells).flatten))]:=by
    intro l1 l2 e1 e2 ez;have IS:(out++mkGs l1).length≤1000000:=by rw[ez,afW] at hlen;omega
    have i1:=(Hl f hw hh n (k+1) (2*j) l1 out (out++mkGs l1) (by omega) hj1 e1 rfl IS).1;have i2:=(Hl f hw hh n (k+1) (2*j+1) l2 (out++mkGs l1) z (by omega) Gi e2 ez hlen).1;rw[n5] at i1;rw[show 2*j+1+1=2*(j+1) from by omega,n5] at i2;exact⟨i1,i2⟩
   have split:∀l',(match eT (aX p) (bj p) a w n (k+1) (2*j),eT (aX p) (bj p) a w n (k+1) (2*j+1) with
     |some x,some y=>some (x++y)
     |_,_=>none)=some l'→∃l1 l2,eT (aX p) (bj p) a w n (k+1) (2*j)=some l1∧eT (aX p) (bj p) a w n (k+1) (2*j+1)=some l2∧l'=l1++l2:=by
    intro l' h;cases hx:eT (aX p) (bj p) a w n (k+1) (2*j) with
    |none=>rw[hx] at h;cases h
    |some x =>
     cases hy:eT (aX p) (bj p) a w n (k+1) (2*j+1) with
     |none=>rw[hx,hy] at h;cases h
     |some y=>rw[hx,hy] at h;injection h with h;exact⟨x,y,rfl,rfl,h.symm⟩
   by_cases h1:gi (aX p) (ptQ a w k j)-gi (aX p) (ptQ a w k (j+1))=1
   ·by_cases h2:evalL (bj p) (ptQ a w k j)=0
    ·rw[afG (fun e=>e.2 h2)] at hl;obtain⟨l1,l2,e1,e2,e3⟩:=split _ hl;have ez:z=(out++mkGs l1)++mkGs l2:=by rw[hz,e3,yY,ah9]
     obtain⟨i1,i2⟩:=QE l1 l2 e1 e2 ez;refine⟨jQ.e3 out _ _ _ _ _ _ _ _ (out++mkGs l1) z c1 c2 hI h0 h1 v1 (n6.2 (r1.2 h2)) D7 i1 i2,fun e => ?_⟩;subst e;exact jP.e3 _ _ _ _ _ _ _ _ ([]++mkGs l1) z c1 c2 hI h0 h1 v1 (n6.2 (r1.2 h2)) D7 i1 i2
    ·rw[afI ⟨h1,h2⟩] at hl;have n1:sg (evalL p (ptQ a w k j))≠0:=xr.2 (fun e=>h2 (r1.1 e));by_cases h3:evalL (bj p) (ptQ a w k (j+1))=0
     ·rw[afI h3] at hl;injection hl with hl;subst hl
      have ez:z=out++[qG (ptQ a w k (j+1)) (ptQ a w k (j+1))]:=hz;subst ez;refine⟨jQ.e1 out _ _ _ _ _ _ _ _ _ c1 c2 hI h0 h1 v1 n1 v2 (n6.2 (r2.2 h3)) Wx (by omega),fun e => ?_⟩;subst e;exact jP.e1 _ _ _ _ _ _ _ _ _ c1 c2 hI h0 h1 v1 n1 v2 (n6.2 (r2.2 h3)) Wx (by omega)
     ·rw[afG h3] at hl;injection hl with hl;subst hl
      have n2:sg (evalL p (ptQ a w k (j+1)))≠0:=xr.2 (fun e=>h3 (r2.1 e));have ez:z=out++[qG (ptQ a w k j) (ptQ a w k (j+1))]:=hz;subst ez;refine⟨jQ.e2 out _ _ _ _ _ _ _ _ _ _ c1 c2 hI h0 h1 v1 n1 v2 n2 z1 z2 (by rw[show (⟨aI (ptQ a w k j),aI (ptQ a w k (j+1))⟩:ak)=qG (ptQ a w k j) (ptQ a w k (j+1)) from rfl];omega),fun e => ?_⟩;subst e;exact jP.e2 _ _ _ _ _ _ _ _ _ _ c1 c2 hI h0 h1 v1 n1 v2 n2 z1 z2 (by rw[show (⟨aI (ptQ a w k j),aI (ptQ a w k (j+1))⟩:ak)=qG (ptQ a w k j) (ptQ a w k (j+1)) from rfl];omega)
   ·rw[afG (fun e=>h1 e.1)] at hl;obtain⟨l1,l2,e1,e2,e3⟩:=split _ hl;have ez:z=(out++mkGs l1)++mkGs l2:=by rw[hz,e3,yY,ah9]
    obtain⟨i1,i2⟩:=QE l1 l2 e1 e2 ez;refine⟨jQ.e4 out _ _ _ _ _ _ _ (out++mkGs l1) z c1 c2 hI h0 h1 D7 i1 i2,fun e => ?_⟩;subst e;exact jP.e4 _ _ _ _ _ _ _ ([]++mkGs l1) z c1 c2 hI h0 h1 D7 i1 i2
theorem QG{h L:Nat}{p:List Rat}(h1:Bd p)(ok:rH h L):ht (-bndP p)+ht (bndP p+bndP p)+isoK h L/32+4≤1073741824:=by have a:=Hi h1;have b:=(Hk h1).2;have c:=ok.2;rw[uR];omega
theorem SM{h L:Nat}{p:List Rat}(f:dL h L p)(h1:Bd p)(ok:rH h L):((iX h L p).length:Int)=gi (aX p) (-bndP p)-gi (aX p) (bndP p):=by have:=D6 _ _ _ _ (u9 f h1 ok);rwa[(rG _ _).1,(rG _ _).2,show -bndP p+(bndP p+bndP p)=bndP p from by grind] at this
theorem sA{h L:Nat}{p:List Rat}(f:dL h L p)(h1:Bd p)(ok:rH h L):(iX h L p).length≤1000:=by have e:=SM f h1 ok;have SD:=f.rE;obtain⟨a1,a2⟩:=mf (aX p) (-bndP p);obtain⟨b1,b2⟩:=mf (aX p) (bndP p);omega
theorem Ca{h L:Nat}{p:List Rat}(f:dL h L p)(h1:Bd p)(ok:rH h L):Cp 68 [pq p] (.aF [bB ak.cells (mkGs (iX h L p)),.aC]):=by have hb:=B9 p;have hn:=Hi h1;have hs:=(Hl f (show 0≤bndP p+bndP p by grind) (QG h1 ok) (isoK h L+1) 0 0 (iX h L p) [] (mkGs (iX h L p)) (by omega) (by omega) (u9 f h1 ok) rfl (by rw[nk];have:=sA f h1 ok;omega)).2 rfl;rw[(rG _ _).1,(rG _ _).2,show -bndP p+(bndP p+bndP p)=bndP p from by grind] at hs;exact wG.e0 _ _ _ _ _ (QC f h1) (chain f) (QF.Neg _ (by omega)) hs
end Et
namespace WJ
theorem given(lo hi:Rat)(h1:ht lo≤68719476736)(h2:ht hi≤68719476736)(hle:lo≤hi):Cp 235 [(qG lo hi).pv] (qG lo hi).pv:=by have hv:=CJv.Valid (qG lo hi) (Hg h1 h2);rw[Hf hle] at hv;exact oV.e1 _ _ hv rfl
theorem WL(lo hi:Rat)(h1:ht lo≤1073741824)(h2:ht hi≤1073741824)(hle:lo≤hi):Cp 209 [(qG lo hi).pv] (aI (Rat.divInt 1 2*(lo+hi))).pv:=by
 have h3:=tu lo hi;have h4:ht (Rat.divInt 1 2)≤1:=by decide
 exact rj.e0 _ (qG lo hi) _ _ _ _ (given lo hi (by omega) (by omega) hle) (QR.Make 1 2 (by unfold ay;omega) (by unfold ay;omega) (by omega)) (QR.Add lo hi (by omega) (by omega)) (QR.Mul _ _ (by omega) (by omega))
theorem search{h L:Nat}{p:List Rat}(f:dL h L p){a w:Rat}{K:Nat}(hw:0≤w)(hh:ht a+ht w+K/32+4≤1073741824):∀(n k j:Nat) (l:List (Rat×Rat)),n+k=K+1→j<2^k→eT (aX p) (bj p) a w n k j=some l→l.length≤1000000 →
  au bu 160 [(.pv (Mv (aX p))),(.pv (aI (ptQ a w k j)).pv),(.pv (aI (ptQ a w k (j+1))).pv)] [] (.row 0 0 (mkGs l).length 6) [(0,(.pure ((mkGs l:List ak).map ak.cells).flatten))] ∧
  Cp 160 [(Mv (aX p)),(aI (ptQ a w k j)).pv,(aI (ptQ a w k (j+1))).pv] (bB ak.cells (mkGs l))
 |0,k,j,l,hn,hj,hl,hlen=>by cases hl
 |n+1,k,j,l,hn,hj,hl,hlen=>by
  have p1:=Av a w (k:=k) (j:=j) (by omega);have p2:=Av a w (k:=k) (j:=j+1) (by omega);have Y5:k/32≤K/32:=aiO (by omega);have SD:=f.rE;have c1:=changes (aX p) (ptQ a w k j) (Et.pz f) (by omega) (by omega);have c2:=changes (aX p) (ptQ a w k (j+1)) (Et.pz f) (by omega) (by omega);obtain⟨a1,a2⟩:=mf (aX p) (ptQ a w k j);obtain⟨b1,b2⟩:=mf (aX p) (ptQ a w k (j+1));have hI:ay (gi (aX p) (ptQ a w k j)-gi (aX p) (ptQ a w k (j+1))):=by unfold ay;omega
  obtain⟨v1,s1⟩:=atS (bj p) (ptQ a w k j) f.yW f.qv (by omega);obtain⟨v2,s2⟩:=atS (bj p) (ptQ a w k (j+1)) f.yW f.qv (by omega);have hf:((aX p).map (fun g=>g.map aI))[0]? = some ((bj p).map aI):=by obtain⟨r,e⟩:=Jy p;rw[e];rfl
  have hle:=FR a hw k j;have D7:=WL (ptQ a w k j) (ptQ a w k (j+1)) (by omega) (by omega) hle;rw[Qy] at D7;have hj1:2*j<2^(k+1):=by rw[afM];omega
  have Gi:2*j+1<2^(k+1):=by rw[afM];omega
  rw[eT] at hl;by_cases h0:gi (aX p) (ptQ a w k j)-gi (aX p) (ptQ a w k (j+1))=0
  ·rw[afI h0] at hl;injection hl with hl;subst hl
   exact⟨dV.e0 _ _ _ _ _ c1 c2 hI h0,ep.e0 _ _ _ _ _ c1 c2 hI h0⟩
  ·rw[afG h0] at hl;have QE:∀l1 l2:List (Rat×Rat),eT (aX p) (bj p) a w n (k+1) (2*j)=some l1→eT (aX p) (bj p) a w n (k+1) (2*j+1)=some l2→l=l1++l2 →
     au bu 160 [(.pv (Mv (aX p))),(.pv (aI (ptQ a w k j)).pv),(.pv (aI (ptQ a w (k+1) (2*j+1))).pv)] [] (.row 0 0 (mkGs l1).length 6) [(0,(.pure ((mkGs l1:List ak).map ak.cells).flatten))] ∧
     Cp 160 [(Mv (aX p)),(aI (ptQ a w (k+1) (2*j+1))).pv,(aI (ptQ a w k (j+1))).pv] (bB ak.cells (mkGs l2))∧(mkGs l1++mkGs l2).length*112≤140737488355328:=by
    intro l1 l2 e1 e2 ez;have hz:l1.length+l2.length≤1000000:=by rw[ez,afW] at hlen;omega
    have i1:=(search f hw hh n (k+1) (2*j) l1 (by omega) hj1 e1 (by omega)).1;have i2:=(search f hw hh n (k+1) (2*j+1) l2 (by omega) Gi e2 (by omega)).2;rw[n5] at i1;rw[show 2*j+1+1=2*(j+1) from by omega,n5] at i2;exact⟨i1,i2,by rw[afW,nk,nk];omega⟩
   have split:∀l',(match eT (aX p) (bj p) a w n (k+1) (2*j),eT (aX p) (bj p) a w n (k+1) (2*j+1) with
     |some x,some y=>some (x++y)
     |_,_=>none)=some l'→∃l1 l2,eT (aX p) (bj p) a w n (k+1) (2*j)=some l1∧eT (aX p) (bj p) a w n (k+1) (2*j+1)=some l2∧l'=l1++l2:=by
    intro l' h;cases hx:eT (aX p) (bj p) a w n (k+1) (2*j) with
    |none=>rw[hx] at h;cases h
    |some x =>
     cases hy:eT (aX p) (bj p) a w n (k+1) (2*j+1) with
     |none=>rw[hx,hy] at h;cases h
     |some y=>rw[hx,hy] at h;injection h with h;exact⟨x,y,rfl,rfl,h.symm⟩
   by_cases h1:gi (aX p) (ptQ a w k j)-gi (aX p) (ptQ a w k (j+1))=1
   ·by_cases h2:evalL (bj p) (ptQ a w k j)=0
    ·rw[afG (fun e=>e.2 h2)] at hl;obtain⟨l1,l2,e1,e2,e3⟩:=split _ hl;obtain⟨i1,i2,i3⟩:=QE l1 l2 e1 e2 e3;rw[e3,yY];exact⟨dV.e3 _ _ _ _ _ _ _ _ _ (mkGs l1) _ (mkGs l2) c1 c2 hI h0 h1 hf v1 s1 (n6.2 h2) D7 i1 i2 rfl i3,ep.e3 _ _ _ _ _ _ _ _ _ (mkGs l1) _ (mkGs l2) c1 c2 hI h0 h1 hf v1 s1 (n6.2 h2) D7 i1 i2 rfl i3⟩
    ·rw[afI ⟨h1,h2⟩] at hl;have n1:sg (evalL (bj p) (ptQ a w k j))≠0:=Et.xr.2 h2;by_cases h3:evalL (bj p) (ptQ a w k (j+1))=0
     ·rw[afI h3] at hl;injection hl with hl;subst hl
      exact⟨dV.e1 _ _ _ _ _ _ _ _ _ _ c1 c2 hI h0 h1 hf v1 s1 n1 v2 s2 (n6.2 h3),ep.e1 _ _ _ _ _ _ _ _ _ _ c1 c2 hI h0 h1 hf v1 s1 n1 v2 s2 (n6.2 h3)⟩
     ·rw[afG h3] at hl;injection hl with hl;subst hl
      exact⟨dV.e2 _ _ _ _ _ _ _ _ _ _ c1 c2 hI h0 h1 hf v1 s1 n1 v2 s2 (Et.xr.2 h3),ep.e2 _ _ _ _ _ _ _ _ _ _ c1 c2 hI h0 h1 hf v1 s1 n1 v2 s2 (Et.xr.2 h3)⟩
   ·rw[afG (fun e=>h1 e.1)] at hl;obtain⟨l1,l2,e1,e2,e3⟩:=split _ hl;obtain⟨i1,i2,i3⟩:=QE l1 l2 e1 e2 e3;rw[e3,yY];exact⟨dV.e4 _ _ _ _ _ _ (mkGs l1) _ (mkGs l2) c1 c2 hI h0 h1 D7 i1 i2 rfl i3,ep.e4 _ _ _ _ _ _ (mkGs l1) _ (mkGs l2) c1 c2 hI h0 h1 D7 i1 i2 rfl i3⟩
theorem Ca{h L:Nat}{p:List Rat}(f:dL h L p)(h1:Bd p)(ok:rH h L):Cp 93 [pq p] (.aF [bB ak.cells (mkGs (iX h L p)),vI 0]):=by have hb:=B9 p;have hn:=Hi h1;have hs:=(search f (show 0≤bndP p+bndP p by grind) (Et.QG h1 ok) (isoK h L+1) 0 0 (iX h L p) (by omega) (by omega) (u9 f h1 ok) (by have:=Et.sA f h1 ok;omega)).2;rw[(rG _ _).1,(rG _ _).2,show -bndP p+(bndP p+bndP p)=bndP p from by grind] at hs;exact nA.e1 _ _ _ _ _ _ (QC f h1) rfl (chain f) (QR.Neg _ (by omega)) hs
end WJ
theorem Hm{G:List (List Rat)}{f:List Rat}{a w:Rat}{K:Nat} : ∀(n k j:Nat) (l:List (Rat×Rat)),n+k=K+1→j<2^k→eT G f a w n k j=some l→∀r∈l,ht r.1≤ht a+ht w+K/32+4∧ht r.2≤ht a+ht w+K/32+4
 |0,_,_,_,_,_,h=>by cases h
 |n+1,k,j,l,hn,hj,h=>by
  have p1:=Av a w (k:=k) (j:=j) (by omega);have p2:=Av a w (k:=k) (j:=j+1) (by omega);have Y5:k/32≤K/32:=aiO (by omega);rw[eT] at h;split at h
  ·injection h with h;subst h;intro r hr;cases hr
  ·split at h
   ·split at h
    ·injection h with h;subst h;intro r hr;rw[ah6] at hr;subst hr;exact⟨by simp only;omega,by simp only;omega⟩
    ·injection h with h;subst h;intro r hr;rw[ah6] at hr;subst hr;exact⟨by simp only;omega,by simp only;omega⟩
   ·cases hx:eT G f a w n (k+1) (2*j) with
    |none=>rw[hx] at h;cases h
    |some x =>
     cases hy:eT G f a w n (k+1) (2*j+1) with
     |none=>rw[hx,hy] at h;cases h
     |some y =>
      rw[hx,hy] at h;injection h with h;subst h
      have hp:2^(k+1)=2*2^k:=by rw[afM];omega
      intro r hr;rcases agO.1 hr with hr|hr
      ·exact Hm n (k+1) (2*j) x (by omega) (by omega) hx r hr
      ·exact Hm n (k+1) (2*j+1) y (by omega) (by omega) hy r hr
end Go.Proofs.YtcpnocgollpbhaaGreatDoor.Sym
