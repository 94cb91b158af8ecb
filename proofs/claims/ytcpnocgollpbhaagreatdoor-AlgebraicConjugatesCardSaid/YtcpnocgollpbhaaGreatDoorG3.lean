/- Lemmas for the statements of this seat. -/
import Derived.Test.YtcpnocgollpbhaaGreatDoorG2
import Derived.Test.YtcpnocgollpbhaaGreatDoorP2
namespace Go.Proofs.YtcpnocgollpbhaaGreatDoor.Sym
open Go Path cF
set_option linter.unusedVariables false
theorem PG{f:List Rat}(hz:aQ f=false)(hf:f≠[])(hc:rK f (an f)){u v ε:Rat}(n5:u≤v){s:Int}(hs:s=1∨s = -1)(hε:0<ε)(hb:Tj ε u v (an f) s) :
  eZ (chainF f.length f (an f)) u+(if sg (evalL f v) = -s then 1 else 0)=eZ (chainF f.length f (an f)) v+(if sg (evalL f u) = -s then 1 else 0):=by
 obtain⟨R,hR,hu,hv⟩:=xN (a:=u) (b:=v);have h2:an f≠[]:=by
  intro e;have:=(hb u ag2 n5).1;rw[e] at this;have e0:sg (evalL [] u)=0:=by show sg (0:Rat)=0;decide
  rw[e0] at this;omega
 obtain⟨δ,ε0,hδ,aej,hl⟩:=sJ hz h2 hf hc hR;have hS:=nA hR f;have hd:=kX hε (show 0<sec f R+1 by grind);have oW:=agj (a:=ε) (b:=sec f R+1) (by grind);generalize ε/(sec f R+1)=δ2 at hd oW;have Oi:0<DO δ δ2:=by unfold DO;split<;>assumption
 have m1:=yT δ δ2;have m2:=yU δ δ2;refine Gk (P:=fun u v=>eZ (chainF f.length f (an f)) u+(if sg (evalL f v) = -s then 1 else 0)=eZ (chainF f.length f (an f)) v+(if sg (evalL f u) = -s then 1 else 0)) Oi n5 ?_ ?_
 ·intro x y h1 CE h3 hw;have hx:=eK (x:=x) h1 (by grind) hu hv;have hy:=eK (x:=y) (by grind) h3 hu hv;have fw:Tj ε x y (an f) s:=fun z z1 z2=>hb z (by grind) (by grind)
  rcases hl x y hx hy CE (by grind) with ⟨⟨t,ht,hB⟩,e⟩|⟨t,ht,hm,e⟩
  ·show _+_=_+_;rw[(hB x ag2 CE).1,(hB y CE ag2).1,e]
  ·show _+_=_+_;by_cases exy:x=y
   ·rw[exy]
   ·have bH:x<y:=by grind
    have k1:=hm x y ag2 bH ag2;have w3:=ag5 (show y-x≤δ2 by grind) hS;have k2:=LK (δ:=0) hx hy hs fw hε (show sec f R*(y-x)<ε by grind) x y ag2 bH ag2;have est:t=s:=by rcases hs with rfl|rfl<;>rcases ht with rfl|rfl<;>first|rfl|(exfalso;rw[show ((1:Int):Rat)=1 from rfl,show((-1:Int):Rat) = -1 from rfl] at *;grind)
    rw[est] at e;exact e
 ·intro x y z _ _ _ _ e1 e2;have e1:_+_=_+_:=e1;have e2:_+_=_+_:=e2;show _+_=_+_;omega
theorem sep{f U V:List Rat}{R u v ε:Rat}(hz:aQ f=false)(hf:f≠[])(hc:rK f (an f))(hu:ab u≤R)(hv:ab v≤R)(n5:u≤v)(hU:∀x,evalL U x*evalL f x+evalL V x*evalL (an f) x=1)(hε:0<ε)(h1:(nrm U R+nrm V R)*(2*ε)<1)(I8:lip f R*(v-u)≤ε)(I9:lip (an f) R*(v-u)≤ε) :
  eZ (chainF f.length f (an f)) u-eZ (chainF f.length f (an f)) v≤1∧(evalL f u=0→eZ (chainF f.length f (an f)) u-eZ (chainF f.length f (an f)) v≤0):=by
 rcases mJ f hu hv n5 ag2 hε I8 with ⟨s,hs,hb⟩|MB
 ·have hw:n6 f u v:=⟨ε,hε,fun x a b=>(hb x a b).2⟩;have:=ID hz hf hc n5 hw;exact⟨by omega,fun _=>by omega⟩
 ·rcases mJ (an f) hu hv n5 ag2 hε I9 with ⟨s,hs,hb⟩|Vn
  ·have e:=PG hz hf hc n5 hs hε hb;constructor
   ·split at e<;>split at e<;>omega
   ·intro h0;have hz0:sg (evalL f u) ≠ -s:=by rw[h0];rcases hs with rfl|rfl<;>decide
    rw[ag7 hz0] at e;split at e<;>omega
  ·exfalso;have a1:=sI hu U;have a2:=sI hu V;have a3:=MB u ag2 n5;have a4:=Vn u ag2 n5;have a5:=sG (evalL U u*evalL f u) (evalL V u*evalL (an f) u);rw[hU u,jZ,jZ] at a5;have hR:=agN (bU u) hu;have b1:=ee a1 (age a3) (bU _) (by grind);have b2:=ee a2 (age a4) (bU _) (by grind);have e1:ab (1:Rat)=1:=by decide +kernel
   rw[e1] at a5;grind
def twP(n:Nat):Rat:=(((2^n:Nat):Int):Rat)
theorem oI(m n:Nat):twP (m+n)=twP m*twP n:=by unfold twP;rw[ahG,agz,agt]
theorem dM{m n:Nat}(h:m≤n):twP m≤twP n:=agw.2 (by have:=ag6 (n:=2) (by omega) h;omega)
theorem xO:twP 0=1:=rfl
theorem PH(n:Nat):1≤twP n:=by rw[←xO];exact dM (ago _)
theorem jL(n:Nat):0<twP n:=by have:=PH n;grind
theorem j6(n:Nat):twP (n+1)=twP n+twP n:=by rw[oI];have:twP 1=2:=rfl;rw[this];grind
theorem Xz(x:Rat):x*((x.den:Int):Rat)=(x.num:Rat):=by
 have h:(x.num:Rat)/((x.den:Int):Rat)=x:=by rw[←agK,ai5]
 have hd:((x.den:Int):Rat)≠0:=qC (by have:=x.den_pos;omega);have:=agj (a:=(x.num:Rat)) hd;rwa[h] at this
theorem PI(n:Int):ab (n:Rat)=((n.natAbs:Int):Rat):=by
 rcases bf (n:Rat) with ⟨h1,h2⟩|⟨h1,h2⟩
 ·have:0≤n:=agw.1 h1;rw[h2];congr 1;omega
 ·have:n<0:=aiz.1 h1;rw[h2,←ahl];congr 1;omega
theorem M4(k:Nat):4294967296^k=2^(32*k):=by rw[ajC]
theorem Vp(n:Int){k:Nat}(h:wl n≤k):ab (n:Rat)≤twP (32*k):=by rw[PI];have h1:=Ia n;have h2:4294967296^wl n≤4294967296^k:=ag6 (by omega) h;rw[M4 k] at h2;unfold twP;exact agw.2 (by omega)
theorem PJ(x:Rat):(1:Rat)≤((x.den:Int):Rat):=by have:=x.den_pos;exact agw.2 (show (1:Int)≤_ by omega)
theorem PK(x:Rat):ab x≤twP (32*ht x):=by
 have h:=Xz x;have h1:=Vp x.num (eQ x);have h2:=PJ x;rw[←h,jZ,PI] at h1;have e:(((x.den:Int).natAbs:Int):Rat)=((x.den:Int):Rat):=by congr 1
 rw[e] at h1;have:=ag5 h2 (bU x);grind
theorem Gp{R:Rat}(hR:0≤R):∀p q:List Rat,nrm (dw p q) R≤nrm p R+nrm q R
 |[],q=>by rw[dw,nrm];grind
 |a::p,[]=>by rw[dw];show _≤_+0;grind
 |a::p,b::q=>by have:=ag1 (Gp hR p q) hR;have h2:=sG a b;rw[dw,nrm,nrm,nrm];grind
theorem CN(c R:Rat):∀p:List Rat,nrm (a7 c p) R=ab c*nrm p R
 |[]=>by show(0:Rat)=_*0;grind
 |a::p=>by show nrm (a7 c p) R*R+ab (c*a)=_;rw[CN c R p,jZ,nrm];grind
theorem LO{R:Rat}(hR:0≤R)(q:List Rat):∀p:List Rat,nrm (mulL p q) R≤nrm p R*nrm q R
 |[]=>by show(0:Rat)≤0*_;grind
 |a::p=>by rw[mulL];have h1:=Gp hR (a7 a q) (0::mulL p q);rw[CN] at h1;have h2:nrm (0::mulL p q) R=nrm (mulL p q) R*R+ab 0:=rfl;have h3:=ag1 (LO hR q p) hR;rw[h2,sH] at h1;rw[nrm];grind
theorem Kr{R:Rat}{r c:Nat}(hR:0≤R)(hr:R≤twP r):∀p:List Rat,(∀x∈p,ab x≤twP c)→nrm p R≤twP (c+(r+1)*p.length)
 |[],_=>age (jL _)
 |a::p,h=>by have ih:=Kr hR hr p (fun x hx=>h x (agm _ hx));have ha:=h a (agM ..);have h1:=ee ih hr (ny hR p) (age (jL r));rw[←oI] at h1;have h2:=dM (show c≤c+(r+1)*p.length+r by omega);rw[nrm,agn,show c+(r+1)*(p.length+1)=c+(r+1)*p.length+r+1 from by rw[agl];omega,j6];grind
theorem Ks{R:Rat}{r c:Nat}(hR:0≤R)(hr:R≤twP r):∀p:List Rat,(∀x∈p,ab x≤twP c)→lip p R≤twP (c+(r+2)*p.length)
 |[],_=>age (jL _)
 |a::p,h=>by
  have hp:=fun x hx=>h x (agm a hx)
  have ih:=Ks hR hr p hp;have hn:=Kr hR hr p hp;have h1:=ee ih hr (gU hR p) (age (jL r));rw[←oI] at h1;have e1:(r+2)*p.length=(r+1)*p.length+p.length:=by rw[show r+2=r+1+1 from rfl,agF (r+1) 1];omega
  have h2:=dM (show c+(r+1)*p.length≤c+(r+2)*p.length+r by omega);have h3:=dM (show c+(r+2)*p.length+r+1≤c+(r+2)*(p.length+1) by rw[agl];omega);rw[j6] at h3;rw[lip,agn];grind
theorem PL{h:Nat}{p:List Rat}(hp:Fl h p):∀x∈p,ab x≤twP (32*h):=fun x hx=>agN (PK x) (dM (by have:=hp x hx;omega))
theorem Tk{a b N r:Nat}{R:Rat}(ha:1≤a)(gM:a≤b)(hR:0≤R)(hr:R≤twP r)(hs:(r+1)*(N+2)+1≤64*a):∀(n i j:Nat) (p d:List Rat),DR a b N i j p d→d≠[]→rK p d→d.length<n+1 →
  ∃U V:List Rat,(∀x,evalL U x*evalL p x+evalL V x*evalL d x=1)∧nrm U R≤twP (32*(4*xB a b (N-1)-3*xB a b j))∧nrm V R≤twP (32*(4*xB a b (N-1)-3*xB a b j))
 |0,i,j,p,d,_,h0,_,hl=>absurd (afP (by omega)) h0
 |n+1,i,j,p,d,e,h0,hc,hl=>by
  have Vq:=e.bound;have hlen:=e.len;have s9:=ag8.2 h0;have AB:=e.lt;have x1:∀j,1≤xB a b j:=fun j=>ag3 ha (eX a b gM (i:=0) (ago _))
  have hjN:=eX a b gM (i:=j) (j:=N-1) (by omega);by_cases Rp:aO (a7 (-1) (cb p d))=[]
  ·obtain⟨c,rfl,zS⟩:=CG e.zq h0 hc Rp;refine⟨[],[1/c],fun x => ?_,age (jL _),?_⟩
   ·rw[eJ,eJ,agj zS];show 0*_+1=1;grind
   ·have e1:nrm [1/c] R=ab (1/c):=by show 0*R+_=_;grind
    have hh:=yR 1 c;have Xy:=e.hq.fl (x1 j) c (by simp);have hi:=Po c;have Zz:1/c=c⁻¹:=by rw[ahs,aht]
    rw[e1];refine agN (PK _) (dM ?_);rw[Zz];omega
  ·obtain⟨r1,r2⟩:=e.rest gM h0;have Vi:=kx (p:=p) e.zq h0;have wQ:=ag8.2 Rp;have WG:Ch (xB a b (j+(p.length-d.length))) (aO (a7 (-1) (cb p d))):=by
    refine Ch.trim ?_;obtain⟨D,d1,d2,d3⟩:=r1;refine⟨D,d1,d2,fun i => ?_⟩;obtain⟨m,m1,m2⟩:=d3 i;refine⟨-m,?_,by rw[gj];exact m2⟩;rw[bZ,ahl,←m1];grind
   obtain⟨U,V,XA,hnU,YY⟩:=Tk ha gM hR hr hs n j _ d _ (e.next gM h0 WG Vi (bj _)) Rp (CF e.zq h0 hc) (by omega);have hq:=Gm e.hp e.hq (x1 i) (x1 j) e.zq h0;have Ea:=CM (p:=p) e.zq h0;obtain⟨j',rfl⟩:∃j',j=j'+1:=⟨j-1,by omega⟩;obtain⟨δ,hδ⟩:∃δ,p.length-d.length=δ+1:=⟨p.length-d.length-1,by omega⟩;have hg:=yY a b gM j' δ;have hi:=eX a b gM (i:=i) (j:=j') (by omega);have YT:=eX a b gM (i:=0) (j:=j') (by omega);have e00:xB a b 0=a:=rfl;rw[hδ] at hnU YY;have hgN:=eX a b gM (i:=j'+1+(δ+1)) (j:=N-1) (by omega);have uv:xB a b i+(p.length+1-d.length)*(xB a b (j'+1)+1)+xB a b (j'+1)≤xB a b (j'+1+(δ+1))+xB a b (j'+1):=by rw[show p.length+1-d.length=δ+2 from by omega];omega
   have ZM:=Kr hR hr _ (PL (bV hq uv));have hqm:(r+1)*(dJ p d).1.length≤(r+1)*(N+2):=aga _ (by omega);have two:2*(xB a b (j'+1)+1)≤(δ+2)*(xB a b (j'+1)+1):=afU _ (by omega);have XB:=agN ZM (dM (show _≤32*(xB a b (j'+1+(δ+1))+xB a b (j'+1))+((r+1)*(N+2)) by omega));generalize hS:32*(4*xB a b (N-1)-3*xB a b (j'+1+(δ+1)))=S at hnU YY;generalize hQ:32*(xB a b (j'+1+(δ+1))+xB a b (j'+1))+((r+1)*(N+2))=Q at XB;have hT:S+Q+1≤32*(4*xB a b (N-1)-3*xB a b (j'+1)):=by omega
   refine⟨a7 (-1) V,dw U (mulL V (dJ p d).1),fun x => ?_,?_,?_⟩
   ·have k1:=XA x;have k2:=nJ (p:=p) e.zq h0 x;rw[aX,bz,aE];have k3:evalL (aO (a7 (-1) (cb p d))) x=evalL (dJ p d).1 x*evalL d x-evalL p x:=by grind
    rw[k3] at k1;grind
   ·rw[CN,show ab (-1:Rat)=1 from by decide +kernel,aht];exact agN YY (dM (by omega))
   ·have m1:=Gp hR U (mulL V (dJ p d).1);have m2:=LO hR (dJ p d).1 V;have m3:=ee YY XB (ny hR V) (age (jL _));rw[←oI] at m3;have m4:=dM (show S≤S+Q by omega);have m5:=dM hT;rw[j6] at m5;grind
theorem M5{f:List Rat}{a N r m:Nat}{R u v:Rat}(ha:1≤a)(e:DR a (a+1) N 0 1 f (an f))(hf:f≠[])(hc:rK f (an f))(hR:0≤R)(hr:R≤twP r)(hs:(r+1)*(N+2)+1≤64*a)(hu:ab u≤R)(hv:ab v≤R)(n5:u≤v)
  (hm:32*(4*xB a (a+1) (N-1))+32*(a+1)+(r+2)*f.length+3≤m) (hw:(v-u)*twP m≤1) :
  eZ (chainF f.length f (an f)) u-eZ (chainF f.length f (an f)) v≤1∧(evalL f u=0→eZ (chainF f.length f (an f)) u-eZ (chainF f.length f (an f)) v≤0):=by
 by_cases h2:an f=[]
 ·rw[iJ h2,iJ h2];exact⟨by omega,fun _=>by omega⟩
 ·obtain⟨U,V,XA,hU,hV⟩:=Tk ha (ahN a) hR hr hs f.length 0 1 f (an f) e h2 hc (by have:=e.len;omega);generalize hS:32*(4*xB a (a+1) (N-1)-3*xB a (a+1) 1)=S at hU hV;have hS2:S≤32*(4*xB a (a+1) (N-1)):=by omega
  generalize 32*(4*xB a (a+1) (N-1))=S2 at hm hS2;have e0:xB a (a+1) 0=a:=rfl;have e1:xB a (a+1) 1=a+1:=rfl;have l1:=Ks hR hr f (PL (bV (e.hp.fl (by rw[e0];exact ha)) (show xB a (a+1) 0≤a+1 by rw[e0];omega)));have l2:=Ks hR hr (an f) (PL (e.hq.fl (by rw[e1];omega)));rw[e1] at l2;have hlen:(r+2)*(an f).length≤(r+2)*f.length:=aga _ (by have:=e.len;omega);have l2':=agN l2 (dM (show 32*(a+1)+(r+2)*(an f).length≤32*(a+1)+(r+2)*f.length by omega));generalize hL:32*(a+1)+(r+2)*f.length=L at l1 l2';have hp:=jL (S+3);have hε:=kX (show (0:Rat)<1 by decide) hp;have R1:=agj (a:=1) (b:=twP (S+3)) (by grind);generalize 1/twP (S+3)=ε at hε R1;have t1:twP (S+3)=8*twP S:=by rw[oI,show twP 3=8 from rfl];grind
  have QJ:0≤v-u:=by grind
  have key:∀l:Rat,0≤l→l≤twP L→l*(v-u)≤ε:=by
   intro l h0 hl;have k1:=ag1 hl QJ;have k2:=ag5 (dM (show L+(S+3)≤m by omega)) QJ;rw[oI] at k2;have k3:twP L*(v-u)*twP (S+3)≤1:=by grind
   refine aji.1 fun bH => ?_
   have k4:ε<twP L*(v-u):=by grind
   have k5:=Rat.mul_lt_mul_of_pos_right k4 hp;grind
  refine sep (U:=U) (V:=V) (ε:=ε) e.zp hf hc hu hv n5 XA hε ?_ (key _ (gU hR _) l1) (key _ (gU hR _) l2');have k6:=ag1 (show nrm U R+nrm V R≤twP S+twP S by grind) (show 0≤2*ε by grind);rw[t1] at R1;have hpS:=ahH hε (jL S);grind
end Go.Proofs.YtcpnocgollpbhaaGreatDoor.Sym
namespace Go.Proofs.YtcpnocgollpbhaaGreatDoor.Sym
set_option linter.unusedVariables false
set_option linter.unusedSectionVars false
theorem PM{a b δ:Rat}(ha:0<a)(hb:0≤b)(hδ:0<δ):∃t,0<t∧t≤δ∧t*b<a:=by
 have td:0<b+1:=by grind
 have hq:=kX ha td;have hm:a/(b+1)*(b+1)=a:=by rw[ahs,ajh,Rat.inv_mul_cancel _ (by grind),ajR]
 have key:∀t,0<t→t≤a/(b+1)→t*b<a:=fun t h1 h2=>by have h3:=ag1 h2 (age td);rw[hm] at h3;grind
 by_cases h:a/(b+1)≤δ
 ·exact⟨_,hq,h,key _ hq ag2⟩
 ·exact⟨δ,hδ,ag2,key δ hδ (by grind)⟩
theorem ET{f:List Rat}(hc:rK f (an f)){x δ:Rat}(hx:evalL f x=0)(hδ:0<δ)(s:Rat)(hs:s=1∨s = -1):∃t,0<t∧t≤δ∧evalL f (x+s*t)≠0:=by
 obtain⟨U,V,XA⟩:=hc;have h1:=XA x;rw[hx,cQ] at h1;have hd:dEv f x≠0:=fun e=>by rw[e] at h1;grind
 have hR:0≤ab x+δ:=by have:=bU x;grind
 obtain⟨t,t1,t2,t3⟩:=PM (yW hd) (nA hR f) hδ;refine⟨t,t1,t2,fun e => ?_⟩;have ht:=Km x (x+s*t) f;rw[e,hx] at ht;have aK:ab (s*t)=t:=by
  rw[jZ];rcases hs with rfl|rfl
  ·rcases bf t with k|k<;>rcases bf (1:Rat) with m|m<;>grind
  ·rcases bf t with k|k<;>rcases bf (-1:Rat) with m|m<;>grind
 have Vr:ab x≤ab x+δ:=by grind
 have Z6:ab (x+s*t)≤ab x+δ:=by have:=sG x (s*t);grind
 have hb:=Ko Vr Z6 f;have e1:s*t*(dEv f x+s*t*LI x (x+s*t) f)=0:=by
  have:x+s*t-x=s*t:=by grind
  rw[this] at ht;grind
 have aaY:s*t≠0:=fun e=>by rw[e,sH] at aK;grind
 rcases agV.1 e1 with e2|e2
 ·exact aaY e2
 ·have e3:dEv f x = -(s*t*LI x (x+s*t) f):=by grind
  have e4:ab (dEv f x)=t*ab (LI x (x+s*t) f):=by rw[e3,wz,jZ,aK]
  have e5:=ag5 hb (age t1);grind
abbrev cS(f:List Rat)(x:Rat):Int:=eZ (chainF f.length f (an f)) x
structure rC (f:List Rat) (lo hi:Rat):Prop where
 zf:aQ f=false
 f0:f≠[]
 M0:rK f (an f)
 RH:(lo=hi∧evalL f lo=0)∨(lo<hi∧evalL f lo≠0∧evalL f hi≠0∧cS f lo-cS f hi=1)
def ep(f:List Rat)(lo hi x:Rat):Int:=if lo=hi then iy lo x else if x≤lo then 1 else if hi≤x then -1 else sg (evalL f x)*sg (evalL f lo)
theorem ub{p q:Rat}(h:p<q):iy p q = -1:=by unfold iy;rw[ag9 h]
theorem pD{p q:Rat}(h:q<p):iy p q=1:=by unfold iy;rw[ag7 (by grind),ag7 (by grind)]
theorem nB(p:Rat):iy p p=0:=hJ.2 rfl
theorem jg(p q:Rat):(p<q∧iy p q = -1)∨(p=q∧iy p q=0)∨(q<p∧iy p q=1):=by
 by_cases h1:p<q
 ·exact Or.inl ⟨h1,ub h1⟩
 ·by_cases h2:q<p
  ·exact Or.inr (Or.inr ⟨h2,pD h2⟩)
  ·have:p=q:=by grind
   subst this;exact Or.inr (Or.inl ⟨rfl,nB _⟩)
namespace rC
variable {f:List Rat} {lo hi:Rat}
theorem le(A:rC f lo hi):lo≤hi:=by rcases A.RH with ⟨h,_⟩|⟨h,_⟩<;>grind
section
variable (A:rC f lo hi) (bH:lo<hi)
include A bH
theorem ends:evalL f lo≠0∧evalL f hi≠0∧cS f lo-cS f hi=1:=by
 rcases A.RH with ⟨h,_⟩|⟨_,h⟩
 ·subst h;exact absurd bH aiL
 ·exact h
theorem XC{x:Rat}(h1:lo≤x)(h2:x≤hi):cS f lo-cS f x=0∨cS f lo-cS f x=1:=by have a:=mL A.zf A.f0 A.M0 h1;have b:=mL A.zf A.f0 A.M0 h2;have c:=(A.ends bH).2.2;unfold cS at *;omega
theorem CO{x y:Rat}(h:x≤y):cS f lo-cS f x≤cS f lo-cS f y:=by have a:=mL A.zf A.f0 A.M0 h;unfold cS at *;omega
theorem val{x:Rat}(h1:lo≤x)(h2:x≤hi)(hx:evalL f x≠0):(sg (evalL f x)=sg (evalL f lo)∧cS f lo-cS f x=0)∨(sg (evalL f x) = - sg (evalL f lo)∧cS f lo-cS f x=1):=by
 have a:=A.XC bH h1 h2;have b:=LL A.zf A.f0 A.M0 (A.ends bH).1 hx;unfold cS at *;rcases b with ⟨b1,b2⟩|⟨b1,b2⟩
 ·left;exact⟨b1.symm,by omega⟩
 ·right;exact⟨by omega,by omega⟩
theorem root{x:Rat}(h1:lo≤x)(h2:x≤hi)(hx:evalL f x=0):cS f lo-cS f x=1:=by
 rcases A.XC bH h1 h2 with h|h
 ·have:=rB A.zf A.f0 A.M0 h1 (by unfold cS at h;omega) (A.ends bH).1;exact absurd hx (this.ne h1 ag2)
 ·exact h
theorem Gq{x:Rat}(h1:lo≤x)(h:cS f lo-cS f x=0):n6 f lo x:=rB A.zf A.f0 A.M0 h1 (by unfold cS at h;omega) (A.ends bH).1
theorem xP{x:Rat}(h1:lo≤x)(h2:x≤hi)(hx:evalL f x≠0)(h:cS f lo-cS f x=1):n6 f x hi :=
 rB A.zf A.f0 A.M0 h2 (by have:=(A.ends bH).2.2;unfold cS at *;omega) hx
theorem after{x y:Rat}(h1:lo≤x)(CE:x<y)(h2:y≤hi)(hx:evalL f x=0):evalL f y≠0∧cS f lo-cS f y=1:=by
 have r:=A.root bH h1 (by grind) hx;have m:=A.CO bH (age CE);have c:=A.XC bH (x:=y) (by grind) h2;obtain⟨t,t1,t2,t3⟩:=ET A.M0 hx (δ:=y-x) (by grind) 1 (Or.inl rfl);have e:x+1*t=x+t:=by grind
 rw[e] at t3;have m2:=A.CO bH (x:=x) (y:=x+t) (by grind);have c2:=A.XC bH (x:=x+t) (by grind) (by grind);have:=A.xP bH (x:=x+t) (by grind) (by grind) t3 (by omega);exact⟨this.ne (by grind) (by grind),by omega⟩
theorem before{x y:Rat}(h1:lo≤x)(CE:x<y)(h2:y≤hi)(hy:evalL f y=0):evalL f x≠0∧cS f lo-cS f x=0:=by
 have hx:evalL f x≠0:=fun e=>(A.after bH h1 CE h2 e).1 hy
 refine⟨hx,?_⟩;rcases A.XC bH h1 (by grind) with h|h
 ·exact h
 ·have:=A.xP bH h1 (by grind) hx h;exact absurd hy (this.ne (age CE) h2)
theorem pK{x:Rat}(h1:lo<x)(h2:x<hi):(ep f lo hi x=1∧evalL f x≠0∧cS f lo-cS f x=0)∨(ep f lo hi x=0∧evalL f x=0)∨(ep f lo hi x = -1∧evalL f x≠0∧cS f lo-cS f x=1):=by
 have et:¬lo=hi:=fun e=>by subst e;exact aiL bH
 have e:ep f lo hi x=sg (evalL f x)*sg (evalL f lo):=by unfold ep;rw[ag7 et,ag7 (by grind),ag7 (by grind)]
 rw[e];have hl:=CI (A.ends bH).1;by_cases hx:evalL f x=0
 ·right;left;refine⟨?_,hx⟩;rw[hx];show sg 0*_=0;rw[show sg 0=0 from nB 0,Int.zero_mul]
 ·rcases A.val bH (age h1) (age h2) hx with ⟨v1,v2⟩|⟨v1,v2⟩
  ·left;refine⟨?_,hx,v2⟩;rw[v1];rcases hl with k|k<;>rw[k]<;>decide
  ·right;right;refine⟨?_,hx,v2⟩;rw[v1];rcases hl with k|k<;>rw[k]<;>decide
end
theorem low(A:rC f lo hi)(bH:lo<hi){x:Rat}(h:x≤lo):ep f lo hi x=1:=by
 have et:¬lo=hi:=fun e=>by subst e;exact aiL bH
 unfold ep;rw[ag7 et,ag9 h]
theorem high(A:rC f lo hi)(bH:lo<hi){x:Rat}(h:hi≤x):ep f lo hi x = -1:=by
 have et:¬lo=hi:=fun e=>by subst e;exact aiL bH
 unfold ep;rw[ag7 et,ag7 (by grind),ag9 h]
theorem three(A:rC f lo hi)(x:Rat):ep f lo hi x=1∨ep f lo hi x=0∨ep f lo hi x = -1:=by
 by_cases h:lo=hi
 ·unfold ep;rw[ag9 h];rcases jg lo x with k|k|k<;>simp[k.2]
 ·have bH:lo<hi:=by have:=A.le;grind
  by_cases h1:x≤lo
  ·left;exact A.low bH h1
  ·by_cases h2:hi≤x
   ·right;right;exact A.high bH h2
   ·rcases A.pK bH (x:=x) (by grind) (by grind) with k|k|k<;>simp[k.1]
theorem mono(A:rC f lo hi){x y:Rat}(CE:x<y)(h:ep f lo hi x≤0):ep f lo hi y = -1:=by
 by_cases he:lo=hi
 ·unfold ep at h ⊢;rw[ag9 he] at h ⊢;rcases jg lo x with k|k|k
  ·exact ub (by grind)
  ·exact ub (by grind)
  ·omega
 ·have bH:lo<hi:=by have:=A.le;grind
  have Vr:lo<x:=by
   by_cases h1:x≤lo
   ·rw[A.low bH h1] at h;omega
   ·grind
  by_cases h2:hi≤y
  ·exact A.high bH h2
  ·have hm:=A.CO bH (age CE);rcases A.pK bH (x:=x) Vr (by grind) with k|k|k
   ·omega
   ·have a:=A.after bH (age Vr) CE (by grind) k.2;rcases A.pK bH (x:=y) (by grind) (by grind) with m|m|m
    ·omega
    ·exact absurd m.2 a.1
    ·exact m.1
   ·rcases A.pK bH (x:=y) (by grind) (by grind) with m|m|m
    ·omega
    ·have a:=A.before bH (age Vr) CE (by grind) m.2;omega
    ·exact m.1
theorem PN(A:rC f lo hi){x y:Rat}(CE:x<y)(h:0≤ep f lo hi y):ep f lo hi x=1:=by
 rcases A.three x with k|k|k
 ·exact k
 ·have:=A.mono CE (by omega);omega
 ·have:=A.mono CE (by omega);omega
theorem XD(A:rC f lo hi):0≤ep f lo hi lo:=by
 by_cases he:lo=hi
 ·unfold ep;rw[ag9 he,nB];omega
 ·rw[A.low (by have:=A.le;grind) ag2];omega
theorem XE(A:rC f lo hi):ep f lo hi hi≤0:=by
 by_cases he:lo=hi
 ·unfold ep;rw[ag9 he,he,nB];omega
 ·rw[A.high (by have:=A.le;grind) ag2];omega
theorem M6(A:rC f lo hi){x:Rat}(h:ep f lo hi x=0):evalL f x=0∧lo≤x∧x≤hi:=by
 by_cases he:lo=hi
 ·unfold ep at h;rw[ag9 he] at h;have:=hJ.1 h;subst this;rcases A.RH with ⟨_,k⟩|⟨k,_⟩
  ·exact⟨k,ag2,A.le⟩
  ·grind
 ·have bH:lo<hi:=by have:=A.le;grind
  by_cases h1:x≤lo
  ·rw[A.low bH h1] at h;omega
  ·by_cases h2:hi≤x
   ·rw[A.high bH h2] at h;omega
   ·rcases A.pK bH (x:=x) (by grind) (by grind) with k|k|k
    ·omega
    ·exact⟨k.2,by grind,by grind⟩
    ·omega
theorem sub(A:rC f lo hi){u v:Rat}(hu:lo≤u)(hv:v≤hi)(h:(u=v∧ep f lo hi u=0)∨(u<v∧ep f lo hi u=1∧ep f lo hi v = -1)):rC f u v∧∀x,ep f u v x=ep f lo hi x:=by
 rcases h with ⟨rfl,h0⟩|⟨n5,h1,h2⟩
 ·refine⟨⟨A.zf,A.f0,A.M0,Or.inl ⟨rfl,(A.M6 h0).1⟩⟩,fun x => ?_⟩;have e:ep f u u x=iy u x:=by unfold ep;rw[ag9 rfl]
  rw[e];rcases jg u x with k|k|k
  ·rw[k.2,A.mono k.1 (by omega)]
  ·rw[←k.1,nB,h0]
  ·rw[k.2,A.PN k.1 (by omega)]
 ·have bH:lo<hi:=by grind
  have q1:evalL f u≠0∧cS f lo-cS f u=0:=by
   by_cases e:u=lo
   ·subst e;exact⟨(A.ends bH).1,by omega⟩
   ·rcases A.pK bH (x:=u) (by grind) (by grind) with k|k|k
    ·exact k.2
    ·omega
    ·omega
  have q2:evalL f v≠0∧cS f lo-cS f v=1:=by
   by_cases e:v=hi
   ·subst e;exact(A.ends bH).2
   ·rcases A.pK bH (x:=v) (by grind) (by grind) with k|k|k
    ·omega
    ·omega
    ·exact k.2
  have B:rC f u v:=⟨A.zf,A.f0,A.M0,Or.inr ⟨n5,q1.1,q2.1,by omega⟩⟩;refine⟨B,fun x => ?_⟩;by_cases x1:x≤u
  ·rw[B.low n5 x1];by_cases e:x=u
   ·rw[e,h1]
   ·exact(A.PN (y:=u) (by grind) (by omega)).symm
  ·by_cases x2:v≤x
   ·rw[B.high n5 x2];by_cases e:x=v
    ·rw[e,h2]
    ·exact(A.mono (x:=v) (by grind) (by omega)).symm
   ·have k:=B.pK n5 (x:=x) (by grind) (by grind);have m:=A.pK bH (x:=x) (by grind) (by grind);rcases k with k|k|k<;>rcases m with m|m|m<;>first|(exfalso;exact k.2.1 m.2)|(exfalso;exact m.2.1 k.2)|(exfalso;unfold cS at *;omega)|(rw [k.1,m.1])
end rC
end Go.Proofs.YtcpnocgollpbhaaGreatDoor.Sym
namespace Go.Proofs.YtcpnocgollpbhaaGreatDoor.Sym
set_option linter.unusedVariables false
set_option linter.unusedSectionVars false
namespace rC
variable {f:List Rat} {lo hi:Rat}
theorem XF(A:rC f lo hi){u v:Rat}(hu:ep f lo hi u=1)(hv:ep f lo hi v = -1):u<v:=by
 by_cases h:v<u
 ·have:=A.PN h (by omega);omega
 ·by_cases e:u=v
  ·rw[e] at hu;omega
  ·grind
end rC
end Go.Proofs.YtcpnocgollpbhaaGreatDoor.Sym
namespace Go.Proofs.YtcpnocgollpbhaaGreatDoor.Sym
set_option linter.unusedVariables false
set_option linter.unusedSectionVars false
def Zr(f:List Rat)(lo hi:Rat)(p:List Rat):Prop:=∀u v,ep f lo hi u=1→ep f lo hi v = -1→¬n6 p u v
theorem Zr.dv{f:List Rat}{lo hi:Rat}{p q:List Rat}(h:Zr f lo hi p)(hd:Dv p q):Zr f lo hi q:=fun u v h1 h2 h3=>h u v h1 h2 (Gl h3 hd)
namespace rC
variable {f:List Rat} {lo hi:Rat}
theorem inside(A:rC f lo hi)(bH:lo<hi){u v:Rat}(hu:ep f lo hi u=1)(hv:ep f lo hi v = -1):∃a b,u≤a∧b≤v∧lo≤a∧b≤hi∧ep f lo hi a=1∧ep f lo hi b = -1:=by
 by_cases h1:lo≤u
 ·by_cases h2:v≤hi
  ·exact⟨u,v,ag2,ag2,h1,h2,hu,hv⟩
  ·exact⟨u,hi,ag2,by grind,h1,ag2,hu,A.high bH ag2⟩
 ·by_cases h2:v≤hi
  ·exact⟨lo,v,by grind,ag2,ag2,h2,A.low bH ag2,hv⟩
  ·exact⟨lo,hi,by grind,by grind,ag2,ag2,A.low bH ag2,A.high bH ag2⟩
end rC
end Go.Proofs.YtcpnocgollpbhaaGreatDoor.Sym
namespace Go.Proofs.YtcpnocgollpbhaaGreatDoor.Sym
set_option linter.unusedVariables false
set_option linter.unusedSectionVars false
namespace rC
variable {f:List Rat} {lo hi:Rat}
theorem aaZ(A:rC f lo hi)(bH:lo<hi){u:Rat}(h1:lo≤u)(hu:ep f lo hi u=1):evalL f u≠0∧cS f lo-cS f u=0:=by
 by_cases e:u=lo
 ·subst e;exact⟨(A.ends bH).1,by omega⟩
 ·by_cases e2:hi≤u
  ·rw[A.high bH e2] at hu;omega
  ·rcases A.pK bH (x:=u) (by grind) (by grind) with k|k|k
   ·exact k.2
   ·omega
   ·omega
theorem XG(A:rC f lo hi)(bH:lo<hi){v:Rat}(h2:v≤hi)(hv:ep f lo hi v = -1):evalL f v≠0∧cS f lo-cS f v=1:=by
 by_cases e:v=hi
 ·subst e;exact(A.ends bH).2
 ·by_cases e2:v≤lo
  ·rw[A.low bH e2] at hv;omega
  ·rcases A.pK bH (x:=v) (by grind) (by grind) with k|k|k
   ·omega
   ·omega
   ·exact k.2
theorem Vs(A:rC f lo hi)(bH:lo<hi){g:List Rat}(zg:aQ g=false)(g0:g≠[])(hd:Dv g f):(0<eZ (aZ g) lo-eZ (aZ g) hi)↔Zr f lo hi g:=by
 obtain⟨G1,G2,G3,G4,k, -,G5⟩:=free_spec zg g0;have E:=A.ends bH;have hGf:Dv (aY g) f:=G4.trans hd;have et:∀x,evalL f x≠0→evalL (aY g) x≠0:=fun x hx e=>by obtain⟨u,hu⟩:=hGf;exact hx (by rw[hu x,e];grind)
 have zz:Zr f lo hi g↔Zr f lo hi (aY g):=by
  constructor
  ·intro h u v h1 h2 h3;exact(h.dv G5) u v h1 h2 (IE h3 k)
  ·intro h;exact h.dv G4
 have Eb:=mL G1 G2 G3 (age bH);change (0<cS (aY g) lo-cS (aY g) hi)↔_;rw[zz];constructor
 ·intro hc u v hu hv ha;obtain⟨a,b,i1,i2,i3,i4,i5,i6⟩:=A.inside bH hu hv;have gM:=A.XF i5 i6;have l:=A.aaZ bH i3 i5;have r:=A.XG bH i4 i6;have w1:=Gl (A.Gq bH i3 l.2) hGf;have w2:=Gl (A.xP bH (by grind) i4 r.1 r.2) hGf;have w3:=ha.sub i1 i2;have hk:=ID G1 G2 G3 (age bH) ((w1.join w3).join w2);unfold cS at hc;omega
 ·intro hz;refine afV fun hc => ?_
  exact hz lo hi (A.low bH ag2) (A.high bH ag2) (rB G1 G2 G3 (age bH) (by unfold cS at hc;omega) (et _ E.1))
theorem wB(A:rC f lo hi)(p:List Rat)(zp:aQ p=false):cu p f≠[]:=uK (kr _ _ _ zp A.zf) (AQ _ _ _ (Or.inr ⟨A.f0,by omega⟩))
end rC
def M7(p f:List Rat)(lo hi:Rat):Bool :=
 if p.length=0 then true else if (cu p f).length<2 then false else if lo=hi then decide (evalL (cu p f) lo=0) else decide (0<eZ (aZ (cu p f)) lo-eZ (aZ (cu p f)) hi)
def midQ(lo hi:Rat):Rat:=Rat.divInt 1 2*(lo+hi)
def gO(f:List Rat)(lo hi:Rat):Rat×Rat :=
 if lo=hi then (lo,hi) else if ep f lo hi (midQ lo hi)=0 then (midQ lo hi,midQ lo hi) else if ep f lo hi (midQ lo hi)=1 then (midQ lo hi,hi) else (lo,midQ lo hi)
theorem Gr(lo hi:Rat):midQ lo hi+midQ lo hi=lo+hi:=by
 unfold midQ;have:Rat.divInt 1 2+Rat.divInt 1 2=1:=by decide +kernel
 grind
theorem pE{f:List Rat}{lo hi:Rat}(A:rC f lo hi):rC f (gO f lo hi).1 (gO f lo hi).2∧(∀x,ep f (gO f lo hi).1 (gO f lo hi).2 x=ep f lo hi x)∧lo≤(gO f lo hi).1∧(gO f lo hi).2≤hi∧((gO f lo hi).2-(gO f lo hi).1)+((gO f lo hi).2-(gO f lo hi).1)≤hi-lo:=by
 have hle:=A.le;have hm:=Gr lo hi;unfold gO;by_cases he:lo=hi
 ·rw[ag9 he];exact⟨A,fun _=>rfl,ag2,ag2,by subst he;grind⟩
 ·have bH:lo<hi:=by grind
  rw[ag7 he];generalize midQ lo hi=m at *;rcases A.three m with k|k|k
  ·rw[ag7 (by omega),ag9 k];obtain⟨s1,s2⟩:=A.sub (u:=m) (v:=hi) (by grind) ag2 (Or.inr ⟨by grind,k,A.high bH ag2⟩);exact⟨s1,s2,by grind,ag2,by grind⟩
  ·rw[ag9 k];obtain⟨s1,s2⟩:=A.sub (u:=m) (v:=m) (by grind) (by grind) (Or.inl ⟨rfl,k⟩);exact⟨s1,s2,by grind,by grind,by grind⟩
  ·rw[ag7 (by omega),ag7 (by omega)];obtain⟨s1,s2⟩:=A.sub (u:=lo) (v:=m) ag2 (by grind) (Or.inr ⟨by grind,A.low bH ag2,k⟩);exact⟨s1,s2,ag2,by grind,by grind⟩
end Go.Proofs.YtcpnocgollpbhaaGreatDoor.Sym
namespace Go.Proofs.YtcpnocgollpbhaaGreatDoor.Sym
open Go Path cF
set_option linter.unusedVariables false
abbrev pq(q:List Rat):PV:=ae (q.map aI)
theorem getM{q:List Rat}{n:Nat}{v:Rat}(h:q[n]? = some v):(q.map aI)[n]? = some (aI v):=by rw[afT,h];rfl
theorem bM(q:List Rat):(q.map aI).length=q.length:=afW ..
theorem Gs{k:Nat}{q:List Rat}(h:Fl k q)(hk:k≤68719476736):sE 274877906944 (q.map aI):=Ly (bV h (by omega))
def Gt(p q:List ag):Int:=if x8 p=0 then x8 q else x8 p
theorem CP{m t:Nat}{f g:Nat→Rat}{v:Rat}(ht:t<m)(hv:f t=v)(ho:∀i,i≠t→f i=g i):((nu m g).map aI).set t (aI v)=(nu m f).map aI:=by
 rw[←List.map_set,Pw g v ht]
 congr 1
 refine Kk (fun i _ => ?_);split
 ·rename_i e;rw[e,hv]
 ·rename_i e;exact(ho i e).symm
namespace As
theorem Trim{k:Nat}(q:List Rat)(hl:q.length≤1000000)(hf:Fl k q)(hk:k≤68719476736):Cp 82 [pq q] (pq (aO q)):=by have:=Iq.Trim (q.map aI) (by rw[bM];omega) (Gs hf hk);rwa[mE] at this
theorem zX(p:List Rat)(t:Nat):Cp 225 [pq p,vI (t:Int)] (aI (coef p t)).pv:=by
 by_cases h:t<p.length
 ·exact nk.e0 _ _ t _ (by rw[bM];omega) rfl (getM (mH h))
 ·rw[eE (by omega)];exact nk.e1 _ _ (by rw[bM];omega)
theorem plus{a b d:Nat}(p q:List Rat)(c:Rat)(hlp:p.length≤100000)(hlq:q.length≤100000)(hp:Fl a p)(hq:Fl b q)(hc:ht c≤d)(ha:1≤a)(hb:1≤b)(hk:a+b+d+1≤68719476736):Cp 187 [pq p,pq q,(aI c).pv] (pq (aO (dw p (a7 c q)))):=by
 have Tl:∀i,ht (coef p i)≤a∧ht (coef q i)≤b:=fun i=>⟨AO hp ha i,AO hq hb i⟩
 have yn:max (p.map aI).length (q.map aI).length=max p.length q.length:=by rw[bM,bM]
 have loop:∀(j t:Nat),max p.length q.length-t=j→rm.ai (p.map aI) (q.map aI) t (aI c) ((nu (max p.length q.length) (fun i=>if i<t then coef p i+c*coef q i else 0)).map aI) (pq (aO (dw p (a7 c q)))):=by
  intro j
  induction j with
  |zero =>
   intro t hj;have e:aO (dw p (a7 c q))=aO (nu (max p.length q.length) (fun i=>if i<t then coef p i+c*coef q i else 0)):=by
    refine lP (fun i => ?_);rw[iA,bZ];by_cases hi:i<max p.length q.length
    ·rw[qz (kW _ hi),ag9 (by omega)]
    ·rw[eE (p:=nu _ _) (by rw[eF];omega),eE (p:=p) (by omega),eE (p:=q) (by omega)];grind
   rw[e];refine rm.c9 _ _ t _ _ _ (by omega) (by rw[yn,bM,eF]) (Trim (k:=a+b+d+1) _ (by rw[eF];omega) (pB (fun i => ?_)) hk);obtain⟨c1,c2⟩:=Tl i;have h1:=pA c (coef q i);have h2:=wk (coef p i) (c*coef q i);have h0:=k7;by_cases hi:i<max p.length q.length
   ·rw[qz (kW _ hi),ag9 (by omega)];omega
   ·rw[eE (p:=nu _ _) (by rw[eF];omega),h0];omega
  |succ j ih =>
   intro t hj;obtain⟨c1,c2⟩:=Tl t;have h1:=pA c (coef q t);refine rm.l10 _ _ t _ _ _ _ _ _ (by omega) (zX p t) (zX q t) (QF.Mul c (coef q t) (by omega) (by omega)) (QF.Add (coef p t) (c*coef q t) (by omega) (by omega)) (by rw[bM,eF];omega) (by omega) ?_;rw[CP (f:=fun i=>if i<t+1 then coef p i+c*coef q i else 0) (by omega) (ag9 (by omega)) (fun i hi=>by
    by_cases h:i<t
    ·rw[ag9 h,ag9 (by omega)]
    ·rw[ag7 h,ag7 (by omega)])]
   exact ih (t+1) (by omega)
 have:=loop _ 0 rfl;refine rm.e0 _ _ _ (by omega) ?_;rw[yn,EK];exact this
theorem LP(p q:List ag)(hp:sE 274877906944 p)(hq:sE 274877906944 q):Cp 174 [dp (db ag.cells) [p,q]] (bJ (zT (Gt p q))):=by
 have h1:=Iq.Check p hp;have h2:=Iq.Check q hq;refine jV.e0 [p,q] ?_;unfold Gt;by_cases e:x8 p=0
 ·rw[ag9 e];rw[e] at h1;refine jV.l10 _ 0 p (by simp) rfl h1 (by omega) ?_;by_cases e2:x8 q=0
  ·rw[e2] at h2 ⊢;exact jV.l10 _ 1 q (by simp) rfl h2 (by omega) (jV.kA _ 2 (by simp))
  ·rw[xK e2] at h2 ⊢;exact jV.c9 _ 1 q _ (by simp) rfl h2
 ·rw[ag7 e];rw[xK e] at h1 ⊢;exact jV.c9 _ 0 p _ (by simp) rfl h1
end As
theorem getTop{q:List Rat}(h:q≠[]):q[q.length-1]? = some (bx q):=mH (by have:=ag8.2 h;omega)
theorem Kt{h:Nat}{q:List Rat}(hq:Ch h q)(h1:1≤h):ht (bx q)≤h:=by have:=hq.ht (q.length-1);unfold bx;omega
namespace As
theorem Vt:∀(n:Nat) (q:List Rat),q.length=n→n<4611686018427387904→Fl 274877906944 q→jb.bD (q.map aI) [] (.row 0 0 ((aO q).map aI).length 3) [(0,(.pure (((aO q).map aI).map ag.cells).flatten))]:=by
 intro n
 induction n with
 |zero =>intro q hq _ _;have:q=[]:=afP hq;subst this;exact jb.RC [] rfl rfl (by simp)
 |succ n ih =>
  intro q hq hb hf;obtain⟨v,hv⟩:∃v,q[n]? = some v:=⟨_,afO (by omega)⟩;have hs:=Lx hv hq;have hm:(q.map aI)[n]? = some (aI v):=by rw[afT,hv];rfl
  have H8:=hf v (ag4 hv);have sg:=tf.Sign (aI v) (oH H8);rw[b9] at sg;have hl:(q.map aI).length=n+1:=by rw[afW];exact hq
  by_cases h0:v=0
  ·have e:aO q=aO (q.take n):=by
    conv=>lhs;rw[hs,h0,wu]
   rw[e];refine jb.BZ (q.map aI) n (aI v) _ n rfl (by omega) (by unfold az;omega) (by omega) (by omega) hm sg (hJ.2 h0) (by omega) (by omega) ?_;have:=ih (q.take n) (by rw[agh];omega) (by omega) (fun x hx=>hf x (aiP hx));rwa[ahP] at this
  ·have e:aO q=q:=by rw[hs,Ct h0]
   rw[e];exact jb.FM (q.map aI) n (aI v) _ rfl rfl (by omega) (by unfold az;omega) (by omega) (by omega) hm sg (fun e=>h0 (hJ.1 e))
theorem Tm{k:Nat}(q:List Rat)(hl:q.length≤1000000)(hf:Fl k q)(hk:k≤68719476736):au bp 82 [.pv (pq q)] [] (.row 0 0 ((aO q).map aI).length 3) [(0,(.pure (((aO q).map aI).map ag.cells).flatten))]:=by
 have loop:∀(j t:Nat) (site:List ag),q.length-t=j→t≤q.length→site=(q.take t).map aI→jb.ai site (q.map aI) t [] (.row 0 0 ((aO q).map aI).length 3) [(0,(.pure (((aO q).map aI).map ag.cells).flatten))]:=by
  intro j
  induction j with
  |zero =>intro t site hj ht hs;refine jb.c9 site _ _ rfl (by rw[bM];omega) ?_;rw[agd (by omega)] at hs;rw[hs];exact Vt q.length q rfl (by omega) (bV hf (by omega))
  |succ j ih =>
   intro t site hj ht hs;obtain⟨v,hv⟩:∃v,q[t]? = some v:=⟨_,afO (by omega)⟩;have hvh:=hf v (ag4 hv);have Wi:site.length=t:=by rw[hs,afW,agh];omega
   refine jb.l10 site _ t _ _ rfl (by rw[bM];omega) (getM hv) (QF.DP v (by omega)) (by simp;omega) (by omega) (ih (t+1) _ (by omega) (by omega) ?_);rw[hs,agH,hv];simp
 exact jb.e0 _ (loop _ 0 [] rfl (by omega) rfl)
theorem qU{h b:Nat}(p q:List Rat)(hz:aQ q=false)(o4:q≠[])(hp:Ch h p)(hq:Ch b q)(h1:1≤h)(td:1≤b)(hlp:p.length≤10000)(hlq:q.length≤10000)(hk:2*(h+(p.length+1-q.length)*(b+1))+3*b+5≤68719476736):Cp 132 [pq p,pq q] (.aF [pq (dJ p q).1,pq (dJ p q).2]):=by
 have Ea:=ag8.2 o4;have hqt:=Kt hq td;have M8:=cP hz o4;obtain⟨H,hH⟩:∃H,H=h+(p.length+1-q.length)*(b+1):=⟨_,rfl⟩;rw[←hH] at hk;have hqc:∀i,ht (coef q i)≤b:=fun i=>by have:=hq.ht i;omega
 have loop:∀(n hc:Nat) (out rest:List Rat),rest.length<n→1≤hc→Ch hc rest→hc+(rest.length+1-q.length)*(b+1)≤H→aQ out=false→aQ rest=false→out.length≤p.length+1-q.length→rest.length≤p.length→(∀i,ht (coef out i)≤H+b)→(∀i,i+q.length≤rest.length→coef out i=0) →
   iE.ai (q.map aI) (rest.map aI).length (p.length+1-q.length) (aI (bx q)) (rest.map aI) ((nu (p.length+1-q.length) (coef out)).map aI) (.aF [pq (pM n out rest q).1,pq (pM n out rest q).2]):=by
  intro n
  induction n with
  |zero=>intro hc out rest hn;omega
  |succ n ih =>
   intro hc out rest hn Gd hr hcH zo zr lo lr ho Rf;rw[pM];cases hb:Nat.blt rest.length q.length with
   |true =>
    have bH:=AP.1 hb;rw[afZ];have e:aO (nu (p.length+1-q.length) (coef out))=out:=by rw[←kU zo];refine lP (fun i => ?_);rw[kU zo];exact EL (fun i hi=>eE (by omega)) i
    have ht:=Trim (k:=H+b) (nu (p.length+1-q.length) (coef out)) (by rw[eF];omega) (pB (fun i=>by rw[EL (fun i hi=>eE (by omega))];exact ho i)) (by omega)
    rw[e] at ht;exact iE.c9 _ _ _ _ _ _ _ (by rw[bM,bM];exact bH) (by rw[bM,eF]) ht rfl
   |false =>
    have hle:=xM.1 hb;rw[agf];have G6:rest≠[]:=by intro e;rw[e] at hle;simp at hle;exact o4 hle
    have hrt:=Kt hr Gd;have WQ:∀i,ht (coef rest i)≤hc:=fun i=>by have:=hr.ht i;omega
    have Wi:=rz M8 (by omega) hle;have e1:rest.length+1-q.length=(rest.length-q.length)+1:=by omega
    have e2:((ow rest q).length+1-q.length)*(b+1)≤(rest.length-q.length)*(b+1):=afU _ (by omega);rw[e1,agF,ahr] at hcH;have Xy:ht (stepC rest q)≤hc+b:=by have:=yR (bx rest) (bx q);unfold stepC;omega
    have hdiv:=QF.Div (bx rest) (bx q) (by omega) (by omega) M8;have cc:∀i,coef (aO (dw out (je (rest.length-q.length) [stepC rest q]))) i=if i=rest.length-q.length then stepC rest q else coef out i:=by
     intro i;rw[dW,iA,nZ];by_cases h3:i=rest.length-q.length
     ·rw[ag9 h3,ag7 (by omega),Rf i (by omega),h3,aiq,yV,ajb]
     ·rw[ag7 h3];split
      ·rw[ai4]
      ·rw[eE (p:=[stepC rest q]) (by simp;omega),ai4]
    refine iE.l10 _ _ _ _ _ _ (rest.length-1) (aI (bx rest)) (aI (stepC rest q)) none (rest.length-q.length) (by rw[bM,bM];exact hle) (by rw[bM,bM];unfold az;omega) (by rw[bM];unfold az;omega) (by rw[bM];omega) (by rw[bM];omega) (getM (getTop G6)) hdiv (by rw[bM,bM];omega) (by omega) (by rw[bM,eF];omega) ?_;rw[CP (f:=coef (aO (dw out (je (rest.length-q.length) [stepC rest q])))) (by omega) (by rw[cc,ag9 rfl]) (fun i hi=>by rw[cc,ag7 hi])];have next:=ih (hc+b+1) (aO (dw out (je (rest.length-q.length) [stepC rest q]))) (ow rest q) (by omega) (by omega) (hr.step hq M8) (by omega) (bj _) (bj _) (zV (fun i hi=>by
     rw[←dW,cc,ag7 (by omega),eE (by omega)])) (by omega) (fun i=>by
     rw[cc];split
     ·omega
     ·exact ho i) (fun i hi=>by rw[cc,ag7 (by omega)];exact Rf i (by omega))
    have inner:∀(j t:Nat),q.length-t=j→t≤q.length→iE.bD (q.map aI) (rest.map aI).length (p.length+1-q.length) (((rest.map aI).length:Int)-((q.map aI).length:Int)) t (aI (bx q)) (aI (stepC rest q)) ((nu rest.length (fun i=>coef rest i-if rest.length-q.length≤i∧i<rest.length-q.length+t then stepC rest q*coef q (i-(rest.length-q.length)) else 0)).map aI) ((nu (p.length+1-q.length) (coef (aO (dw out (je (rest.length-q.length) [stepC rest q]))))).map aI)
      (.aF [pq (pM n (aO (dw out (je (rest.length-q.length) [stepC rest q]))) (ow rest q) q).1,pq (pM n (aO (dw out (je (rest.length-q.length) [stepC rest q]))) (ow rest q) q).2]):=by
     intro j
     induction j with
     |zero =>
      intro t hj ht;have e:aO (nu rest.length (fun i=>coef rest i-if rest.length-q.length≤i∧i<rest.length-q.length+t then stepC rest q*coef q (i-(rest.length-q.length)) else 0))=ow rest q:=by
       refine lP (fun i => ?_);rw[iA,nZ,bZ];by_cases hi:i<rest.length
       ·rw[qz (kW _ hi)];by_cases h3:i<rest.length-q.length
        ·rw[ag7 (by omega),ag9 h3];grind
        ·rw[ag9 (by omega),ag7 h3];grind
       ·rw[eE (p:=nu _ _) (by rw[eF];omega),eE (p:=rest) (by omega),ag7 (by omega),eE (p:=q) (by omega)];grind
      have YZ:=Tm (k:=2*hc+2*b+1) (nu rest.length (fun i=>coef rest i-if rest.length-q.length≤i∧i<rest.length-q.length+t then stepC rest q*coef q (i-(rest.length-q.length)) else 0)) (by rw[eF];omega) (pB (fun i=>by
       by_cases hi:i<rest.length
       ·rw[qz (kW _ hi)];have a1:=WQ i;have a2:=hqc (i-(rest.length-q.length));have a3:=pA (stepC rest q) (coef q (i-(rest.length-q.length)));have a4:=Kh (coef rest i) (stepC rest q*coef q (i-(rest.length-q.length)));split
        ·omega
        ·rw[show coef rest i-0=coef rest i from by grind];omega
       ·rw[eE (p:=nu _ _) (by rw[eF];omega),k7];omega)) (by omega)
      rw[e] at YZ;exact iE.FM _ _ _ _ _ _ _ _ _ _ _ (by rw[bM];omega) (by rw[bM,bM,eF]) YZ next
     |succ j ZH =>
      intro t hj ht;obtain⟨w,hw⟩:∃w,q[t]? = some w:=⟨_,afO (by omega)⟩;have hwc:=qz hw;have a2:=hqc t;rw[hwc] at a2;have a1:=WQ (rest.length-q.length+t);have a3:=pA (stepC rest q) w;have hg:rest.length-q.length+t<rest.length:=by omega
      refine iE.BZ _ _ _ _ _ _ _ _ _ (aI w) (rest.length-q.length+t) (aI (coef rest (rest.length-q.length+t))) _ _ (rest.length-q.length+t) (by rw[bM];omega) (getM hw) (by rw[bM,bM];unfold az;omega) (by rw[bM,bM];omega) (by rw[bM];omega) ?_ (QF.Mul _ _ (by omega) (by omega)) (QF.Sub (coef rest (rest.length-q.length+t)) (stepC rest q*w) (by omega) (by omega)) (by rw[bM,bM];omega) (by rw[bM];omega) (by rw[bM,eF];omega) (by omega) ?_
      ·rw[getM (kW _ hg),ag7 (by omega)]
       congr 2;grind
      ·rw[CP (f:=fun i=>coef rest i-if rest.length-q.length≤i∧i<rest.length-q.length+(t+1) then stepC rest q*coef q (i-(rest.length-q.length)) else 0) hg (by
        rw[ag9 (by omega),show rest.length-q.length+t-(rest.length-q.length)=t from by omega,hwc]) (fun i hi=>by
        by_cases h:rest.length-q.length≤i∧i<rest.length-q.length+t
        ·rw[ag9 h,ag9 (by omega)]
        ·rw[ag7 h,ag7 (by omega)])]
       exact ZH (t+1) (by omega) (by omega)
    have:=inner _ 0 rfl (by omega);have e0:(nu rest.length (fun i=>coef rest i-if rest.length-q.length≤i∧i<rest.length-q.length+0 then stepC rest q*coef q (i-(rest.length-q.length)) else 0))=rest:=by
     refine aiM (fun i => ?_);by_cases hi:i<rest.length
     ·rw[kW _ hi,mH hi,ag7 (by omega)]
      congr 1;grind
     ·rw[agC (by rw[eF];omega),agC (by omega)]
    rwa[e0] at this
 have bH:=iz p;have hmul:((aO p).length+1-q.length)*(b+1)≤(p.length+1-q.length)*(b+1):=afU _ (by omega);have:=loop (p.length+1) h [] (aO p) (by omega) h1 hp.trim (by omega) rfl (bj p) (by simp) bH (fun i=>by rw[mG,k7];omega) (fun i _=>rfl);have YZ:=Tm (k:=h) p (by omega) (hp.fl h1) (by omega);refine iE.e0 _ _ _ _ (p.length+1-q.length) (q.length-1) (aI (bx q)) YZ (by rw[bM,bM];unfold az;omega) (by rw[bM,bM];unfold az;omega) (by rw[bM,bM];omega) (by omega) (by rw[bM];unfold az;omega) (by rw[bM];omega) (getM (getTop o4)) ?_;rw[EK];exact this
theorem lS{h:Nat}(p:List Rat)(hz:aQ p=false)(hp:Ch h p)(h1:1≤h)(hl:p.length≤10000)(hk:3*h+3≤68719476736):Cp 135 [pq p] (pq (dG p)):=by
 by_cases h0:p=[]
 ·subst h0;exact we.e0 _ rfl
 ·have M8:=cP hz h0;have htp:=Kt hp h1;have jy:=ag8.2 h0;have IH:=tf.Of 1 (by unfold az;omega);have z1:ht ((1:Int):Rat)=1:=by decide
  have hd:=QF.Div ((1:Int):Rat) (bx p) (by omega) (by omega) M8;have b1:=yR ((1:Int):Rat) (bx p);have Fe:=plus (a:=1) (d:=h+1) [] p (((1:Int):Rat)/bx p) (by simp) (by omega) (fun x hx=>by cases hx) (hp.fl h1) (by omega) (by omega) h1 (by omega);have e:aO (dw [] (a7 (((1:Int):Rat)/bx p) p))=dG p:=rfl;rw[e] at Fe;exact we.e1 _ _ (p.length-1) _ _ none _ (by rw[bM];omega) IH (by rw[bM];unfold az;omega) (by rw[bM];omega) (getM (getTop h0)) hd Fe
theorem gcd{a b N i j:Nat}(ha:1≤a)(gM:a≤b)(hN:N≤1000)(hk:4*xB a b (N+2)+10≤68719476736)(p q:List Rat)(e:DR a b N i j p q)(hl:p.length≤10000):Cp 133 [pq p,pq q] (pq (cu p q)):=by
 have hx:xB a b (N+2)=xB a b N+2*(xB a b (N+1)+1):=rfl;have x1:∀j,1≤xB a b j:=fun j=>ag3 ha (eX a b gM (i:=0) (ago _))
 have loop:∀(n i j:Nat) (p q:List Rat),q.length<n→DR a b N i j p q→p.length≤10000→jr.ai (p.map aI) (q.map aI) (pq (dG (lW n p q))):=by
  intro n
  induction n with
  |zero=>intro i j p q hn;omega
  |succ n ih =>
   intro i j p q hn e hl;have hi:=e.idx;have AB:=e.lt;rw[lW];by_cases h:q.length=0
   ·rw[beq_iff.2 h,afZ];have:=eX a b gM (i:=i) (j:=N+1) (by omega);exact jr.c9 _ _ _ (by rw[bM];omega) (lS p e.zp e.hp (x1 i) hl (by omega))
   ·have et:q≠[]:=fun e=>h (by rw[e];rfl)
    rw[jc.2 h,agf];obtain⟨r1,r2⟩:=e.rest gM et;have hz:=gT p q;have hlen:=e.len;have Vq:=e.bound;have b1:=eX a b gM (i:=j+(p.length-q.length)) (j:=N+1) (by omega);have hd:=qU p q e.zq et e.hp e.hq (x1 i) (x1 j) hl (by omega) (by obtain⟨j',rfl⟩:∃j',j=j'+1:=⟨j-1,by omega⟩;obtain⟨d,hd⟩:∃d,p.length-q.length=d+1:=⟨p.length-q.length-1,by omega⟩;have h2:=eX a b gM (i:=i) (j:=j') (by omega);have h3:=yY a b gM j' d;have h4:=eX a b gM (i:=j'+1+(d+1)) (j:=N+1) (by omega);have h5:=eX a b gM (i:=j'+1) (j:=N) (by omega);rw[show p.length+1-q.length=d+2 from by omega];omega)
    have hm:=lS (cb p q) hz r1 (x1 _) (by omega) (by omega);exact jr.l10 _ _ _ _ _ (by rw[bM];omega) hd hm (ih _ _ q _ (by rw[eH hz];omega) (e.next gM et (r1.lS (x1 _) hz) (by rw[eH hz];exact r2) (ec _)) (by omega))
 exact jr.e0 _ _ (loop (q.length+1) i j p q (Nat.lt_succ_self _) e hl)
end As
def fB(h L:Nat):Nat:=L*(h+(L+1)*(xB h (h+1) (L+1)+1)+xB h (h+1) (L+1))+1
def sB(h L:Nat):Nat:=xB (fB h L) (fB h L+1) (L+1)
structure dN (h L:Nat) (p:List Rat):Prop where
 zp:aQ p=false
 ne:p≠[]
 len:p.length≤L
 ch:Ch h p
 h1:1≤h
 hL:L≤10
 sz:sB h L≤1073741824
theorem yZ{a b:Nat}(ha:1≤a)(gM:a≤b)(j:Nat):1≤xB a b j:=ag3 ha (eX a b gM (i:=0) (ago _))
section
variable {h L:Nat} {p:List Rat}
theorem dN.pos(f:dN h L p):1≤L:=by have:=ag8.2 f.ne;have:=f.len;omega
theorem dN.x8(f:dN h L p):Sym.x8 (p.map aI)=0:=mF f.zp (by have:=f.len;have:=f.hL;omega)
theorem dN.fb(f:dN h L p):xB h (h+1) (L+1)≤fB h L∧h+(L+1)*(xB h (h+1) (L+1)+1)+xB h (h+1) (L+1)≤fB h L∧1≤fB h L∧fB h L≤1073741824∧h≤fB h L:=by have hL:=f.pos;have h1:1*(h+(L+1)*(xB h (h+1) (L+1)+1)+xB h (h+1) (L+1))≤L*(h+(L+1)*(xB h (h+1) (L+1)+1)+xB h (h+1) (L+1)):=afU _ hL;have h2:=eX (fB h L) (fB h L+1) (ahN _) (i:=0) (j:=L+1) (ago _);have h3:=f.sz;have h4:xB (fB h L) (fB h L+1) 0=fB h L:=rfl;have h5:sB h L=xB (fB h L) (fB h L+1) (L+1):=rfl;have h6:fB h L=L*(h+(L+1)*(xB h (h+1) (L+1)+1)+xB h (h+1) (L+1))+1:=rfl;refine⟨?_,?_,?_,?_,?_⟩<;>omega
theorem dN.euc(f:dN h L p):DR h (h+1) L 0 1 p (an p):=⟨f.ch,f.ch.derive (by have:=f.len;have:=f.hL;omega),by omega,lQ f.ne,by have:=f.len;omega,f.zp,bc p⟩
theorem dN.x2(f:dN h L p):4*xB h (h+1) (L+2)+10≤68719476736:=by obtain⟨h1,h2,h3,h4,h5⟩:=f.fb;have e:xB h (h+1) (L+2)=xB h (h+1) L+2*(xB h (h+1) (L+1)+1):=rfl;have:=Gn h (h+1) (ahN _) L;omega
theorem dN.PO(f:dN h L p):Ch (xB h (h+1) (L+1)) (cu p (an p)):=by have:=LN f.h1 (ahN h) ((an p).length+1) 0 1 p (an p) f.euc;exact this.lS (yZ f.h1 (ahN h) _) (kr _ _ _ f.zp (bc p))
theorem dN.wB(f:dN h L p):cu p (an p)≠[]:=AR _ f.zp (bc p) f.ne
theorem dN.Vu(f:dN h L p):2*(h+(p.length+1-(cu p (an p)).length)*(xB h (h+1) (L+1)+1))+3*xB h (h+1) (L+1)+5≤68719476736:=by obtain⟨h1,h2,h3,h4,h5⟩:=f.fb;have hl:=f.len;have:(p.length+1-(cu p (an p)).length)*(xB h (h+1) (L+1)+1)≤(L+1)*(xB h (h+1) (L+1)+1):=afU _ (by omega);omega
theorem dN.AM(f:dN h L p):(cu p (an p)).length≤p.length:=((nI p (an p) f.zp (bc p)).1.len (eM _ _) f.zp f.ne).2
theorem dN.CQ(f:dN h L p):(dJ p (cu p (an p))).1.length≤p.length:=by have:=CM (p:=p) (eM p (an p)) f.wB;have:=ag8.2 f.wB;omega
theorem dN.LQ(f:dN h L p):Ch (fB h L) (dJ p (cu p (an p))).1:=by have hq:=Gm f.ch f.PO f.h1 (yZ f.h1 (ahN h) _) (eM _ _) f.wB;have hl:=f.len;have h1:(p.length+1-(cu p (an p)).length)*(xB h (h+1) (L+1)+1)≤(L+1)*(xB h (h+1) (L+1)+1):=afU _ (by omega);have h2:=Ch.LM (bV hq (show _≤h+(L+1)*(xB h (h+1) (L+1)+1)+xB h (h+1) (L+1) by omega));refine h2.mono ?_;have h3:(dJ p (cu p (an p))).1.length*(h+(L+1)*(xB h (h+1) (L+1)+1)+xB h (h+1) (L+1))≤L*(h+(L+1)*(xB h (h+1) (L+1)+1)+xB h (h+1) (L+1)):=afU _ (by have:=f.CQ;omega);unfold fB;omega
theorem dN.AT(f:dN h L p):Ch (fB h L) (aY p):=f.LQ.lS f.fb.2.2.1 (kq _ _).1
theorem dN.pF(f:dN h L p):(aY p).length≤p.length:=by unfold aY;rw[eH (kq _ _).1];exact f.CQ
theorem dN.CR(f:dN h L p):DR (fB h L) (fB h L+1) L 0 1 (aY p) (an (aY p)):=by obtain⟨f1,f2,_⟩:=free_spec f.zp f.ne;have:=f.pF;have:=f.len;have:=f.hL;exact⟨f.AT,f.AT.derive (by omega),by omega,lQ f2,by omega,f1,bc _⟩
theorem II{a b N:Nat}(ha:1≤a)(gM:a≤b):∀(n i j:Nat) (p d:List Rat),DR a b N i j p d→∀g∈chainF n p d,Ch (xB a b (N+1)) g∧g.length≤p.length
 |0,i,j,p,d,e,g,hg=>by rw[chainF,ah4] at hg;rw[hg];exact⟨e.hp.mono (eX a b gM (by have:=e.idx;have:=e.lt;omega)),afY _⟩
 |n+1,i,j,p,d,e,g,hg=>by
  have hp:Ch (xB a b (N+1)) p:=e.hp.mono (eX a b gM (by have:=e.idx;have:=e.lt;omega));by_cases h:d=[]
  ·rw[h,j5,ah4] at hg;rw[hg];exact⟨hp,afY _⟩
  ·rw[gN h] at hg;rcases agp.1 hg with hg|hg
   ·rw[hg];exact⟨hp,afY _⟩
   ·obtain⟨r1,r2⟩:=e.rest gM h;have hc:Ch (xB a b (j+(p.length-d.length))) (aO (a7 (-1) (cb p d))):=by
     refine Ch.trim ?_;obtain⟨D,d1,d2,d3⟩:=r1;refine⟨D,d1,d2,fun i => ?_⟩;obtain⟨m,m1,m2⟩:=d3 i;refine⟨-m,?_,by rw[gj];exact m2⟩;rw[bZ,ahl,←m1];grind
    have:=II ha gM n _ _ d _ (e.next gM h hc (kx e.zq h) (bj _)) g hg;exact⟨this.1,by have:=e.len;omega⟩
theorem dN.chain(f:dN h L p):∀g∈aZ p,Fl 1073741824 g∧g.length≤10:=by intro g hg;have hf:=f.fb;obtain⟨h1,h2⟩:=II hf.2.2.1 (ahN _) (aY p).length 0 1 _ _ f.CR g hg;have h3:=f.sz;have h4:=f.pF;have h5:=f.len;have h6:=f.hL;exact⟨bV (h1.fl (yZ hf.2.2.1 (ahN _) _)) h3,by omega⟩
theorem dN.uc(f:dN h L p):(aZ p).length≤11:=by have h1:=wA (aY p).length (aY p) (an (aY p));have h2:=f.pF;have h3:=f.len;have h4:=f.hL;have h5:(aZ p).length≤(aY p).length+1:=h1;omega
end
theorem ud:∀(l:Int) (r:List Int),0≤varS l r∧varS l r≤r.length
 |_,[]=>⟨ajQ _,ajQ _⟩
 |l,s::r=>by
  rw[varS];obtain⟨a,b⟩:=ud l r;obtain⟨c,d⟩:=ud s r;rw[agn];split
  ·omega
  ·split<;>omega
theorem oR(G:List (List Rat))(x:Rat):0≤eZ G x∧eZ G x≤G.length:=by have:=ud 0 (G.map (fun g=>sg (evalL g x)));rw[afW] at this;exact this
abbrev Vv(G:List (List Rat)):PV:=dp (db ag.cells) (G.map (fun g=>g.map aI))
theorem As.PR{h L:Nat}{p:List Rat}(f:dN h L p):Cp 69 [pq p] (.aF [pq (aY p),.ay]):=by have hl:=f.len;have hL:=f.hL;have hf:=f.fb;have Hr:=f.ch.fl f.h1;have IJ:=Iq.Check (p.map aI) (Gs Hr (by omega));rw[f.x8] at IJ;have hd:=Iq.derive (p.map aI) (by rw[bM];omega) (kT (bV Hr (by omega)));rw[mE] at hd;have hp:=ag8.2 f.ne;have hg:=As.gcd f.h1 (ahN h) (by omega) f.x2 p (an p) f.euc (by omega);have Vh:=As.qU p (cu p (an p)) (eM _ _) f.wB f.ch f.PO f.h1 (yZ f.h1 (ahN h) _) (by omega) (by have:=f.AM;omega) f.Vu;have hm:=As.lS (dJ p (cu p (an p))).1 (kq _ _).1 f.LQ hf.2.2.1 (by have:=f.CQ;omega) (by omega);exact Es.e1 _ _ _ _ _ _ IJ (by rw[bM];omega) hd hg Vh hm
theorem EU{p q:List ag}(hp:x8 p=0)(hq:x8 q=0):Gt p q=0:=by unfold Gt;rw[ag9 hp];exact hq
theorem As.next{a b N i j:Nat}(ha:1≤a)(gM:a≤b)(hN:N≤60)(hk:4*xB a b (N+2)+10≤68719476736){p d:List Rat}(e:DR a b N i j p d)(h:d≠[]):Cp 182 [pq p,pq d] (.aF [pq (dJ p d).1,pq (cb p d),.ay])∧Cp 183 [pq (cb p d),(aI ((-1:Int):Rat)).pv] (.aF [pq (aO (a7 (-1) (cb p d))),.ay]):=by
 have x1:∀j,1≤xB a b j:=yZ ha gM;have hi:=e.idx;have AB:=e.lt;have hlen:=e.len;have Vq:=e.bound;obtain⟨r1,r2⟩:=e.rest gM h;have hx:xB a b (N+2)=xB a b N+2*(xB a b (N+1)+1):=rfl;have b0:=eX a b gM (i:=i) (j:=N+1) (by omega);have b1:=eX a b gM (i:=j+(p.length-d.length)) (j:=N+1) (by omega);have b2:=eX a b gM (i:=j) (j:=N+1) (by omega);have hcp:=mF e.zp (by omega);have hcd:=mF e.zq (by omega);have hzr:=gT p d;have WG:=mF hzr (by omega);constructor
 ·have IJ:=As.LP (p.map aI) (d.map aI) (Gs (e.hp.fl (x1 i)) (by omega)) (Gs (e.hq.fl (x1 j)) (by omega));rw[EU hcp hcd] at IJ;have hd:=As.qU p d e.zq h e.hp e.hq (x1 i) (x1 j) (by omega) (by omega) (by
   obtain⟨j',rfl⟩:∃j',j=j'+1:=⟨j-1,by omega⟩;obtain⟨d',hd⟩:∃d',p.length-d.length=d'+1:=⟨p.length-d.length-1,by omega⟩;have h2:=eX a b gM (i:=i) (j:=j') (by omega);have h3:=yY a b gM j' d';have h4:=eX a b gM (i:=j'+1+(d'+1)) (j:=N+1) (by omega);rw[show p.length+1-d.length=d'+2 from by omega];omega)
  have:=ag8.2 h;exact H3.e1 _ _ _ _ IJ (by rw[bM];omega) hd
 ·have IJ:=Iq.Check ((cb p d).map aI) (Gs (r1.fl (x1 _)) (by omega));rw[WG] at IJ;have hp:=As.plus (a:=1) (d:=1) [] (cb p d) ((-1:Int):Rat) (by simp) (by omega) (fun x hx=>by cases hx) (r1.fl (x1 _)) (by decide) (by omega) (x1 _) (by omega);exact Ca.e0 _ _ _ IJ hp
theorem dN.R4{h L:Nat}{p:List Rat}(f:dN h L p):4*xB (fB h L) (fB h L+1) (L+2)+10≤68719476736:=by have e:xB (fB h L) (fB h L+1) (L+2)=xB (fB h L) (fB h L+1) L+2*(xB (fB h L) (fB h L+1) (L+1)+1):=rfl;have h1:=Gn (fB h L) (fB h L+1) (ahN _) L;have h2:=f.sz;have h3:sB h L=xB (fB h L) (fB h L+1) (L+1):=rfl;omega
end Go.Proofs.YtcpnocgollpbhaaGreatDoor.Sym
namespace Go.Proofs.YtcpnocgollpbhaaGreatDoor.Sym
open Go Path cF
set_option linter.unusedVariables false
namespace Ha
theorem check(p:List ag)(hp:sE 274877906944 p):Cp 175 [ae p] (bJ (zT (if x8 p=0 then (if p.length=0 then 8 else 0) else x8 p))):=by
 have hk:=Iq.Check p hp;by_cases h:x8 p=0
 ·rw[ag9 h];rw[h] at hk;by_cases h0:p.length=0
  ·rw[ag9 h0];exact qu.e0 p hk h0
  ·rw[ag7 h0];exact qu.e1 p hk h0
 ·rw[ag7 h];rw[xK h] at hk ⊢;exact qu.e2 p _ hk
theorem chain{h L:Nat}{p:List Rat}(f:dN h L p):Cp 130 [pq p] (.aF [Vv (aZ p),.ay]):=by
 have hL:=f.hL;have TW:=f.fb;obtain⟨f1,f2,_⟩:=free_spec f.zp f.ne;have Hr:=f.pF;have hl:=f.len;have Nt:=f.AT.fl TW.2.2.1;have hd:=Iq.Cu ((aY p).map aI) (mF f1 (by omega)) (kT (bV Nt (by omega)));rw[mE] at hd;have loop:∀(n i j:Nat) (pre:List (List Rat)) (q d:List Rat),d.length<n→pre.length+n≤20→DR (fB h L) (fB h L+1) L i j q d→nS.ai (d.map aI) ((pre++[q]).map (fun g=>g.map aI)) (.aF [Vv (pre++chainF n q d),.ay]):=by
  intro n
  induction n with
  |zero=>intro i j pre q d hn;omega
  |succ n ih =>
   intro i j pre q d hn Fe e;by_cases h0:d=[]
   ·subst h0;rw[j5];exact nS.uA _ _ (by simp)
   ·rw[gN h0];obtain⟨c1,c2⟩:=As.next TW.2.2.1 (ahN _) (by omega) f.R4 e h0;obtain⟨r1,r2⟩:=e.rest (ahN _) h0;have hc:Ch (xB (fB h L) (fB h L+1) (j+(q.length-d.length))) (aO (a7 (-1) (cb q d))):=by
     refine Ch.trim ?_;obtain⟨D,d1,d2,d3⟩:=r1;refine⟨D,d1,d2,fun i => ?_⟩;obtain⟨m,m1,m2⟩:=d3 i;refine⟨-m,?_,by rw[gj];exact m2⟩;rw[bZ,ahl,←m1];grind
    have next:=ih _ _ (pre++[q]) d _ (by have:=kx (p:=q) e.zq h0;omega) (by rw[agB,ahj];omega) (e.next (ahN _) h0 hc (kx e.zq h0) (bj _))
    have es:(pre++[q]).map (fun g=>g.map aI)++[d.map aI]=(pre++[q]++[d]).map (fun g=>g.map aI):=by rw[agU (l₁:=pre++[q])];rfl
    have hlen:((pre++[q]++[d]).map (fun g=>g.map aI)).length=pre.length+2:=by simp
    have IH:=tf.Of (-1) (by unfold az;omega);have:=ag8.2 h0;refine nS.l10 _ _ pre.length (q.map aI) _ _ _ _ (by rw[bM];omega) (by rw[es,hlen];omega) (by rw[es,hlen];unfold az;omega) (by rw[es,hlen];omega) (by rw[es,hlen];omega) (by rw[es];simp) c1 IH c2 ?_;rw[es];have e2:pre++[q]++chainF n d (aO (a7 (-1) (cb q d)))=pre++q::chainF n d (aO (a7 (-1) (cb q d))):=by simp
    rwa[e2] at next
 have:=loop (aY p).length 0 1 [] (aY p) (an (aY p)) (lQ f2) (by simp;omega) f.CR;exact nS.e0 _ _ _ (As.PR f) hd this
theorem changes(G:List (List Rat))(x:Rat)(hG:∀g∈G,aQ g=false∧Fl 1073741824 g∧g.length≤10)(hl:G.length≤1000)(hx:ht x≤1073741824):Cp 184 [Vv G,(aI x).pv] (vI (eZ G x)):=by
 have loop:∀(j t n:Nat) (l:Int),G.length-t=j→t≤G.length→n≤t → -1≤l→l≤1→gS.ai n l (G.map (fun g=>g.map aI)) t (aI x) (vI ((n:Int)+varS l ((G.drop t).map (fun g=>sg (evalL g x))))):=by
  intro j
  induction j with
  |zero =>intro t n l hj ht hn _ _;rw[agv (by omega),aiE,varS,Int.add_zero];exact gS.uA n l _ t _ (by rw[afW];omega)
  |succ j ih =>
   intro t n l hj htt hn I8 I9;obtain⟨g,hg⟩:∃g,G[t]? = some g:=⟨_,afO (by omega)⟩;obtain⟨z,fl,ln⟩:=hG g (ag4 hg);have hm:(G.map (fun g=>g.map aI))[t]? = some (g.map aI):=by rw[afT,hg];rfl
   have u7:=Iq.Eval (g.map aI) (aI x) (mF z (by omega)) (kT fl) (bK hx);rw[mE,b9] at u7;have h3:=uJ g x 1073741824 fl hx;have h4:g.length*(2*1073741824+1)≤10*(2*1073741824+1):=afU _ ln;have hs:=QF.Sign (evalL g x) (by omega);have hv:=tO.e0 _ _ _ none _ u7 hs;have Xq:iy (evalL g x) 0=sg (evalL g x):=rfl;have h3s:=mK (evalL g x);rw[Xq] at hv;have bH:t<(G.map (fun g=>g.map aI)).length:=by rw[afW];omega
   rw[drop_cons hg,agD,varS];generalize sg (evalL g x)=s at hv h3s;by_cases h0:s=0
   ·rw[ag9 h0];exact gS.kA n l _ t _ _ _ bH hm hv h0 (by omega) (ih (t+1) n l (by omega) (by omega) (by omega) I8 I9)
   ·rw[ag7 h0];by_cases h1:s = -l
    ·rw[ag9 h1];have:=ih (t+1) (n+1) s (by omega) (by omega) (by omega) (by omega) (by omega);rw[show (((n+1:Nat):Int))+varS s ((G.drop (t+1)).map (fun g=>sg (evalL g x)))=(n:Int)+(1+varS s ((G.drop (t+1)).map (fun g=>sg (evalL g x)))) from by omega] at this;exact gS.l10 n l _ t _ _ _ bH hm hv h0 (by unfold az;omega) h1 (by omega) (by omega) this
    ·rw[ag7 h1,Int.zero_add];exact gS.c9 n l _ t _ _ _ bH hm hv h0 (by unfold az;omega) h1 (by omega) (ih (t+1) n s (by omega) (by omega) (by omega) (by omega) (by omega))
 have:=loop _ 0 0 0 rfl (by omega) (by omega) (by omega) (by omega);rw[ah3,show(((0:Nat):Int))=0 from rfl,Int.zero_add] at this;exact gS.e0 _ _ this
theorem uN{h L:Nat}{p:List Rat}(f:dN h L p):∀g∈aZ p,aQ g=false∧Fl 1073741824 g∧g.length≤10:=by
 intro g hg;refine⟨?_,f.chain g hg⟩;have key:∀(n:Nat) (p d:List Rat),aQ p=false→aQ d=false→∀g∈chainF n p d,aQ g=false:=by
  intro n
  induction n with
  |zero=>intro p d hp _ g hg;rw[chainF,ah4] at hg;rw[hg];exact hp
  |succ n ih =>
   intro p d hp hd g hg;by_cases h:d=[]
   ·rw[h,j5,ah4] at hg;rw[hg];exact hp
   ·rw[gN h] at hg;rcases agp.1 hg with hg|hg
    ·rw[hg];exact hp
    ·exact ih d _ hd (bj _) g hg
 exact key _ _ _ (free_spec f.zp f.ne).1 (bc _) g hg
theorem Count{h L:Nat}{p:List Rat}(f:dN h L p)(lo hi:Rat)(hlh:lo≤hi)(h1:ht lo≤1073741824)(h2:ht hi≤1073741824):Cp 223 [pq p,(aI lo).pv,(aI hi).pv] (.aF [vI (eZ (aZ p) lo-eZ (aZ p) hi),.ay]):=by have hc:=f.uc;have IJ:=check (p.map aI) (Gs (f.ch.fl f.h1) (by have:=f.fb;omega));have hp:=ag8.2 f.ne;rw[f.x8,ag9 rfl,ag7 (by rw[bM];omega)] at IJ;obtain⟨a1,a2⟩:=oR (aZ p) lo;obtain⟨b1,b2⟩:=oR (aZ p) hi;exact zN.e3 _ _ _ _ _ _ _ _ _ IJ (QF.Valid lo (by omega)) rfl (QF.Valid hi (by omega)) rfl (QF.xG lo hi (by omega) (by omega)) (AN.2 hlh) (chain f) (changes _ lo (uN f) (by omega) h1) (changes _ hi (uN f) (by omega) h2) (by unfold az;omega)
end Ha
def sY(a b:Rat):aw:=⟨aI a,aI b⟩
def aw.ok(r:aw):Bool:=r.lo.valid&&(r.hi.valid&&decide (r.lo.val≤r.hi.val))
def LR(r:aw):Rat:=bif r.ok then r.lo.val else 0
def LS(r:aw):Rat:=bif r.ok then r.hi.val else 0
theorem CS{r:aw}(h:r.ok=true):r.lo.valid=true∧r.hi.valid=true∧r.lo.val≤r.hi.val:=by unfold aw.ok at h;simp only[Bool.and_eq_true,decide_eq_true_eq] at h;exact h
theorem Vw(r:aw):LR r≤LS r:=by
 unfold LR LS;cases h:r.ok with
 |true=>exact(CS h).2.2
 |false=>exact ag2
theorem Gu{a b:Rat}(h:a≤b):(sY a b).ok=true:=by unfold aw.ok sY;simp only[rp,b9,decide_eq_true h,Bool.and_self]
theorem Gv{a b:Rat}(h:a≤b):LR (sY a b)=a:=by unfold LR;rw[Gu h,afZ];exact b9 a
theorem Gw{a b:Rat}(h:a≤b):LS (sY a b)=b:=by unfold LS;rw[Gu h,afZ];exact b9 b
theorem PS{r:aw}(h:r.ok=true):sY (LR r) (LS r)=r:=by obtain⟨h1,h2,h3⟩:=CS h;unfold sY LR LS;rw[h,afZ,afZ,yQ h1,yQ h2]
theorem R5{r:aw}(h:r.ok=false):sY (LR r) (LS r)=⟨⟨false,[],[]⟩,⟨false,[],[]⟩⟩:=by unfold sY LR LS;rw[h];rfl
abbrev Ku(k:Nat)(r:aw):Prop:=(r.lo.num.length≤k∧r.lo.den.length≤k)∧(r.hi.num.length≤k∧r.hi.den.length≤k)
theorem Gx{a b:Rat}{k:Nat}(ha:ht a≤k)(hb:ht b≤k):Ku k (sY a b):=⟨bK ha,bK hb⟩
theorem Vx{r:aw}{k:Nat}(h:Ku k r)(hk:1≤k):ht (LR r)≤k:=by
 unfold LR;cases r.ok with
 |true=>exact gm h.1.1 h.1.2 hk
 |false=>exact ag3 (ajK k7) hk
theorem Vy{r:aw}{k:Nat}(h:Ku k r)(hk:1≤k):ht (LS r)≤k:=by
 unfold LS;cases r.ok with
 |true=>exact gm h.2.1 h.2.2 hk
 |false=>exact ag3 (ajK k7) hk
namespace Wl
theorem Valid(r:aw)(h:Ku 68719476736 r):Cp 142 [r.pv] (vB r.ok):=by
 have h1:=tf.Valid r.lo ⟨by omega,by omega⟩;have h2:=tf.Valid r.hi ⟨by omega,by omega⟩;have h3:=tf.xG r.lo r.hi ⟨by omega,by omega⟩ ⟨by omega,by omega⟩;unfold aw.ok;cases hv:r.lo.valid with
 |false=>exact mB.e2 r _ h1 hv
 |true =>
  cases hw:r.hi.valid with
  |false=>exact mB.e1 r _ _ h1 hv h2 hw
  |true =>have:=mB.e0 r _ _ _ h1 hv h2 hw h3;rwa[show decide (iy r.lo.val r.hi.val≤0)=decide (r.lo.val≤r.hi.val) from decide_eq_decide.2 AN] at this
theorem clean(r:aw)(h:Ku 68719476736 r):Cp 75 [r.pv] (sY (LR r) (LS r)).pv:=by
 have hv:=Valid r h;cases hk:r.ok with
 |false=>rw[R5 hk];exact pr.e0 r _ hv hk
 |true =>obtain⟨h1,h2,h3⟩:=CS hk;have:=pr.e1 r _ _ _ hv hk (Iq.DP r.lo ⟨by omega,by omega⟩) (Iq.DP r.hi ⟨by omega,by omega⟩);rw[yQ h1,yQ h2] at this;rw[PS hk];exact this
theorem Tn(x:Rat)(hx:ht x≤68719476736):Cp 73 [(aI x).pv] (sY x x).pv:=tN.e0 _ _ _ (QF.DP x hx) (QF.DP x hx)
end Wl
def ptQ(a w:Rat)(k j:Nat):Rat:=a+w*Rat.divInt (j:Int) ((2^k:Nat):Int)
theorem Gy(k:Nat):(((2^k:Nat):Int):Rat)≠0:=fun e=>by have:=aj4.1 (show (((2^k:Nat):Int):Rat)=((0:Int):Rat) from e);have:=aj6 (n:=k) (show 0<2 by omega);omega
theorem hO(a w:Rat)(k j:Nat):ptQ a w (k+1) (2*j)=ptQ a w k j:=by
 unfold ptQ
 congr 2
 have h:=Gy k;have h2:=Gy (k+1);rw[agK,agK,ahs,ahs];have e:(((2^(k+1):Nat):Int):Rat)=(((2^k:Nat):Int):Rat)*2:=by rw[show (2:Rat)=((2:Int):Rat) from rfl,←agt];congr 1
 have e2:((2*j:Nat):Int)=(j:Int)*2:=by omega
 rw[e,e2,agt,show(((2:Int)):Rat)=2 from rfl,Rat.inv_mul_rev];have i2:(2:Rat)*2⁻¹=1:=by decide +kernel
 generalize ((((2^k:Nat):Int):Rat))⁻¹=u;generalize ((j:Int):Rat)=v;have:v*2*(2⁻¹*u)=v*(2*2⁻¹)*u:=by grind
 rw[this,i2];grind
theorem Kv(a w:Rat)(k j:Nat):Rat.divInt 1 2*(ptQ a w k j+ptQ a w k (j+1))=ptQ a w (k+1) (2*j+1):=by
 rw[←hO a w k j,←hO a w k (j+1)];unfold ptQ;rw[agK,agK,agK,agK,ahs,ahs,ahs,ahs];generalize ((((2^(k+1):Nat):Int):Rat))⁻¹=u;have e1:((2*j:Nat):Int)=2*(j:Int):=by omega
 have e2:((2*(j+1):Nat):Int)=2*(j:Int)+2:=by omega
 have e3:((2*j+1:Nat):Int)=2*(j:Int)+1:=by omega
 rw[e1,e2,e3,ah7,ah7,agt];generalize ((j:Int):Rat)=v;have i2:((1:Int):Rat)*(((2:Int):Rat))⁻¹=1/2:=by decide +kernel
 rw[i2,show((2:Int):Rat)=2 from rfl,show((1:Int):Rat)=1 from rfl];grind
theorem zY{w:Rat}(a:Rat)(h:0≤w)(k j:Nat):ptQ a w k j≤ptQ a w k (j+1):=by
 unfold ptQ;have h2:Rat.divInt (j:Int) ((2^k:Nat):Int)≤Rat.divInt ((j+1:Nat):Int) ((2^k:Nat):Int):=by rw[agK,agK,ahs,ahs];refine ag1 (agw.2 (by omega)) (age (Rat.inv_pos.2 ?_));have:=aj6 (n:=k) (show 0<2 by omega);exact aiz.2 (show (0:Int)<_ by omega)
 have:=ag5 h2 h;grind
theorem PT(k:Nat){j:Nat}(hj:j≤2^k):wl (j:Int)≤k/32+1:=by
 refine mU ?_;have h1:2^k<2^(32*(k/32+1)):=ahR (by omega) (by omega);rw[ajC] at h1;have h2:(2:Nat)^32=4294967296:=by decide
 rw[h2] at h1;generalize 4294967296^(k/32+1)=P at h1 ⊢;omega
theorem sL(a w:Rat){k j:Nat}(hj:j≤2^k):ht (ptQ a w k j)≤ht a+ht w+k/32+4:=by have h3:=uI (j:Int) ((2^k:Nat):Int);have h6:=PT k hj;have h7:=PT k (afY (2^k));have h8:=pA w (Rat.divInt (j:Int) ((2^k:Nat):Int));have h9:=wk a (w*Rat.divInt (j:Int) ((2^k:Nat):Int));unfold ptQ;omega
theorem PU(a w:Rat)(k j:Nat):ptQ a w k (j+1)-ptQ a w k j=w*Rat.divInt 1 ((2^k:Nat):Int):=by
 unfold ptQ;rw[agK,agK,agK,ahs,ahs,ahs];have e:(((j+1:Nat):Int):Rat)=((j:Int):Rat)+1:=by rw[show ((j+1:Nat):Int)=(j:Int)+1 from by omega,ah7];rfl
 have e1:((1:Int):Rat)=1:=rfl;rw[e,e1];generalize ((((2^k:Nat):Int):Rat))⁻¹=u;grind
theorem nK(a w:Rat):ptQ a w 0 0=a∧ptQ a w 0 1=a+w:=by
 have e0:Rat.divInt ((0:Nat):Int) ((2^0:Nat):Int)=0:=by decide +kernel
 have e1:Rat.divInt ((1:Nat):Int) ((2^0:Nat):Int)=1:=by decide +kernel
 unfold ptQ;rw[e0,e1];constructor<;>grind
def eY(G:List (List Rat))(f:List Rat)(a w:Rat):Nat→Nat→Nat→Option (List (Rat×Rat))
 |0,_,_=>none
 |n+1,k,j=>if eZ G (ptQ a w k j)-eZ G (ptQ a w k (j+1))=0 then some [] else
  if eZ G (ptQ a w k j)-eZ G (ptQ a w k (j+1))=1∧evalL f (ptQ a w k j)≠0 then
   (if evalL f (ptQ a w k (j+1))=0 then some [(ptQ a w k (j+1),ptQ a w k (j+1))] else some [(ptQ a w k j,ptQ a w k (j+1))])
  else match eY G f a w n (k+1) (2*j),eY G f a w n (k+1) (2*j+1) with
   |some x,some y=>some (x++y)
   |_,_=>none
theorem CT{G:List (List Rat)}{f:List Rat}{a w:Rat} : ∀(n k j:Nat) (l:List (Rat×Rat)),eY G f a w n k j=some l→(l.length:Int)=eZ G (ptQ a w k j)-eZ G (ptQ a w k (j+1))
 |0,_,_,_,h=>by cases h
 |n+1,k,j,l,h=>by
  rw[eY] at h;by_cases h0:eZ G (ptQ a w k j)-eZ G (ptQ a w k (j+1))=0
  ·rw[ag9 h0] at h;injection h with h;subst h;exact h0.symm
  ·rw[ag7 h0] at h;by_cases h1:eZ G (ptQ a w k j)-eZ G (ptQ a w k (j+1))=1∧evalL f (ptQ a w k j)≠0
   ·rw[ag9 h1] at h;split at h<;>(injection h with h;subst h;exact h1.1.symm)
   ·rw[ag7 h1] at h;cases hx:eY G f a w n (k+1) (2*j) with
    |none=>rw[hx] at h;cases h
    |some x =>
     cases hy:eY G f a w n (k+1) (2*j+1) with
     |none=>rw[hx,hy] at h;cases h
     |some y =>
      rw[hx,hy] at h;injection h with h;subst h
      have i1:=CT n _ _ _ hx;have i2:=CT n _ _ _ hy;rw[hO] at i1;rw[show 2*j+1+1=2*(j+1) from by omega,hO] at i2;rw[agB];omega
theorem XH{a w:Rat}(hw:0≤w){k j:Nat} : a≤ptQ a w k j:=by
 unfold ptQ;have h2:0≤Rat.divInt (j:Int) ((2^k:Nat):Int):=by rw[agK,ahs];refine agP (agw.2 (show (0:Int)≤_ by omega)) (age (Rat.inv_pos.2 ?_));have:=aj6 (n:=k) (show 0<2 by omega);exact aiz.2 (show (0:Int)<_ by omega)
 have:=agP hw h2;grind
theorem Vz(a w:Rat)(k:Nat):ptQ a w k (2^k)=a+w:=by unfold ptQ;rw[agK,ahs,Rat.mul_inv_cancel _ (Gy k)];grind
theorem R6{a w:Rat}(hw:0≤w){k i j:Nat}(h:i≤j):ptQ a w k i≤ptQ a w k j:=by
 induction h with
 |refl=>exact ag2
 |step _ ih=>exact agN ih (zY a hw k _)
theorem y0{f:List Rat}{a w:Rat}{K:Nat}(hw:0≤w)(hz:aQ f=false)(hf:f≠[])(hc:rK f (an f))
  (hs:∀j,j<2^K→eZ (chainF f.length f (an f)) (ptQ a w K j)-eZ (chainF f.length f (an f)) (ptQ a w K (j+1))≤1∧(evalL f (ptQ a w K j)=0→eZ (chainF f.length f (an f)) (ptQ a w K j)-eZ (chainF f.length f (an f)) (ptQ a w K (j+1))≤0)) :
  ∀(n k j:Nat),n+k=K+1→k≤K→j<2^k→∃l,eY (chainF f.length f (an f)) f a w n k j=some l
 |0,k,j,hn,hk,hj=>by omega
 |n+1,k,j,hn,hk,hj=>by
  have ha:=mL hz hf hc (zY a hw k j);rw[eY];by_cases h0:eZ (chainF f.length f (an f)) (ptQ a w k j)-eZ (chainF f.length f (an f)) (ptQ a w k (j+1))=0
  ·exact⟨_,ag9 h0⟩
  ·rw[ag7 h0];by_cases h1:eZ (chainF f.length f (an f)) (ptQ a w k j)-eZ (chainF f.length f (an f)) (ptQ a w k (j+1))=1∧evalL f (ptQ a w k j)≠0
   ·rw[ag9 h1];split
    ·exact⟨_,rfl⟩
    ·exact⟨_,rfl⟩
   ·rw[ag7 h1];by_cases hkK:k=K
    ·subst hkK;obtain⟨s1,s2⟩:=hs j hj;exact absurd ⟨by omega,fun e=>by have:=s2 e;omega⟩ h1
    ·have hp:2^(k+1)=2*2^k:=by rw[agb];omega
     obtain⟨x,hx⟩:=y0 hw hz hf hc hs n (k+1) (2*j) (by omega) (by omega) (by omega);obtain⟨y,hy⟩:=y0 hw hz hf hc hs n (k+1) (2*j+1) (by omega) (by omega) (by omega);rw[hx,hy];exact⟨_,rfl⟩
def IK(m:Rat):Nat→Nat→Nat
 |0,j=>j
 |n+1,j=>if twP j<m then IK m n (j+1) else j
def Gz(t:Rat):List Rat→Nat→Nat
 |[],j=>j
 |c::r,j=>Gz t r (IK (1+ab (c/t)) (441-j) j)
def bndP(p:List Rat):Rat:=twP (Gz (bx p) p 0)
theorem EW{m:Rat}(hm:m≤twP 440):∀n j,n+j=441→j≤440→j≤IK m n j∧IK m n j≤440∧m≤twP (IK m n j)
 |0,j,h,hj=>by omega
 |n+1,j,h,hj=>by
  rw[IK];by_cases bH:twP j<m
  ·rw[ag9 bH];have:j<440:=by
    refine aiu fun hh => ?_
    have:=dM hh;grind
   obtain⟨a,b,c⟩:=EW hm n (j+1) (by omega) (by omega);exact⟨by omega,b,c⟩
  ·rw[ag7 bH];exact⟨afY _,hj,by grind⟩
theorem VA{c t:Rat}(hc:ht c≤1)(Oz:ht t≤1):1+ab (c/t)≤twP 440:=by have h1:=PK (c/t);have h2:=yR c t;have h3:=dM (show 32*ht (c/t)≤64 by omega);have h4:=PH 64;have h5:twP 65=twP 64+twP 64:=j6 64;have h6:twP 65≤twP 440:=dM (by omega);grind
theorem rD{t:Rat} : ∀(p:List Rat) (j:Nat),(∀c∈p,1+ab (c/t)≤twP 440)→j≤440→j≤Gz t p j∧Gz t p j≤440∧∀c∈p,1+ab (c/t)≤twP (Gz t p j)
 |[],j,_,hj=>⟨afY _,hj,fun c h=>by cases h⟩
 |c::r,j,h,hj=>by
  obtain⟨a1,a2,a3⟩:=EW (h c (agM ..)) (441-j) j (by omega) hj;obtain⟨b1,b2,b3⟩:=rD r _ (fun x hx=>h x (agm _ hx)) a2;rw[Gz];refine⟨by omega,b2,fun x hx => ?_⟩;rcases agp.1 hx with rfl|hx
  ·exact agN a3 (dM b1)
  ·exact b3 x hx
theorem VB{j:Nat}(h:j≤66):ht (twP j)≤3:=by
 unfold twP;rw[Ga];refine ajB.2 ⟨mU ?_,by omega⟩;have h1:2^j<2^96:=ahR (by omega) (by omega);have h2:(2:Nat)^96=4294967296^3:=by decide
 rw[h2] at h1;generalize 2^j=x at h1 ⊢;generalize 4294967296^3=y at h1 ⊢;omega
theorem R7{j m:Nat}(h:j<32*m):ht (twP j)≤max m 1:=by
 unfold twP;rw[Ga];have h1:2^j<2^(32*m):=ahR (by omega) h;rw[ajC] at h1;have h2:wl (((2^j:Nat):Int))≤m:=mU (by show((2^j:Nat):Int).natAbs<4294967296^m;rw[agi];exact h1)
 omega
theorem GA{j:Nat}(h:j≤441):ht (twP j)≤14:=R7 (m:=14) (by omega)
def Bd(p:List Rat):Prop:=Fl 14 p∧∀c∈p,1+ab (c/bx p)≤twP 440
theorem R8{p:List Rat}(hp:Fl 1 p):ht (bx p)≤1:=by unfold bx;exact AO hp (by omega) _
theorem Fl.bd{p:List Rat}(hp:Fl 1 p):Bd p:=⟨bV hp (by omega),fun c hc=>VA (hp c hc) (R8 hp)⟩
theorem VC{p:List Rat}(hp:Bd p):ht (bx p)≤14:=by unfold bx;exact AO hp.1 (by omega) _
theorem Kw{p:List Rat}(hp:Bd p):ht (bndP p)≤14:=GA (by have:=(rD p 0 hp.2 (by omega)).2.1;omega)
theorem AU(p:List Rat):0<bndP p:=jL _
theorem R9{p:List Rat}(hz:aQ p=false)(h0:p≠[])(hp:Bd p):Wk p (bndP p):=by
 intro c hc;have h1:=(rD p 0 hp.2 (by omega)).2.2 c hc;have Oz:=cP hz h0;have h2:ab (c/bx p)*ab (bx p)=ab c:=by rw[←jZ,agj Oz]
 have h3:=ag1 h1 (bU (bx p));unfold bndP;grind
theorem PW(p:List Rat)(hp:Bd p):bndP p≤twP 440:=dM (rD p 0 hp.2 (by omega)).2.1
theorem To(q:Rat):(if q<0 then -q else q)=ab q:=by
 rcases bf q with ⟨h1,h2⟩|⟨h1,h2⟩
 ·rw[ag7 (by grind),h2]
 ·rw[ag9 h1,h2]
theorem Sa{p:List Rat}(h0:p≠[]):(p.map aI)[p.length-1]? = some (aI (bx p)):=by
 have:=ag8.2 h0;have e:p[p.length-1]? = some (bx p):=by unfold bx;rw[mH (show p.length-1<p.length by omega)]
 rw[afT,e];rfl
theorem zc{p:List Rat}(hz:aQ p=false)(h0:p≠[])(x:Rat):evalL p x=0↔evalL (aY p) x=0:=by
 obtain⟨f1,f2,f3,⟨u,hu⟩,k,hk,v,hv⟩:=free_spec hz h0;constructor
 ·intro h;have h1:=hv x;rw[h,ahM,Cz] at h1;refine afV fun et => ?_
  have:∀n:Nat,evalL (aY p) x^n≠0:=fun n=>by
   induction n with
   |zero=>rw[aiI];decide
   |succ n ih=>rw[air];intro e;rcases agV.1 e with e|e;exact ih e;exact et e
  exact this k h1
 ·intro h;rw[hu,h,ahM]
def xQ(p:List Rat)(lo hi:Rat):Bool:=bif decide (lo=hi) then decide (evalL (aY p) lo=0) else (decide (sg (evalL (aY p) lo)*sg (evalL (aY p) hi) = -1)&&decide (eZ (aZ p) lo-eZ (aZ p) hi=1))
def DS(p:List Rat)(r:aw):Bool:=r.ok&&xQ p (LR r) (LS r)
theorem uO{x:Rat} : sg x=0↔x=0:=by rcases cL x with ⟨h1,h2⟩|⟨h1,h2⟩|⟨h1,h2⟩<;>constructor<;>intro h<;>first|exact h1|exact h2|(exfalso;rw[h2] at h;exact absurd h (by decide))|(exfalso;grind)
theorem xR{p q:Rat} : iy p q=0↔p=q:=by
 unfold iy;by_cases h1:p<q
 ·rw[ag9 h1];constructor
  ·intro h;exact absurd h (by decide)
  ·intro h;subst h;exact absurd h1 aiL
 ·rw[ag7 h1];by_cases h2:p=q
  ·rw[ag9 h2];exact⟨fun _=>h2,fun _=>rfl⟩
  ·rw[ag7 h2];exact⟨fun h=>absurd h (by decide),fun h=>absurd h h2⟩
theorem GB{a b:Int}{q:Prop}[Decidable q](h:a=b↔q):(a==b)=decide q:=by
 by_cases hq:q
 ·rw[agq hq,h.2 hq];simp
 ·rw[ags hq];have:a≠b:=fun e=>hq (h.1 e)
  simpa using this
theorem wC(x y:Rat):az (sg x*sg y):=by unfold az;rcases mK x with h|h|h<;>rcases mK y with k|k|k<;>rw[h,k]<;>decide
theorem dN.LU{h L:Nat}{p:List Rat}(f:dN h L p):Fl 1073741824 (aY p):=bV (f.AT.fl f.fb.2.2.1) f.fb.2.2.2.1
theorem dN.CU{h L:Nat}{p:List Rat}(f:dN h L p):(aY p).length≤10:=by have:=f.pF;have:=f.len;have:=f.hL;omega
theorem dN.Sb{h L:Nat}{p:List Rat}(f:dN h L p):Fl 1073741824 p:=bV (f.ch.fl f.h1) (by have:=f.fb;omega)
theorem dN.AV{h L:Nat}{p:List Rat}(f:dN h L p):p.length≤10:=by have:=f.len;have:=f.hL;omega
namespace Ha
theorem XI{h L:Nat}{p:List Rat}(f:dN h L p):Cp 175 [pq p] .ay:=by have IJ:=check (p.map aI) (Gs (f.ch.fl f.h1) (by have:=f.fb;omega));have hp:=ag8.2 f.ne;rw[f.x8,ag9 rfl,ag7 (by rw[bM];omega)] at IJ;exact IJ
theorem value(q:List Rat)(x:Rat)(z:aQ q=false)(fl:Fl 1073741824 q)(ln:q.length≤10)(hx:ht x≤1073741824):Cp 185 [pq q,(aI x).pv] (vI (sg (evalL q x))):=by have u7:=Iq.Eval (q.map aI) (aI x) (mF z (by omega)) (kT fl) (bK hx);rw[mE,b9] at u7;have h3:=uJ q x 1073741824 fl hx;have h4:q.length*(2*1073741824+1)≤10*(2*1073741824+1):=afU _ ln;exact tO.e0 _ _ _ none _ u7 (QF.Sign (evalL q x) (by omega))
theorem XJ{h L:Nat}{p:List Rat}(f:dN h L p)(h1:Bd p):Cp 129 [pq p] (.aF [(aI (bndP p)).pv,.ay]):=by
 have IH:=tf.Of 1 (by unfold az;omega);have e1:((1:Int):Rat)=1:=rfl;rw[e1] at IH;have hlen:=f.AV;have R0:=ag8.2 f.ne;have M8:=VC h1;have htn:=cP f.zp f.ne;have loop:∀d t j:Nat,p.length-t=d→t≤p.length→j≤440→iF.ai (p.map aI) t (aI (twP j)) (.aF [(aI (twP (Gz (bx p) (p.drop t) j))).pv,.ay]):=by
  intro d
  induction d with
  |zero =>intro t j hd ht hj;rw[agv (by omega)];exact iF.kA _ t _ (by rw[bM];omega)
  |succ d ih =>
   intro t j hd htt hj;obtain⟨c,hc⟩:∃c,p[t]? = some c:=⟨_,afO (by omega)⟩;have hcm:(p.map aI)[t]? = some (aI c):=by rw[afT,hc];rfl
   have Gd:=h1.1 c (ag4 hc);have Vh:=QF.Div c (bx p) (by omega) (by omega) htn;have hq:=yR c (bx p);have gM:=QF.Abs (c/bx p) (by omega);rw[To] at gM;have hqt:=h1.2 c (ag4 hc);have hht:ht (ab (c/bx p))≤28:=by
    rw[←To];split
    ·rw[Cr];omega
    ·omega
   have Q1:=QF.Add 1 (ab (c/bx p)) (by decide) (by omega);have hh1:=wk 1 (ab (c/bx p));have fg:ht (1:Rat)=1:=by decide
   rw[drop_cons hc,Gz];have inner:∀n j,n+j=441→j≤440→iF.bD (p.map aI) t (aI (twP j)) (aI (c/bx p)) (.aF [(aI (twP (Gz (bx p) (p.drop (t+1)) (IK (1+ab (c/bx p)) n j)))).pv,.ay]):=by
    intro n
    induction n with
    |zero=>intro j h hj;omega
    |succ n ihn =>
     intro j hn hj;have hjt:=GA (j:=j) (by omega);have Co:=QF.xG (twP j) (1+ab (c/bx p)) (by omega) (by omega);rw[IK];by_cases bH:twP j<1+ab (c/bx p)
     ·rw[ag9 bH];have aez:j<440:=by
       refine aiu fun hh => ?_
       have:=dM hh;grind
      have JC:=QF.Add (twP j) (twP j) (by omega) (by omega);rw[←j6] at JC;refine iF.BZ _ t _ _ _ _ _ _ _ IH gM Q1 Co ?_ JC (ihn (j+1) (by omega) (by omega));refine Int.lt_of_not_ge fun hh => ?_
      have:=Gf.1 hh;grind
     ·rw[ag7 bH];exact iF.FM _ t _ _ _ _ _ _ IH gM Q1 Co (Gf.2 (by grind)) (by omega) (ih (t+1) j (by omega) (by omega) hj)
   refine iF.l10 _ t _ _ (p.length-1) _ _ (by rw[bM];omega) hcm (by rw[bM];unfold az;omega) (by rw[bM];omega) (Sa f.ne) Vh (inner (441-j) j (by omega) hj)
 have:=loop _ 0 0 rfl (by omega) (by omega);rw[ah3,xO] at this;exact iF.e0 _ _ (XI f) IH this
theorem M9{h L:Nat}{p:List Rat}(f:dN h L p)(r:aw)(hr:Ku 1073741824 r):Cp 176 [pq p,r.pv] (.aF [vB (DS p r),.ay]):=by
 have hv:=Wl.Valid r ⟨⟨by omega,by omega⟩,⟨by omega,by omega⟩⟩;obtain⟨f1,f2,_⟩:=free_spec f.zp f.ne;cases ho:r.ok with
 |false =>
  rw[ho] at hv;have:DS p r=false:=by unfold DS;rw[ho,ahf]
  rw[this];exact js.e0 _ r _ hv rfl
 |true =>
  rw[ho] at hv;have hm:=PS ho;have h1:=Vx hr (by omega);have h2:=Vy hr (by omega);have hle:=Vw r;have e0:DS p r=xQ p (LR r) (LS r):=by unfold DS;rw[ho,ahc]
  rw[e0];generalize LR r=lo at hm h1 hle ⊢;generalize LS r=hi at hm h2 hle ⊢;subst hm;have hc:=QF.xG lo hi (by omega) (by omega);unfold xQ;by_cases he:lo=hi
  ·rw[agq he,afZ];have DT:=value p lo f.zp f.Sb f.AV h1;have:=js.e1 _ (sY lo hi) _ _ _ hv rfl hc (by rw[he];exact xR.2 rfl) DT;rw[GB (q:=evalL (aY p) lo=0) (by rw[uO];exact zc f.zp f.ne lo)] at this;exact this
  ·rw[ags he,agf];have et:iy lo hi≠0:=fun e=>he (xR.1 e)
   have v1:=value (aY p) lo f1 f.LU f.CU h1;have v2:=value (aY p) hi f1 f.LU f.CU h2;by_cases hs:sg (evalL (aY p) lo)*sg (evalL (aY p) hi) = -1
   ·rw[agq hs,ahc];have:=js.e3 _ (sY lo hi) _ _ _ _ _ _ none hv rfl hc et (As.PR f) v1 v2 (wC _ _) hs (Count f lo hi hle h1 h2);rw[GB (q:=eZ (aZ p) lo-eZ (aZ p) hi=1) Iff.rfl] at this;exact this
   ·rw[ags hs,ahf];exact js.e2 _ (sY lo hi) _ _ _ _ _ hv rfl hc et (As.PR f) v1 v2 (wC _ _) hs
theorem EX{h L:Nat}{p:List Rat}(f:dN h L p)(r:aw)(hr:Ku 1073741824 r):Cp 124 [pq p,r.pv] (.aF [vB (DS p r),.ay]):=sX.e0 _ r _ none (XI f) (M9 f r hr)
end Ha
def mkGs(l:List (Rat×Rat)):List aw:=l.map (fun r=>sY r.1 r.2)
theorem ue(l:List (Rat×Rat)):(mkGs l).length=l.length:=afW ..
theorem IL(l m:List (Rat×Rat)):mkGs (l++m)=mkGs l++mkGs m:=agU ..
def isoK(h L:Nat):Nat:=32*(4*xB (fB h L) (fB h L+1) (L-1))+32*(fB h L+1)+442*L+3+442
def sZ(h L:Nat):Prop:=441*(L+2)+1≤64*fB h L∧isoK h L/32+40≤1073741824
instance (h L:Nat):Decidable (sZ h L):=by unfold sZ;infer_instance
def kY(h L:Nat)(p:List Rat):List (Rat×Rat):=(eY (aZ p) (aY p) (-bndP p) (bndP p+bndP p) (isoK h L+1) 0 0).getD []
theorem GC{p:List Rat}(hp:Bd p):bndP p+bndP p≤twP 441∧ht (bndP p+bndP p)≤14:=by have h:=(rD p 0 hp.2 (by omega)).2.1;unfold bndP;rw[←j6];exact⟨dM (by omega),GA (by omega)⟩
theorem Kx(k:Nat):Rat.divInt 1 ((2^k:Nat):Int)*twP k=1:=by rw[agK];exact agj (Gy k)
theorem XK(k:Nat):0≤Rat.divInt 1 ((2^k:Nat):Int):=by
 have h:=Kx k;have p:=jL k;generalize Rat.divInt 1 ((2^k:Nat):Int)=δ at *;generalize twP k=W at *;refine aji.1 fun bH => ?_
 have:=ahH (show 0 < -δ by grind) p;grind
theorem XL{b T W δ:Rat}(h:b≤W)(hδ:0≤δ)(hT:0<T)(e:δ*(T*W)=1):b*δ*T≤1:=by have:=ag1 h (agP hδ (age hT));grind
theorem uf{h L:Nat}{p:List Rat}(f:dN h L p)(h1:Bd p)(ok:sZ h L):eY (aZ p) (aY p) (-bndP p) (bndP p+bndP p) (isoK h L+1) 0 0=some (kY h L p):=by
 obtain⟨f1,f2,f3,_⟩:=free_spec f.zp f.ne;have hb:=AU p;have hw:0≤bndP p+bndP p:=by grind
 obtain⟨l,hl⟩:=y0 (K:=isoK h L) (a := -bndP p) hw f1 f2 f3 (by
  intro j hj;have w:=PU (-bndP p) (bndP p+bndP p) (isoK h L) j;have k1:=XH (a := -bndP p) hw (k:=isoK h L) (j:=j);have k2:=R6 (a := -bndP p) hw (k:=isoK h L) (show j+1≤2^isoK h L by omega);rw[Vz] at k2;have k3:=zY (-bndP p) hw (isoK h L) j;have u1:ab (ptQ (-bndP p) (bndP p+bndP p) (isoK h L) j)≤bndP p:=Iz (by grind) (by grind);have u2:ab (ptQ (-bndP p) (bndP p+bndP p) (isoK h L) (j+1))≤bndP p:=Iz (by grind) (by grind);refine M5 (r:=440) (m:=isoK h L-442) f.fb.2.2.1 f.CR f2 f3 (age hb) (PW p h1) ok.1 u1 u2 k3 ?_ ?_
  ·have hl:=f.pF;have I9:=f.len;have:(440+2)*(aY p).length≤442*L:=aga _ (by omega);unfold isoK;omega
  ·rw[w];have e1:isoK h L=(isoK h L-442)+442:=by unfold isoK;omega
   have e2:=Kx (isoK h L);have e3:twP (isoK h L)=twP (isoK h L-442)*twP 442:=by rw[←oI,←e1]
   have b2:=agN (GC h1).1 (dM (show 441≤442 by omega));exact XL b2 (XK _) (jL _) (by rw[←e3];exact e2)) (isoK h L+1) 0 0 (by omega) (by omega) (by omega)
 have hl:eY (aZ p) (aY p) (-bndP p) (bndP p+bndP p) (isoK h L+1) 0 0=some l:=hl;unfold kY;rw[hl];rfl
namespace Ha
theorem Wm(lo hi:Rat)(h1:ht lo≤1073741824)(h2:ht hi≤1073741824)(hle:lo≤hi):Cp 127 [(sY lo hi).pv] (aI (Rat.divInt 1 2*(lo+hi))).pv:=by
 have hc:=Wl.clean (sY lo hi) (Gx (ag3 h1 (by omega)) (ag3 h2 (by omega)));rw[Gv hle,Gw hle] at hc;have hh:=vt.e0 _ none (QF.Make 1 2 (by unfold az;omega) (by unfold az;omega) (by omega));have h3:=wk lo hi;have h4:ht (Rat.divInt 1 2)≤1:=by decide
 exact xA.e0 _ (sY lo hi) _ _ _ hc hh (QF.Add lo hi (by omega) (by omega)) (QF.Mul _ _ (by omega) (by omega))
theorem F7{p:List Rat}{x:Rat} : sg (evalL p x)≠0↔evalL p x≠0:=not_congr uO
theorem GD{h L:Nat}{p:List Rat}(f:dN h L p){a w:Rat}{K:Nat}(hw:0≤w)(hh:ht a+ht w+K/32+4≤1073741824):∀(n k j:Nat) (l:List (Rat×Rat)) (out z:List aw),n+k=K+1→j<2^k→eY (aZ p) (aY p) a w n k j=some l→z=out++mkGs l→z.length≤1000000 →
  au bp 131 [(.row 200000 0 out.length 6),(.pv (pq p)),(.pv (Vv (aZ p))),(.pv (aI (ptQ a w k j)).pv),(.pv (aI (ptQ a w k (j+1))).pv)] [(200000,(.pure ((out:List aw).map aw.cells).flatten))] (.row 0 0 z.length 6) [(0,(.pure ((z:List aw).map aw.cells).flatten))] ∧
  (out=[]→au bp 131 [(.pv .dX),(.pv (pq p)),(.pv (Vv (aZ p))),(.pv (aI (ptQ a w k j)).pv),(.pv (aI (ptQ a w k (j+1))).pv)] [] (.row 0 0 z.length 6) [(0,(.pure ((z:List aw).map aw.cells).flatten))])
 |0,k,j,l,out,z,hn,hj,hl,hz,hlen=>by cases hl
 |n+1,k,j,l,out,z,hn,hj,hl,hz,hlen=>by
  have p1:=sL a w (k:=k) (j:=j) (by omega);have p2:=sL a w (k:=k) (j:=j+1) (by omega);have hkK:k/32≤K/32:=Nat.div_le_div_right (by omega);have Xy:=f.uc;have c1:=changes (aZ p) (ptQ a w k j) (uN f) (by omega) (by omega);have c2:=changes (aZ p) (ptQ a w k (j+1)) (uN f) (by omega) (by omega);obtain⟨a1,a2⟩:=oR (aZ p) (ptQ a w k j);obtain⟨b1,b2⟩:=oR (aZ p) (ptQ a w k (j+1));have hI:az (eZ (aZ p) (ptQ a w k j)-eZ (aZ p) (ptQ a w k (j+1))):=by unfold az;omega
  have v1:=value p (ptQ a w k j) f.zp f.Sb f.AV (by omega);have v2:=value p (ptQ a w k (j+1)) f.zp f.Sb f.AV (by omega);have r1:=zc f.zp f.ne (ptQ a w k j);have r2:=zc f.zp f.ne (ptQ a w k (j+1));have hle:=zY a hw k j;have PX:=Wm (ptQ a w k j) (ptQ a w k (j+1)) (by omega) (by omega) hle;rw[Kv] at PX;have V8:=Wl.Tn (ptQ a w k (j+1)) (by omega);have z1:=QF.DP (ptQ a w k j) (by omega);have z2:=QF.DP (ptQ a w k (j+1)) (by omega);have hj1:2*j<2^(k+1):=by rw[agb];omega
  have HC:2*j+1<2^(k+1):=by rw[agb];omega
  rw[eY] at hl;by_cases h0:eZ (aZ p) (ptQ a w k j)-eZ (aZ p) (ptQ a w k (j+1))=0
  ·rw[ag9 h0] at hl;injection hl with hl;subst hl
   have:z=out:=by rw[hz];exact aif _
   subst this;refine⟨jB.e0 z _ _ _ _ _ _ c1 c2 hI h0,fun e => ?_⟩;subst e;exact jA.e0 _ _ _ _ _ _ c1 c2 hI h0
  ·rw[ag7 h0] at hl;have XM:∀l1 l2:List (Rat×Rat),eY (aZ p) (aY p) a w n (k+1) (2*j)=some l1→eY (aZ p) (aY p) a w n (k+1) (2*j+1)=some l2→z=(out++mkGs l1)++mkGs l2 →
     au bp 131 [(.row 200000 0 out.length 6),(.pv (pq p)),(.pv (Vv (aZ p))),(.pv (aI (ptQ a w k j)).pv),(.pv (aI (ptQ a w (k+1) (2*j+1))).pv)] [(200000,(.pure ((out:List aw).map aw.cells).flatten))] (.row 0 0 (out++mkGs l1).length 6) [(0,(.pure (((out++mkGs l1):List aw).map aw.cells).flatten))] ∧
     au bp 131 [(.row 200000 0 (out++mkGs l1).length 6),(.pv (pq p)),(.pv (Vv (aZ p))),(.pv (aI (ptQ a w (k+1) (2*j+1))).pv),(.pv (aI (ptQ a w k (j+1))).pv)] [(200000,(.pure (((out++mkGs l1):List aw).map aw.cells).flatten))] (.row 0 0 z.length 6) [(0,(.pure ((z:List aw).map aw.cells).flatten))]:=by
    intro l1 l2 e1 e2 ez;have H7:(out++mkGs l1).length≤1000000:=by rw[ez,agB] at hlen;omega
    have i1:=(GD f hw hh n (k+1) (2*j) l1 out (out++mkGs l1) (by omega) hj1 e1 rfl H7).1;have i2:=(GD f hw hh n (k+1) (2*j+1) l2 (out++mkGs l1) z (by omega) HC e2 ez hlen).1;rw[hO] at i1;rw[show 2*j+1+1=2*(j+1) from by omega,hO] at i2;exact⟨i1,i2⟩
   have split:∀l',(match eY (aZ p) (aY p) a w n (k+1) (2*j),eY (aZ p) (aY p) a w n (k+1) (2*j+1) with
     |some x,some y=>some (x++y)
     |_,_=>none)=some l'→∃l1 l2,eY (aZ p) (aY p) a w n (k+1) (2*j)=some l1∧eY (aZ p) (aY p) a w n (k+1) (2*j+1)=some l2∧l'=l1++l2:=by
    intro l' h;cases hx:eY (aZ p) (aY p) a w n (k+1) (2*j) with
    |none=>rw[hx] at h;cases h
    |some x =>
     cases hy:eY (aZ p) (aY p) a w n (k+1) (2*j+1) with
     |none=>rw[hx,hy] at h;cases h
     |some y=>rw[hx,hy] at h;injection h with h;exact⟨x,y,rfl,rfl,h.symm⟩
   by_cases h1:eZ (aZ p) (ptQ a w k j)-eZ (aZ p) (ptQ a w k (j+1))=1
   ·by_cases h2:evalL (aY p) (ptQ a w k j)=0
    ·rw[ag7 (fun e=>e.2 h2)] at hl;obtain⟨l1,l2,e1,e2,e3⟩:=split _ hl;have ez:z=(out++mkGs l1)++mkGs l2:=by rw[hz,e3,IL,ahK]
     obtain⟨i1,i2⟩:=XM l1 l2 e1 e2 ez;refine⟨jB.e3 out _ _ _ _ _ _ _ _ (out++mkGs l1) z c1 c2 hI h0 h1 v1 (uO.2 (r1.2 h2)) PX i1 i2,fun e => ?_⟩;subst e;exact jA.e3 _ _ _ _ _ _ _ _ ([]++mkGs l1) z c1 c2 hI h0 h1 v1 (uO.2 (r1.2 h2)) PX i1 i2
    ·rw[ag9 ⟨h1,h2⟩] at hl;have n1:sg (evalL p (ptQ a w k j))≠0:=F7.2 (fun e=>h2 (r1.1 e));by_cases h3:evalL (aY p) (ptQ a w k (j+1))=0
     ·rw[ag9 h3] at hl;injection hl with hl;subst hl
      have ez:z=out++[sY (ptQ a w k (j+1)) (ptQ a w k (j+1))]:=hz;subst ez;refine⟨jB.e1 out _ _ _ _ _ _ _ _ _ c1 c2 hI h0 h1 v1 n1 v2 (uO.2 (r2.2 h3)) V8 (by omega),fun e => ?_⟩;subst e;exact jA.e1 _ _ _ _ _ _ _ _ _ c1 c2 hI h0 h1 v1 n1 v2 (uO.2 (r2.2 h3)) V8 (by omega)
     ·rw[ag7 h3] at hl;injection hl with hl;subst hl
      have n2:sg (evalL p (ptQ a w k (j+1)))≠0:=F7.2 (fun e=>h3 (r2.1 e));have ez:z=out++[sY (ptQ a w k j) (ptQ a w k (j+1))]:=hz;subst ez;refine⟨jB.e2 out _ _ _ _ _ _ _ _ _ _ c1 c2 hI h0 h1 v1 n1 v2 n2 z1 z2 (by rw[show (⟨aI (ptQ a w k j),aI (ptQ a w k (j+1))⟩:aw)=sY (ptQ a w k j) (ptQ a w k (j+1)) from rfl];omega),fun e => ?_⟩;subst e;exact jA.e2 _ _ _ _ _ _ _ _ _ _ c1 c2 hI h0 h1 v1 n1 v2 n2 z1 z2 (by rw[show (⟨aI (ptQ a w k j),aI (ptQ a w k (j+1))⟩:aw)=sY (ptQ a w k j) (ptQ a w k (j+1)) from rfl];omega)
   ·rw[ag7 (fun e=>h1 e.1)] at hl;obtain⟨l1,l2,e1,e2,e3⟩:=split _ hl;have ez:z=(out++mkGs l1)++mkGs l2:=by rw[hz,e3,IL,ahK]
    obtain⟨i1,i2⟩:=XM l1 l2 e1 e2 ez;refine⟨jB.e4 out _ _ _ _ _ _ _ (out++mkGs l1) z c1 c2 hI h0 h1 PX i1 i2,fun e => ?_⟩;subst e;exact jA.e4 _ _ _ _ _ _ _ ([]++mkGs l1) z c1 c2 hI h0 h1 PX i1 i2
theorem VD{h L:Nat}{p:List Rat}(h1:Bd p)(ok:sZ h L):ht (-bndP p)+ht (bndP p+bndP p)+isoK h L/32+4≤1073741824:=by have a:=Kw h1;have b:=(GC h1).2;have c:=ok.2;rw[Cr];omega
theorem Sc{h L:Nat}{p:List Rat}(f:dN h L p)(h1:Bd p)(ok:sZ h L):((kY h L p).length:Int)=eZ (aZ p) (-bndP p)-eZ (aZ p) (bndP p):=by have:=CT _ _ _ _ (uf f h1 ok);rwa[(nK _ _).1,(nK _ _).2,show -bndP p+(bndP p+bndP p)=bndP p from by grind] at this
theorem xS{h L:Nat}{p:List Rat}(f:dN h L p)(h1:Bd p)(ok:sZ h L):(kY h L p).length≤1000:=by have e:=Sc f h1 ok;have Xy:=f.uc;obtain⟨a1,a2⟩:=oR (aZ p) (-bndP p);obtain⟨b1,b2⟩:=oR (aZ p) (bndP p);omega
theorem LV{h L:Nat}{p:List Rat}(f:dN h L p)(h1:Bd p)(ok:sZ h L):Cp 68 [pq p] (.aF [dp aw.cells (mkGs (kY h L p)),.ay]):=by have hb:=AU p;have hn:=Kw h1;have hs:=(GD f (show 0≤bndP p+bndP p by grind) (VD h1 ok) (isoK h L+1) 0 0 (kY h L p) [] (mkGs (kY h L p)) (by omega) (by omega) (uf f h1 ok) rfl (by rw[ue];have:=xS f h1 ok;omega)).2 rfl;rw[(nK _ _).1,(nK _ _).2,show -bndP p+(bndP p+bndP p)=bndP p from by grind] at hs;exact vu.e0 _ _ _ _ _ (XJ f h1) (chain f) (QF.Neg _ (by omega)) hs
end Ha
def At(n:Nat):Rat:=Rat.divInt 1 ((2^n:Nat):Int)
theorem PY:At 0=1:=by decide +kernel
theorem CV(n:Nat):At n*twP n=1:=Kx n
theorem GF(n:Nat):0<At n:=by
 refine Rat.not_le.1 fun hle => ?_
 have h1:=CV n;have h2:=agP (show 0 ≤ -At n by grind) (age (jL n));grind
theorem VE{m n:Nat}(h:m≤n):At n≤At m:=by
 have h1:=CV m;have h2:=CV n;have h3:=dM h;have p1:=GF m;have p2:=GF n;have h4:=ag5 h3 (age (ahH p1 p2));have e1:At m*At n*twP m=At n:=by
  have:At m*At n*twP m=(At m*twP m)*At n:=by grind
  rw[this,h1];grind
 have e2:At m*At n*twP n=At m:=by
  have:At m*At n*twP n=(At n*twP n)*At m:=by grind
  rw[this,h2];grind
 rwa[e1,e2] at h4
theorem GG{G:List (List Rat)}{f:List Rat}{a w:Rat}{K:Nat} : ∀(n k j:Nat) (l:List (Rat×Rat)),n+k=K+1→j<2^k→eY G f a w n k j=some l→∀r∈l,ht r.1≤ht a+ht w+K/32+4∧ht r.2≤ht a+ht w+K/32+4
 |0,_,_,_,_,_,h=>by cases h
 |n+1,k,j,l,hn,hj,h=>by
  have p1:=sL a w (k:=k) (j:=j) (by omega);have p2:=sL a w (k:=k) (j:=j+1) (by omega);have hkK:k/32≤K/32:=Nat.div_le_div_right (by omega);rw[eY] at h;split at h
  ·injection h with h;subst h;intro r hr;cases hr
  ·split at h
   ·split at h
    ·injection h with h;subst h;intro r hr;rw[ah4] at hr;subst hr;exact⟨by simp only;omega,by simp only;omega⟩
    ·injection h with h;subst h;intro r hr;rw[ah4] at hr;subst hr;exact⟨by simp only;omega,by simp only;omega⟩
   ·cases hx:eY G f a w n (k+1) (2*j) with
    |none=>rw[hx] at h;cases h
    |some x =>
     cases hy:eY G f a w n (k+1) (2*j+1) with
     |none=>rw[hx,hy] at h;cases h
     |some y =>
      rw[hx,hy] at h;injection h with h;subst h
      have hp:2^(k+1)=2*2^k:=by rw[agb];omega
      intro r hr;rcases ah6.1 hr with hr|hr
      ·exact GG n (k+1) (2*j) x (by omega) (by omega) hx r hr
      ·exact GG n (k+1) (2*j+1) y (by omega) (by omega) hy r hr
theorem VF{p:List Rat}(hz:aQ p=false)(h0:p≠[]){u v:Rat}(h1:eZ (aZ p) u-eZ (aZ p) v=1)(hu:evalL (aY p) u≠0)(hv:evalL (aY p) v≠0):xQ p u v=true∧sg (evalL (aY p) u) = - sg (evalL (aY p) v):=by
 obtain⟨f1,f2,f3,_⟩:=free_spec hz h0;have et:u≠v:=fun e=>by rw[e,Int.sub_self] at h1;exact absurd h1 (by decide)
 have hp:=LL f1 f2 f3 hu hv;have hc:eZ (chainF (aY p).length (aY p) (an (aY p))) u-eZ (chainF (aY p).length (aY p) (an (aY p))) v=1:=h1;rw[hc] at hp;have hs:sg (evalL (aY p) u) = - sg (evalL (aY p) v):=by
  rcases hp with ⟨_,q⟩|⟨q,_⟩
  ·exact absurd q (by decide)
  ·exact q
 have hm:sg (evalL (aY p) u)*sg (evalL (aY p) v) = -1:=by rw[hs];rcases CI hv with k|k<;>rw[k]<;>decide
 refine⟨?_,hs⟩;unfold xQ;rw[ags et,agf,agq hm,agq h1];rfl
theorem Na{p:List Rat}{u:Rat}(h:evalL (aY p) u=0):xQ p u u=true:=by unfold xQ;rw[agq rfl,afZ,agq h]
theorem CW{p:List Rat}(hz:aQ p=false)(h0:p≠[]){a w:Rat} : ∀(n k j:Nat) (l:List (Rat×Rat)),eY (aZ p) (aY p) a w n k j=some l→∀r∈l,xQ p r.1 r.2=true
 |0,_,_,_,h=>by cases h
 |n+1,k,j,l,h=>by
  rw[eY] at h;split at h
  ·injection h with h;subst h;intro r hr;cases hr
  ·split at h
   ·rename_i hh;split at h
    ·rename_i hv;injection h with h;subst h;intro r hr;rw[ah4] at hr;subst hr;exact Na hv
    ·rename_i hv;injection h with h;subst h;intro r hr;rw[ah4] at hr;subst hr;exact(VF hz h0 hh.1 hh.2 hv).1
   ·cases hx:eY (aZ p) (aY p) a w n (k+1) (2*j) with
    |none=>rw[hx] at h;cases h
    |some x =>
     cases hy:eY (aZ p) (aY p) a w n (k+1) (2*j+1) with
     |none=>rw[hx,hy] at h;cases h
     |some y =>
      rw[hx,hy] at h;injection h with h;subst h
      intro r hr;rcases ah6.1 hr with hr|hr
      ·exact CW hz h0 n _ _ x hx r hr
      ·exact CW hz h0 n _ _ y hy r hr
theorem GH{G:List (List Rat)}{f:List Rat}{a w:Rat}(hw:0≤w):∀(n k j:Nat) (l:List (Rat×Rat)),eY G f a w n k j=some l→(∀r∈l,ptQ a w k j≤r.1∧r.1≤r.2∧r.2≤ptQ a w k (j+1))∧l.Pairwise (fun r s=>r.2≤s.1)
 |0,_,_,_,h=>by cases h
 |n+1,k,j,l,h=>by
  have hl:=zY a hw k j;rw[eY] at h;split at h
  ·injection h with h;subst h;exact⟨fun r hr=>(by cases hr),List.Pairwise.nil⟩
  ·split at h
   ·split at h
    ·injection h with h;subst h
     exact⟨fun r hr=>by rw[ah4] at hr;subst hr;exact⟨hl,ag2,ag2⟩,List.pairwise_singleton ..⟩
    ·injection h with h;subst h
     exact⟨fun r hr=>by rw[ah4] at hr;subst hr;exact⟨ag2,hl,ag2⟩,List.pairwise_singleton ..⟩
   ·cases hx:eY G f a w n (k+1) (2*j) with
    |none=>rw[hx] at h;cases h
    |some x =>
     cases hy:eY G f a w n (k+1) (2*j+1) with
     |none=>rw[hx,hy] at h;cases h
     |some y =>
      rw[hx,hy] at h;injection h with h;subst h
      obtain⟨a1,a2⟩:=GH hw n _ _ x hx;obtain⟨b1,b2⟩:=GH hw n _ _ y hy;rw[hO] at a1;rw[show 2*j+1+1=2*(j+1) from by omega,hO] at b1;have m1:=zY a hw (k+1) (2*j);rw[hO] at m1;have m2:=zY a hw (k+1) (2*j+1);rw[show 2*j+1+1=2*(j+1) from by omega,hO] at m2;refine⟨fun r hr => ?_,List.pairwise_append.2 ⟨a2,b2,fun r hr s hs=>agN (a1 r hr).2.2 (b1 s hs).1⟩⟩;rcases ah6.1 hr with hr|hr
      ·obtain⟨q1,q2,q3⟩:=a1 r hr;exact⟨q1,q2,agN q3 m2⟩
      ·obtain⟨q1,q2,q3⟩:=b1 r hr;exact⟨agN m1 q1,q2,q3⟩
namespace PQ
theorem Cu{k:Nat}(p:List Rat)(zp:aQ p=false)(lp:p.length≤65)(hp:Fl k p)(hk:k≤68719476736):Cp 122 [pq p] (.aF [pq (an p),.ay]):=by have:=Iq.Cu (p.map aI) (mF zp lp) (kT (bV hp (by omega)));rwa[mE] at this
theorem Eval{k:Nat}(p:List Rat)(x:Rat)(zp:aQ p=false)(lp:p.length≤65)(hp:Fl k p)(hx:ht x≤k)(hk:k≤1073741824):Cp 139 [pq p,(aI x).pv] (.aF [(aI (evalL p x)).pv,.ay]):=by have:=Iq.Eval (p.map aI) (aI x) (mF zp lp) (kT (bV hp (by omega))) (bK (ag3 hx hk));rwa[mE,b9] at this
theorem PZ{a b N:Nat}(ha:1≤a)(gM:a≤b)(hN:N≤1000)(hk:4*xB a b (N+2)+10≤68719476736):∀(n i j:Nat) (p q:List Rat),q.length<n→DR a b N i j p q→p.length≤10000→jr.ai (p.map aI) (q.map aI) (pq (dG (lW n p q))):=by
 have hx:xB a b (N+2)=xB a b N+2*(xB a b (N+1)+1):=rfl;have x1:∀j,1≤xB a b j:=fun j=>ag3 ha (eX a b gM (i:=0) (ago _))
 intro n
 induction n with
 |zero=>intro i j p q hn;omega
 |succ n ih =>
  intro i j p q hn e hl;have hi:=e.idx;have AB:=e.lt;rw[lW];by_cases h:q.length=0
  ·rw[beq_iff.2 h,afZ];have:=eX a b gM (i:=i) (j:=N+1) (by omega);exact jr.c9 _ _ _ (by rw[bM];omega) (As.lS p e.zp e.hp (x1 i) hl (by omega))
  ·have et:q≠[]:=fun e=>h (by rw[e];rfl)
   rw[jc.2 h,agf];obtain⟨r1,r2⟩:=e.rest gM et;have hz:=gT p q;have hlen:=e.len;have Vq:=e.bound;have b1:=eX a b gM (i:=j+(p.length-q.length)) (j:=N+1) (by omega);have hd:=As.qU p q e.zq et e.hp e.hq (x1 i) (x1 j) hl (by omega) (by obtain⟨j',rfl⟩:∃j',j=j'+1:=⟨j-1,by omega⟩;obtain⟨d,hd⟩:∃d,p.length-q.length=d+1:=⟨p.length-q.length-1,by omega⟩;have h2:=eX a b gM (i:=i) (j:=j') (by omega);have h3:=yY a b gM j' d;have h4:=eX a b gM (i:=j'+1+(d+1)) (j:=N+1) (by omega);have h5:=eX a b gM (i:=j'+1) (j:=N) (by omega);rw[show p.length+1-q.length=d+2 from by omega];omega)
   have hm:=As.lS (cb p q) hz r1 (x1 _) (by omega) (by omega);exact jr.l10 _ _ _ _ _ (by rw[bM];omega) hd hm (ih _ _ q _ (by rw[eH hz];omega) (e.next gM et (r1.lS (x1 _) hz) (by rw[eH hz];exact r2) (ec _)) (by omega))
theorem Sd{h b c L:Nat}(h1:1≤h)(td:1≤b)(XN:b≤c)(hL:L≤65)(hc:h+(L+1)*(b+1)≤c)(hk:4*xB b c (L+2)+10≤68719476736)(p q:List Rat)(zp:aQ p=false)(zq:aQ q=false)(lp:p.length≤L)(lq:q.length≤L)(hp:Ch h p)(hq:Ch b q) :
  jr.ai (p.map aI) (q.map aI) (pq (dG (lW (q.length+1) p q))):=by
 have e2:xB b c (L+2)=xB b c L+2*(xB b c (L+1)+1):=rfl;have e1:=eX b c XN (i:=1) (j:=L+1) (by omega);have e0:xB b c 1=c:=rfl;have hm:(p.length+1-q.length)*(b+1)≤(L+1)*(b+1):=afU _ (by omega);rw[lW];by_cases h0:q.length=0
 ·rw[beq_iff.2 h0,afZ];exact jr.c9 _ _ _ (by rw[bM];omega) (As.lS p zp hp h1 (by omega) (by omega))
 ·have et:q≠[]:=fun e=>h0 (by rw[e];rfl)
  rw[jc.2 h0,agf];have hr:=hp.rest hq zq et;have Vi:(cb p q).length<q.length:=(kp p zq et).1;have hz:=gT p q;have wQ:Ch c (cb p q):=hr.mono (by omega);have hd:=As.qU p q zq et hp hq h1 td (by omega) (by omega) (by omega);have hm:=As.lS (cb p q) hz wQ (by omega) (by omega) (by omega);have hE:DR b c L 0 1 q (dG (cb p q)):=⟨hq,wQ.lS (by omega) hz,by omega,by rw[eH hz];exact Vi,by omega,zq,ec _⟩;exact jr.l10 _ _ _ _ _ (by rw[bM];omega) hd hm (PZ td XN (by omega) hk q.length 0 1 q _ (by rw[eH hz];exact Vi) hE (by omega))
theorem Gcd{h b c L:Nat}(h1:1≤h)(td:1≤b)(XN:b≤c)(hL:L≤65)(hc:h+(L+1)*(b+1)≤c)(hk:4*xB b c (L+2)+10≤68719476736)(p q:List Rat)(zp:aQ p=false)(zq:aQ q=false)(lp:p.length≤L)(lq:q.length≤L)(hp:Ch h p)(hq:Ch b q):Cp 123 [pq p,pq q] (.aF [pq (cu p q),.ay]):=by have e2:xB b c (L+2)=xB b c L+2*(xB b c (L+1)+1):=rfl;have e1:=eX b c XN (i:=1) (j:=L+1) (by omega);have e0:xB b c 1=c:=rfl;have IJ:=As.LP (p.map aI) (q.map aI) (Gs (hp.fl h1) (by omega)) (Gs (hq.fl td) (by omega));rw[EU (mF zp (by omega)) (mF zq (by omega))] at IJ;exact H2.e0 _ _ _ IJ (jr.e0 _ _ (Sd h1 td XN hL hc hk p q zp zq lp lq hp hq))
end PQ
def fv(f:List Rat)(lo hi:Rat):bk:=⟨f.map aI,sY lo hi⟩
structure P0 (f:List Rat) (lo hi:Rat):Prop where
 zf:aQ f=false
 fl:Fl 1073741824 f
 ln:f.length≤10
 h1:ht lo≤1073741824
 h2:ht hi≤1073741824
theorem pG{p q:Rat}(h:p≠q):iy p q≠0:=fun e=>h (hJ.1 e)
theorem CX{a b N:Nat}(ha:1≤a)(gM:a≤b):∀(n i j:Nat) (p q:List Rat),DR a b N i j p q→Ch (xB a b (N-(lW n p q).length)) (lW n p q)
 |0,i,j,p,q,e=>e.hp.mono (eX a b gM (by show i≤N-p.length;have:=e.bound;have:=e.lt;omega))
 |n+1,i,j,p,q,e=>by
  rw[lW];by_cases h:q.length=0
  ·rw[beq_iff.2 h,afZ];exact e.hp.mono (eX a b gM (by have:=e.bound;have:=e.lt;omega))
  ·have et:q≠[]:=fun e=>h (by rw[e];rfl)
   rw[jc.2 h,agf];obtain⟨h1,h2⟩:=e.rest gM et;have hz:=gT p q;exact CX ha gM n _ _ q _ (e.next gM et (h1.lS (ag3 ha (eX a b gM (i:=0) (ago _))) hz) (by rw[eH hz];exact h2) (ec _))
structure GOk (a L:Nat):Prop where
 a1:1≤a
 a2:a≤1073741824
 l6:L≤6
 sb:∀l,l<7→l≤L→sB (xB a (a+(L+1)*(a+1)) (L-l)) l≤1073741824
 gk:4*xB a (a+(L+1)*(a+1)) (L+2)+10≤68719476736
structure Ky (a L:Nat) (p:List Rat):Prop where
 o:GOk a L
 z:aQ p=false
 l:p.length≤L
 c:Ch a p
theorem P1{a L:Nat}{p q:List Rat}(P:Ky a L p)(Q:Ky a L q)(q0:q≠[]):dN (xB a (a+(L+1)*(a+1)) (L-(cu p q).length)) (cu p q).length (cu p q):=by
 obtain⟨⟨a1,a2,l6,sb,gk⟩,zp,lp,hp⟩:=P;obtain⟨_,zq,lq,hq⟩:=Q;have hc:a≤a+(L+1)*(a+1):=by omega
 have Ea:=ag8.2 q0;have zg:=eM p q;have zF:=kr (q.length+1) p q zp zq;have g0:cu p q≠[]:=uK zF (AQ _ _ _ (Or.inr ⟨q0,by omega⟩));have hl:(cu p q).length≤L:=by have:=((nI p q zp zq).2.len zg zq q0).2;omega
 have XO:(cu p q).length=(lW (q.length+1) p q).length:=eH zF;have hr:Ch (a+(L+1)*(a+1)) (cb p q):=(hp.rest hq zq q0).mono (by have:(p.length+1-q.length)*(a+1)≤(L+1)*(a+1):=afU _ (by omega);omega)
 have Vi:(cb p q).length<q.length:=(kp p zq q0).1;have hE:DR a (a+(L+1)*(a+1)) L 0 1 q (dG (cb p q)):=⟨hq,hr.lS (by omega) (gT p q),by omega,by rw[eH (gT p q)];exact Vi,by omega,zq,ec _⟩;have e1:lW (q.length+1) p q=lW q.length q (dG (cb p q)):=by rw[lW,jc.2 (by omega),agf]
 have hc:=CX (N:=L) a1 hc q.length 0 1 q (dG (cb p q)) hE;rw[←e1,←XO] at hc;have h1:1≤xB a (a+(L+1)*(a+1)) (L-(cu p q).length):=yZ a1 (by omega) _;exact⟨zg,g0,afY _,hc.lS h1 zF,h1,by omega,sb _ (by omega) hl⟩
theorem Ky.ok{a L:Nat}{f:List Rat}(h:Ky a L f){lo hi:Rat}(h1:ht lo≤1073741824)(h2:ht hi≤1073741824):P0 f lo hi:=⟨h.z,bV (h.c.fl h.o.a1) h.o.a2,by have:=h.l;have:=h.o.l6;omega,h1,h2⟩
namespace wM
theorem compare{f:List Rat}{lo hi:Rat}(O:P0 f lo hi)(hle:lo≤hi){x:Rat}(hx:ht x≤1073741824):Cp 72 [(fv f lo hi).pv,(aI x).pv] (.aF [vI (ep f lo hi x),.ay]):=by
 have h1:=O.h1;have h2:=O.h2;have c1:=QF.xG lo hi (by omega) (by omega);have c2:=QF.xG lo x (by omega) (by omega);have c3:=QF.xG x lo (by omega) (by omega);have c4:=QF.xG x hi (by omega) (by omega);unfold ep;by_cases he:lo=hi
 ·rw[ag9 he];exact gI.e0 (fv f lo hi) (aI x) _ _ c1 (hJ.2 he) c2
 ·rw[ag7 he];by_cases k1:x≤lo
  ·rw[ag9 k1];exact gI.e1 (fv f lo hi) (aI x) _ _ c1 (pG he) c3 (by rcases jg x lo with k|k|k<;>first|omega|(exfalso;grind))
  ·rw[ag7 k1];have k1':0<iy x lo:=by rw[pD (by grind)];omega
   by_cases k2:hi≤x
   ·rw[ag9 k2];exact gI.e2 (fv f lo hi) (aI x) _ _ _ c1 (pG he) c3 k1' c4 (by rcases jg x hi with k|k|k<;>first|omega|(exfalso;grind))
   ·rw[ag7 k2];have hl:=O.ln;have e1:=PQ.Eval f x O.zf (by omega) O.fl hx (by omega);have e2:=PQ.Eval f lo O.zf (by omega) O.fl O.h1 (by omega);have w1:=uJ f x _ O.fl hx;have w2:=uJ f lo _ O.fl O.h1;have hm:f.length*(2*1073741824+1)≤10*(2*1073741824+1):=afU _ hl;exact gI.e3 (fv f lo hi) (aI x) _ _ _ _ _ _ _ c1 (pG he) c3 k1' c4 (by rw[ub (by grind)];omega) e1 e2 (QF.Sign _ (by omega)) (QF.Sign _ (by omega)) (wC _ _)
theorem Ig{f:List Rat}{lo hi:Rat}(O:P0 f lo hi)(hle:lo≤hi)(h3:ht (midQ lo hi)≤1073741824):Cp 178 [(fv f lo hi).pv] (.aF [(fv f (gO f lo hi).1 (gO f lo hi).2).pv,.ay]):=by
 have h1:=O.h1;have h2:=O.h2;have c1:=QF.xG lo hi (by omega) (by omega);unfold gO;by_cases he:lo=hi
 ·rw[ag9 he];exact gB.e0 (fv f lo hi) _ c1 (hJ.2 he)
 ·rw[ag7 he];have cm:=Ha.Wm lo hi h1 h2 hle;have cc:=compare O hle h3;change Cp 127 [(sY lo hi).pv] (aI (midQ lo hi)).pv at cm;by_cases k0:ep f lo hi (midQ lo hi)=0
  ·rw[ag9 k0];exact gB.e1 (fv f lo hi) _ _ _ (sY (midQ lo hi) (midQ lo hi)) c1 (pG he) cm cc k0 (Wl.Tn _ (by omega))
  ·rw[ag7 k0];by_cases k1:ep f lo hi (midQ lo hi)=1
   ·rw[ag9 k1];exact gB.e2 (fv f lo hi) _ _ _ c1 (pG he) cm cc k0 k1
   ·rw[ag7 k1];exact gB.e3 (fv f lo hi) _ _ _ c1 (pG he) cm cc k0 k1
theorem P2{a L:Nat}{p f:List Rat}{lo hi:Rat}(P:Ky a L p)(F:Ky a L f)(f0:f≠[])(hle:lo≤hi)(h1:ht lo≤1073741824)(h2:ht hi≤1073741824):Cp 177 [pq p,(fv f lo hi).pv] (.aF [vB (M7 p f lo hi),.ay]):=by
 unfold M7;by_cases h0:p.length=0
 ·rw[ag9 h0];exact fj.e0 _ (fv f lo hi) (by rw[bM];exact h0)
 ·rw[ag7 h0];have fi:=P1 P F f0;have l6:=P.o.l6;have a1:=P.o.a1;have lg:(cu p f).length≤6:=by have:=((nI p f P.z F.z).2.len fi.zp F.z f0).2;have:=F.l;omega
  have hg:=PQ.Gcd (h:=a) (b:=a) (c:=a+(L+1)*(a+1)) (L:=L) a1 a1 (by omega) (by omega) (afY _) P.o.gk p f P.z F.z P.l F.l P.c F.c;have c1:=QF.xG lo hi (by omega) (by omega);by_cases hl:(cu p f).length<2
  ·rw[ag9 hl];exact fj.e1 _ (fv f lo hi) _ (by rw[bM];exact h0) hg (by rw[bM];exact hl)
  ·rw[ag7 hl];by_cases he:lo=hi
   ·rw[ag9 he];have fl:=fi.Sb;have e1:=PQ.Eval (cu p f) lo fi.zp (by omega) fl h1 (by omega);have w1:=uJ (cu p f) lo _ fl h1;have hm:(cu p f).length*(2*1073741824+1)≤6*(2*1073741824+1):=afU _ lg;have:=fj.e2 _ (fv f lo hi) _ _ _ none _ (by rw[bM];exact h0) hg (by rw[bM];omega) c1 (hJ.2 he) e1 (QF.Sign _ (by omega));rw[GB (q:=evalL (cu p f) lo=0) hJ] at this;exact this
   ·rw[ag7 he];have cn:=Ha.Count fi lo hi hle h1 h2;exact fj.e3 _ (fv f lo hi) _ _ _ none (by rw[bM];exact h0) hg (by rw[bM];omega) c1 (pG he) cn
def VG(f:List Rat)(lo hi:Rat)(g:List Rat)(lo' hi':Rat):Bool:=M7 g f lo hi&&(decide (0≤ep f lo hi lo')&&decide (ep f lo hi hi'≤0))
theorem equal{a L:Nat}{f g:List Rat}{lo hi lo' hi':Rat}(F:Ky a L f)(G:Ky a L g)(f0:f≠[])(hle:lo≤hi)(h1:ht lo≤1073741824)(h2:ht hi≤1073741824)(h3:ht lo'≤1073741824)(h4:ht hi'≤1073741824):Cp 125 [(fv f lo hi).pv,(fv g lo' hi').pv] (.aF [vB (VG f lo hi g lo' hi'),.ay]):=by
 have hv:=P2 G F f0 hle h1 h2;have k1:=compare (F.ok h1 h2) hle h3;have k2:=compare (F.ok h1 h2) hle h4;unfold VG;cases hb:M7 g f lo hi with
 |false =>rw[hb] at hv;exact jt.e0 (fv f lo hi) (fv g lo' hi') _ hv rfl
 |true =>
  rw[hb] at hv;rw[ahc];by_cases h0:0≤ep f lo hi lo'
  ·rw[agq h0,ahc];exact jt.e1 (fv f lo hi) (fv g lo' hi') _ _ _ none hv rfl k1 k2 h0
  ·rw[ags h0,ahf];exact jt.e2 (fv f lo hi) (fv g lo' hi') _ _ _ none hv rfl k1 k2 (by omega)
end wM
end Go.Proofs.YtcpnocgollpbhaaGreatDoor.Sym
