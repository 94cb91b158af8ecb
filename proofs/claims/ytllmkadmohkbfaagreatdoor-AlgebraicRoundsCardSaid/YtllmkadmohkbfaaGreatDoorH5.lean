/- Lemmas for the statements of this seat. -/
import Derived.Test.YtllmkadmohkbfaaGreatDoorH4
import Derived.Test.YtllmkadmohkbfaaGreatDoorH3
import Derived.Test.YtllmkadmohkbfaaGreatDoorQ2
import Derived.Test.YtllmkadmohkbfaaGreatDoorQ3
namespace Go.Proofs.YtllmkadmohkbfaaGreatDoor.Sym
open Go Path cP
set_option linter.unusedVariables false
theorem Nf{f:List Rat}(hz:aK f=false)(hf:f≠[])(hc:oq f (ak f)){u v ε:Rat}(mw:u≤v){s:Int}(hs:s=1∨s = -1)(hε:0<ε)(hb:Qi ε u v (ak f) s) :
  fG (chainF f.length f (ak f)) u+(if sg (evalL f v) = -s then 1 else 0)=fG (chainF f.length f (ak f)) v+(if sg (evalL f u) = -s then 1 else 0):=by
 obtain⟨R,hR,hu,hv⟩:=qw (a:=u) (b:=v)
 have h2:ak f≠[]:=by
  intro e
  have:=(hb u Rat.le_refl mw).1
  rw[e] at this
  have e0:sg (evalL [] u)=0:=by show sg (0:Rat)=0;decide
  rw[e0] at this
  omega
 obtain⟨δ,ε0,hδ,aaj,hl⟩:=sr hz h2 hf hc hR
 have hS:=mW hR f
 have hd:=ji hε (show 0<sec f R+1 by grind)
 have oB:=Rat.div_mul_cancel (a:=ε) (b:=sec f R+1) (by grind)
 generalize ε/(sec f R+1)=δ2 at hd oB
 have LN:0<fa δ δ2:=by unfold fa;split<;>assumption
 have m1:=jo δ δ2
 have m2:=jq δ δ2
 refine yi (P:=fun u v=>fG (chainF f.length f (ak f)) u+(if sg (evalL f v) = -s then 1 else 0)=fG (chainF f.length f (ak f)) v+(if sg (evalL f u) = -s then 1 else 0)) LN mw ?_ ?_
 ·intro x y h1 CS h3 hw
  have hx:=aY (x:=x) h1 (by grind) hu hv
  have hy:=aY (x:=y) (by grind) h3 hu hv
  have fz:Qi ε x y (ak f) s:=fun z z1 z2=>hb z (by grind) (by grind)
  rcases hl x y hx hy CS (by grind) with ⟨⟨t,ht,hB⟩,e⟩|⟨t,ht,hm,e⟩
  ·show _+_=_+_
   rw[(hB x Rat.le_refl CS).1,(hB y CS Rat.le_refl).1,e]
  ·show _+_=_+_
   by_cases exy:x=y
   ·rw[exy]
   ·have ba:x<y:=by grind
    have k1:=hm x y Rat.le_refl ba Rat.le_refl
    have w3:=Rat.mul_le_mul_of_nonneg_left (show y-x≤δ2 by grind) hS
    have k2:=JS (δ:=0) hx hy hs fz hε (show sec f R*(y-x)<ε by grind) x y Rat.le_refl ba Rat.le_refl
    have Xn:t=s:=by
     rcases hs with rfl|rfl<;>rcases ht with rfl|rfl<;>first|rfl|(exfalso;rw[show ((1:Int):Rat)=1 from rfl,show((-1:Int):Rat) = -1 from rfl] at *;grind)
    rw[Xn] at e
    exact e
 ·intro x y z _ _ _ _ e1 e2
  have e1:_+_=_+_:=e1
  have e2:_+_=_+_:=e2
  show _+_=_+_
  omega
theorem sep{f U V:List Rat}{R u v ε:Rat}(hz:aK f=false)(hf:f≠[])(hc:oq f (ak f))(hu:ab u≤R)(hv:ab v≤R)(mw:u≤v)(hU:∀x,evalL U x*evalL f x+evalL V x*evalL (ak f) x=1)(hε:0<ε)(h1:(nrm U R+nrm V R)*(2*ε)<1)(yI:lip f R*(v-u)≤ε)(Pb:lip (ak f) R*(v-u)≤ε) :
  fG (chainF f.length f (ak f)) u-fG (chainF f.length f (ak f)) v≤1∧(evalL f u=0→fG (chainF f.length f (ak f)) u-fG (chainF f.length f (ak f)) v≤0):=by
 rcases mm f hu hv mw Rat.le_refl hε yI with ⟨s,hs,hb⟩|CF
 ·have hw:lL f u v:=⟨ε,hε,fun x a b=>(hb x a b).2⟩
  have:=xd hz hf hc mw hw
  exact⟨by omega,fun _=>by omega⟩
 ·rcases mm (ak f) hu hv mw Rat.le_refl hε Pb with ⟨s,hs,hb⟩|R6
  ·have e:=Nf hz hf hc mw hs hε hb
   constructor
   ·split at e<;>split at e<;>omega
   ·intro h0
    have hz0:sg (evalL f u) ≠ -s:=by rw[h0];rcases hs with rfl|rfl<;>decide
    rw[if_neg hz0] at e
    split at e<;>omega
  ·exfalso
   have a1:=kP hu U
   have a2:=kP hu V
   have a3:=CF u Rat.le_refl mw
   have a4:=R6 u Rat.le_refl mw
   have a5:=ml (evalL U u*evalL f u) (evalL V u*evalL (ak f) u)
   rw[hU u,fS,fS] at a5
   have hR:=Rat.le_trans (bn u) hu
   have b1:=cG a1 (Rat.le_of_lt a3) (bn _) (by grind)
   have b2:=cG a2 (Rat.le_of_lt a4) (bn _) (by grind)
   have e1:ab (1:Rat)=1:=by decide +kernel
   rw[e1] at a5
   grind
def twP(n:Nat):Rat:=(((2^n:Nat):Int):Rat)
theorem fT(m n:Nat):twP (m+n)=twP m*twP n:=by
 unfold twP
 rw[Nat.pow_add,Int.natCast_mul,Rat.intCast_mul]
theorem bx{m n:Nat}(h:m≤n):twP m≤twP n:=Rat.intCast_le_intCast.2 (by have:=Nat.pow_le_pow_right (n:=2) (by omega) h;omega)
theorem mn:twP 0=1:=rfl
theorem Ng(n:Nat):1≤twP n:=by rw[←mn];exact bx (Nat.zero_le _)
theorem bU(n:Nat):0<twP n:=by have:=Ng n;grind
theorem cF(n:Nat):twP (n+1)=twP n+twP n:=by
 rw[fT]
 have:twP 1=2:=rfl
 rw[this];grind
theorem GK(x:Rat):x*((x.den:Int):Rat)=(x.num:Rat):=by
 have h:(x.num:Rat)/((x.den:Int):Rat)=x:=by rw[←Rat.divInt_eq_div,Rat.num_divInt_den]
 have hd:((x.den:Int):Rat)≠0:=su (by have:=x.den_pos;omega)
 have:=Rat.div_mul_cancel (a:=(x.num:Rat)) hd
 rwa[h] at this
theorem yk(n:Int):ab (n:Rat)=((n.natAbs:Int):Rat):=by
 rcases bb (n:Rat) with ⟨h1,h2⟩|⟨h1,h2⟩
 ·have:0≤n:=Rat.intCast_le_intCast.1 h1
  rw[h2];congr 1;omega
 ·have:n<0:=Rat.intCast_lt_intCast.1 h1
  rw[h2,←Rat.intCast_neg];congr 1;omega
theorem KU(k:Nat):4294967296^k=2^(32*k):=by rw[Nat.pow_mul]
theorem Nh(n:Int){k:Nat}(h:wl n≤k):ab (n:Rat)≤twP (32*k):=by
 rw[yk]
 have h1:=BO n
 have h2:4294967296^wl n≤4294967296^k:=Nat.pow_le_pow_right (by omega) h
 rw[KU k] at h2
 unfold twP
 exact Rat.intCast_le_intCast.2 (by omega)
theorem GL(x:Rat):(1:Rat)≤((x.den:Int):Rat):=by
 have:=x.den_pos
 exact Rat.intCast_le_intCast.2 (show (1:Int)≤_ by omega)
theorem B8(x:Rat):ab x≤twP (32*ht x):=by
 have h:=GK x
 have h1:=Nh x.num (eF x)
 have h2:=GL x
 rw[←h,fS,yk] at h1
 have e:(((x.den:Int).natAbs:Int):Rat)=((x.den:Int):Rat):=by congr 1
 rw[e] at h1
 have:=Rat.mul_le_mul_of_nonneg_left h2 (bn x)
 grind
theorem R7{x:Rat}(h0:x≠0):1≤ab x*twP (32*ht x):=by
 have h:=GK x
 have h1:=Nh (x.den:Int) (eP x)
 have e:ab ((x.den:Int):Rat)=((x.den:Int):Rat):=by rw[yk];congr 1
 have hn:x.num≠0:=fun hh=>h0 (Rat.num_eq_zero.1 hh)
 have h2:(1:Rat)≤ab (x.num:Rat):=by
  rw[yk]
  exact Rat.intCast_le_intCast.2 (show (1:Int)≤_ by omega)
 rw[←h,fS,e] at h2
 rw[e] at h1
 have:=Rat.mul_le_mul_of_nonneg_left h1 (bn x)
 grind
theorem EX{R:Rat}(hR:0≤R):∀p q:List Rat,nrm (cY p q) R≤nrm p R+nrm q R
 |[],q=>by rw[cY,nrm];grind
 |a::p,[]=>by rw[cY];show _≤_+0;grind
 |a::p,b::q=>by
  have:=Rat.mul_le_mul_of_nonneg_right (EX hR p q) hR
  have h2:=ml a b
  rw[cY,nrm,nrm,nrm];grind
theorem B9(c R:Rat):∀p:List Rat,nrm (a6 c p) R=ab c*nrm p R
 |[]=>by show(0:Rat)=_*0;grind
 |a::p=>by
  show nrm (a6 c p) R*R+ab (c*a)=_
  rw[B9 c R p,fS,nrm];grind
theorem JV{R:Rat}(hR:0≤R)(q:List Rat):∀p:List Rat,nrm (mulL p q) R≤nrm p R*nrm q R
 |[]=>by show(0:Rat)≤0*_;grind
 |a::p=>by
  rw[mulL]
  have h1:=EX hR (a6 a q) (0::mulL p q)
  rw[B9] at h1
  have h2:nrm (0::mulL p q) R=nrm (mulL p q) R*R+ab 0:=rfl
  have h3:=Rat.mul_le_mul_of_nonneg_right (JV hR q p) hR
  rw[h2,ot] at h1
  rw[nrm]
  grind
theorem EY{R:Rat}{r c:Nat}(hR:0≤R)(hr:R≤twP r):∀p:List Rat,(∀x∈p,ab x≤twP c)→nrm p R≤twP (c+(r+1)*p.length)
 |[],_=>Rat.le_of_lt (bU _)
 |a::p,h=>by
  have ih:=EY hR hr p (fun x hx=>h x (List.mem_cons_of_mem _ hx))
  have ha:=h a (List.mem_cons_self ..)
  have h1:=cG ih hr (jR hR p) (Rat.le_of_lt (bU r))
  rw[←fT] at h1
  have h2:=bx (show c≤c+(r+1)*p.length+r by omega)
  rw[nrm,List.length_cons,show c+(r+1)*(p.length+1)=c+(r+1)*p.length+r+1 from by rw[Nat.mul_add];omega,cF]
  grind
theorem vT{R:Rat}{r c:Nat}(hR:0≤R)(hr:R≤twP r):∀p:List Rat,(∀x∈p,ab x≤twP c)→lip p R≤twP (c+(r+2)*p.length)
 |[],_=>Rat.le_of_lt (bU _)
 |a::p,h=>by
  have hp:=fun x hx=>h x (List.mem_cons_of_mem a hx)
  have ih:=vT hR hr p hp
  have hn:=EY hR hr p hp
  have h1:=cG ih hr (cW hR p) (Rat.le_of_lt (bU r))
  rw[←fT] at h1
  have e1:(r+2)*p.length=(r+1)*p.length+p.length:=by rw[show r+2=r+1+1 from rfl,Nat.add_mul (r+1) 1];omega
  have h2:=bx (show c+(r+1)*p.length≤c+(r+2)*p.length+r by omega)
  have h3:=bx (show c+(r+2)*p.length+r+1≤c+(r+2)*(p.length+1) by rw[Nat.mul_add];omega)
  rw[cF] at h3
  rw[lip,List.length_cons]
  grind
theorem zu{h:Nat}{p:List Rat}(hp:Fl h p):∀x∈p,ab x≤twP (32*h):=fun x hx=>Rat.le_trans (B8 x) (bx (by have:=hp x hx;omega))
theorem Ni{a b N r:Nat}{R:Rat}(ha:1≤a)(dF:a≤b)(hR:0≤R)(hr:R≤twP r)(hs:(r+1)*(N+2)+1≤64*a):∀(n i j:Nat) (p d:List Rat),v8 a b N i j p d→d≠[]→oq p d→d.length<n+1 →
  ∃U V:List Rat,(∀x,evalL U x*evalL p x+evalL V x*evalL d x=1)∧nrm U R≤twP (32*(4*xB a b (N-1)-3*xB a b j))∧nrm V R≤twP (32*(4*xB a b (N-1)-3*xB a b j))
 |0,i,j,p,d,_,h0,_,hl=>absurd (List.eq_nil_of_length_eq_zero (by omega)) h0
 |n+1,i,j,p,d,e,h0,hc,hl=>by
  have SU:=e.bound
  have hlen:=e.len
  have tV:=List.length_pos_iff.2 h0
  have xU:=e.lt
  have x1:∀j,1≤xB a b j:=fun j=>Nat.le_trans ha (cz a b dF (i:=0) (Nat.zero_le _))
  have hjN:=cz a b dF (i:=j) (j:=N-1) (by omega)
  by_cases OK:aL (a6 (-1) (bk p d))=[]
  ·obtain⟨c,rfl,Am⟩:=B4 e.zq h0 hc OK
   refine⟨[],[1/c],fun x => ?_,Rat.le_of_lt (bU _),?_⟩
   ·rw[dL,dL,Rat.div_mul_cancel Am]
    show 0*_+1=1
    grind
   ·have e1:nrm [1/c] R=ab (1/c):=by show 0*R+_=_;grind
    have hh:=nV 1 c
    have R8:=e.hq.fl (x1 j) c (by simp)
    have hi:=MU c
    have VT:1/c=c⁻¹:=by rw[Rat.div_def,Rat.one_mul]
    rw[e1]
    refine Rat.le_trans (B8 _) (bx ?_)
    rw[VT]
    omega
  ·obtain⟨r1,r2⟩:=e.rest dF h0
   have JP:=gU (p:=p) e.zq h0
   have xv:=List.length_pos_iff.2 OK
   have Kx:Ch (xB a b (j+(p.length-d.length))) (aL (a6 (-1) (bk p d))):=by
    refine Ch.trim ?_
    obtain⟨D,d1,d2,d3⟩:=r1
    refine⟨D,d1,d2,fun i => ?_⟩
    obtain⟨m,m1,m2⟩:=d3 i
    refine⟨-m,?_,by rw[iy];exact m2⟩
    rw[ct,Rat.intCast_neg,←m1];grind
   obtain⟨U,V,R9,SV,Qj⟩:=Ni ha dF hR hr hs n j _ d _ (e.next dF h0 Kx JP (bh _)) OK (B3 e.zq h0 hc) (by omega)
   have hq:=Aw e.hp e.hq (x1 i) (x1 j) e.zq h0
   have Cw:=xf (p:=p) e.zq h0
   obtain⟨j',rfl⟩:∃j',j=j'+1:=⟨j-1,by omega⟩
   obtain⟨δ,hδ⟩:∃δ,p.length-d.length=δ+1:=⟨p.length-d.length-1,by omega⟩
   have hg:=sv a b dF j' δ
   have hi:=cz a b dF (i:=i) (j:=j') (by omega)
   have Vf:=cz a b dF (i:=0) (j:=j') (by omega)
   have e00:xB a b 0=a:=rfl
   rw[hδ] at SV Qj
   have hgN:=cz a b dF (i:=j'+1+(δ+1)) (j:=N-1) (by omega)
   have tZ:xB a b i+(p.length+1-d.length)*(xB a b (j'+1)+1)+xB a b (j'+1)≤xB a b (j'+1+(δ+1))+xB a b (j'+1):=by
    rw[show p.length+1-d.length=δ+2 from by omega];omega
   have V6:=EY hR hr _ (zu (eA hq tZ))
   have hqm:(r+1)*(cX p d).1.length≤(r+1)*(N+2):=Nat.mul_le_mul_left _ (by omega)
   have two:2*(xB a b (j'+1)+1)≤(δ+2)*(xB a b (j'+1)+1):=Nat.mul_le_mul_right _ (by omega)
   have Ui:=Rat.le_trans V6 (bx (show _≤32*(xB a b (j'+1+(δ+1))+xB a b (j'+1))+((r+1)*(N+2)) by omega))
   generalize hS:32*(4*xB a b (N-1)-3*xB a b (j'+1+(δ+1)))=S at SV Qj
   generalize hQ:32*(xB a b (j'+1+(δ+1))+xB a b (j'+1))+((r+1)*(N+2))=Q at Ui
   have hT:S+Q+1≤32*(4*xB a b (N-1)-3*xB a b (j'+1)):=by omega
   refine⟨a6 (-1) V,cY U (mulL V (cX p d).1),fun x => ?_,?_,?_⟩
   ·have k1:=R9 x
    have k2:=nj (p:=p) e.zq h0 x
    rw[aU,bD,aE]
    have k3:evalL (aL (a6 (-1) (bk p d))) x=evalL (cX p d).1 x*evalL d x-evalL p x:=by grind
    rw[k3] at k1
    grind
   ·rw[B9,show ab (-1:Rat)=1 from by decide +kernel,Rat.one_mul]
    exact Rat.le_trans Qj (bx (by omega))
   ·have m1:=EX hR U (mulL V (cX p d).1)
    have m2:=JV hR (cX p d).1 V
    have m3:=cG Qj Ui (jR hR V) (Rat.le_of_lt (bU _))
    rw[←fT] at m3
    have m4:=bx (show S≤S+Q by omega)
    have m5:=bx hT
    rw[cF] at m5
    grind
theorem uw{f:List Rat}{a N r m:Nat}{R u v:Rat}(ha:1≤a)(e:v8 a (a+1) N 0 1 f (ak f))(hf:f≠[])(hc:oq f (ak f))(hR:0≤R)(hr:R≤twP r)(hs:(r+1)*(N+2)+1≤64*a)(hu:ab u≤R)(hv:ab v≤R)(mw:u≤v)
  (hm:32*(4*xB a (a+1) (N-1))+32*(a+1)+(r+2)*f.length+3≤m) (hw:(v-u)*twP m≤1) :
  fG (chainF f.length f (ak f)) u-fG (chainF f.length f (ak f)) v≤1∧(evalL f u=0→fG (chainF f.length f (ak f)) u-fG (chainF f.length f (ak f)) v≤0):=by
 by_cases h2:ak f=[]
 ·rw[iG h2,iG h2]
  exact⟨by omega,fun _=>by omega⟩
 ·obtain⟨U,V,R9,hU,hV⟩:=Ni ha (Nat.le_succ a) hR hr hs f.length 0 1 f (ak f) e h2 hc (by have:=e.len;omega)
  generalize hS:32*(4*xB a (a+1) (N-1)-3*xB a (a+1) 1)=S at hU hV
  have hS2:S≤32*(4*xB a (a+1) (N-1)):=by omega
  generalize 32*(4*xB a (a+1) (N-1))=S2 at hm hS2
  have e0:xB a (a+1) 0=a:=rfl
  have e1:xB a (a+1) 1=a+1:=rfl
  have l1:=vT hR hr f (zu (eA (e.hp.fl (by rw[e0];exact ha)) (show xB a (a+1) 0≤a+1 by rw[e0];omega)))
  have l2:=vT hR hr (ak f) (zu (e.hq.fl (by rw[e1];omega)))
  rw[e1] at l2
  have hlen:(r+2)*(ak f).length≤(r+2)*f.length:=Nat.mul_le_mul_left _ (by have:=e.len;omega)
  have YX:=Rat.le_trans l2 (bx (show 32*(a+1)+(r+2)*(ak f).length≤32*(a+1)+(r+2)*f.length by omega))
  generalize hL:32*(a+1)+(r+2)*f.length=L at l1 YX
  have hp:=bU (S+3)
  have hε:=ji (show (0:Rat)<1 by decide) hp
  have Pf:=Rat.div_mul_cancel (a:=1) (b:=twP (S+3)) (by grind)
  generalize 1/twP (S+3)=ε at hε Pf
  have t1:twP (S+3)=8*twP S:=by rw[fT,show twP 3=8 from rfl];grind
  have Hm:0≤v-u:=by grind
  have key:∀l:Rat,0≤l→l≤twP L→l*(v-u)≤ε:=by
   intro l h0 hl
   have k1:=Rat.mul_le_mul_of_nonneg_right hl Hm
   have k2:=Rat.mul_le_mul_of_nonneg_left (bx (show L+(S+3)≤m by omega)) Hm
   rw[fT] at k2
   have k3:twP L*(v-u)*twP (S+3)≤1:=by grind
   refine Rat.not_lt.1 fun ba => ?_
   have k4:ε<twP L*(v-u):=by grind
   have k5:=Rat.mul_lt_mul_of_pos_right k4 hp
   grind
  refine sep (U:=U) (V:=V) (ε:=ε) e.zp hf hc hu hv mw R9 hε ?_ (key _ (cW hR _) l1) (key _ (cW hR _) YX)
  have k6:=Rat.mul_le_mul_of_nonneg_right (show nrm U R+nrm V R≤twP S+twP S by grind) (show 0≤2*ε by grind)
  rw[t1] at Pf
  have hpS:=Rat.mul_pos hε (bU S)
  grind
end Go.Proofs.YtllmkadmohkbfaaGreatDoor.Sym
namespace Go.Proofs.YtllmkadmohkbfaaGreatDoor.Sym
set_option linter.unusedVariables false
set_option linter.unusedSectionVars false
theorem pj{a b δ:Rat}(ha:0<a)(hb:0≤b)(hδ:0<δ):∃t,0<t∧t≤δ∧t*b<a:=by
 have qO:0<b+1:=by grind
 have hq:=ji ha qO
 have hm:a/(b+1)*(b+1)=a:=by rw[Rat.div_def,Rat.mul_assoc,Rat.inv_mul_cancel _ (by grind),Rat.mul_one]
 have key:∀t,0<t→t≤a/(b+1)→t*b<a:=fun t h1 h2=>by
  have h3:=Rat.mul_le_mul_of_nonneg_right h2 (Rat.le_of_lt qO)
  rw[hm] at h3
  grind
 by_cases h:a/(b+1)≤δ
 ·exact⟨_,hq,h,key _ hq Rat.le_refl⟩
 ·exact⟨δ,hδ,Rat.le_refl,key δ hδ (by grind)⟩
theorem DR{f:List Rat}(hc:oq f (ak f)){x δ:Rat}(hx:evalL f x=0)(hδ:0<δ)(s:Rat)(hs:s=1∨s = -1):∃t,0<t∧t≤δ∧evalL f (x+s*t)≠0:=by
 obtain⟨U,V,R9⟩:=hc
 have h1:=R9 x
 rw[hx,ck] at h1
 have hd:dEv f x≠0:=fun e=>by rw[e] at h1;grind
 have hR:0≤ab x+δ:=by have:=bn x;grind
 obtain⟨t,t1,t2,t3⟩:=pj (vR hd) (mW hR f) hδ
 refine⟨t,t1,t2,fun e => ?_⟩
 have ht:=IA x (x+s*t) f
 rw[e,hx] at ht
 have aI:ab (s*t)=t:=by
  rw[fS]
  rcases hs with rfl|rfl
  ·rcases bb t with k|k<;>rcases bb (1:Rat) with m|m<;>grind
  ·rcases bb t with k|k<;>rcases bb (-1:Rat) with m|m<;>grind
 have Sa:ab x≤ab x+δ:=by grind
 have Wq:ab (x+s*t)≤ab x+δ:=by
  have:=ml x (s*t)
  grind
 have hb:=IB Sa Wq f
 have e1:s*t*(dEv f x+s*t*JQ x (x+s*t) f)=0:=by
  have:x+s*t-x=s*t:=by grind
  rw[this] at ht
  grind
 have Xo:s*t≠0:=fun e=>by rw[e,ot] at aI;grind
 rcases Rat.mul_eq_zero.1 e1 with e2|e2
 ·exact Xo e2
 ·have e3:dEv f x = -(s*t*JQ x (x+s*t) f):=by grind
  have e4:ab (dEv f x)=t*ab (JQ x (x+s*t) f):=by rw[e3,ET,fS,aI]
  have e5:=Rat.mul_le_mul_of_nonneg_left hb (Rat.le_of_lt t1)
  grind
abbrev cS(f:List Rat)(x:Rat):Int:=fG (chainF f.length f (ak f)) x
structure dW (f:List Rat) (lo hi:Rat):Prop where
 zf:aK f=false
 f0:f≠[]
 Au:oq f (ak f)
 Jv:(lo=hi∧evalL f lo=0)∨(lo<hi∧evalL f lo≠0∧evalL f hi≠0∧cS f lo-cS f hi=1)
def aP(f:List Rat)(lo hi x:Rat):Int:=if lo=hi then eh lo x else if x≤lo then 1 else if hi≤x then -1 else sg (evalL f x)*sg (evalL f lo)
theorem kI{p q:Rat}(h:p<q):eh p q = -1:=by unfold eh;rw[if_pos h]
theorem mo{p q:Rat}(h:q<p):eh p q=1:=by unfold eh;rw[if_neg (by grind),if_neg (by grind)]
theorem gY(p:Rat):eh p p=0:=ew.2 rfl
theorem eM(p q:Rat):(p<q∧eh p q = -1)∨(p=q∧eh p q=0)∨(q<p∧eh p q=1):=by
 by_cases h1:p<q
 ·exact Or.inl ⟨h1,kI h1⟩
 ·by_cases h2:q<p
  ·exact Or.inr (Or.inr ⟨h2,mo h2⟩)
  ·have:p=q:=by grind
   subst this
   exact Or.inr (Or.inl ⟨rfl,gY _⟩)
namespace dW
variable {f:List Rat} {lo hi:Rat}
theorem le(A:dW f lo hi):lo≤hi:=by rcases A.Jv with ⟨h,_⟩|⟨h,_⟩<;>grind
section
variable (A:dW f lo hi) (ba:lo<hi)
include A ba
theorem ends:evalL f lo≠0∧evalL f hi≠0∧cS f lo-cS f hi=1:=by
 rcases A.Jv with ⟨h,_⟩|⟨_,h⟩
 ·subst h;exact absurd ba Rat.lt_irrefl
 ·exact h
theorem Uj{x:Rat}(h1:lo≤x)(h2:x≤hi):cS f lo-cS f x=0∨cS f lo-cS f x=1:=by
 have a:=nJ A.zf A.f0 A.Au h1
 have b:=nJ A.zf A.f0 A.Au h2
 have c:=(A.ends ba).2.2
 unfold cS at *
 omega
theorem Ca{x y:Rat}(h:x≤y):cS f lo-cS f x≤cS f lo-cS f y:=by
 have a:=nJ A.zf A.f0 A.Au h
 unfold cS at *
 omega
theorem val{x:Rat}(h1:lo≤x)(h2:x≤hi)(hx:evalL f x≠0):(sg (evalL f x)=sg (evalL f lo)∧cS f lo-cS f x=0)∨(sg (evalL f x) = - sg (evalL f lo)∧cS f lo-cS f x=1):=by
 have a:=A.Uj ba h1 h2
 have b:=JT A.zf A.f0 A.Au (A.ends ba).1 hx
 unfold cS at *
 rcases b with ⟨b1,b2⟩|⟨b1,b2⟩
 ·left;exact⟨b1.symm,by omega⟩
 ·right;exact⟨by omega,by omega⟩
theorem root{x:Rat}(h1:lo≤x)(h2:x≤hi)(hx:evalL f x=0):cS f lo-cS f x=1:=by
 rcases A.Uj ba h1 h2 with h|h
 ·have:=rj A.zf A.f0 A.Au h1 (by unfold cS at h;omega) (A.ends ba).1
  exact absurd hx (this.ne h1 Rat.le_refl)
 ·exact h
theorem JW{x:Rat}(h1:lo≤x)(h:cS f lo-cS f x=0):lL f lo x:=rj A.zf A.f0 A.Au h1 (by unfold cS at h;omega) (A.ends ba).1
theorem Ax{x:Rat}(h1:lo≤x)(h2:x≤hi)(hx:evalL f x≠0)(h:cS f lo-cS f x=1):lL f x hi :=
 rj A.zf A.f0 A.Au h2 (by have:=(A.ends ba).2.2;unfold cS at *;omega) hx
theorem after{x y:Rat}(h1:lo≤x)(CS:x<y)(h2:y≤hi)(hx:evalL f x=0):evalL f y≠0∧cS f lo-cS f y=1:=by
 have r:=A.root ba h1 (by grind) hx
 have m:=A.Ca ba (Rat.le_of_lt CS)
 have c:=A.Uj ba (x:=y) (by grind) h2
 obtain⟨t,t1,t2,t3⟩:=DR A.Au hx (δ:=y-x) (by grind) 1 (Or.inl rfl)
 have e:x+1*t=x+t:=by grind
 rw[e] at t3
 have m2:=A.Ca ba (x:=x) (y:=x+t) (by grind)
 have c2:=A.Uj ba (x:=x+t) (by grind) (by grind)
 have:=A.Ax ba (x:=x+t) (by grind) (by grind) t3 (by omega)
 exact⟨this.ne (by grind) (by grind),by omega⟩
theorem before{x y:Rat}(h1:lo≤x)(CS:x<y)(h2:y≤hi)(hy:evalL f y=0):evalL f x≠0∧cS f lo-cS f x=0:=by
 have hx:evalL f x≠0:=fun e=>(A.after ba h1 CS h2 e).1 hy
 refine⟨hx,?_⟩
 rcases A.Uj ba h1 (by grind) with h|h
 ·exact h
 ·have:=A.Ax ba h1 (by grind) hx h
  exact absurd hy (this.ne (Rat.le_of_lt CS) h2)
theorem kt{x:Rat}(h1:lo<x)(h2:x<hi):(aP f lo hi x=1∧evalL f x≠0∧cS f lo-cS f x=0)∨(aP f lo hi x=0∧evalL f x=0)∨(aP f lo hi x = -1∧evalL f x≠0∧cS f lo-cS f x=1):=by
 have di:¬lo=hi:=fun e=>by subst e;exact Rat.lt_irrefl ba
 have e:aP f lo hi x=sg (evalL f x)*sg (evalL f lo):=by
  unfold aP
  rw[if_neg di,if_neg (by grind),if_neg (by grind)]
 rw[e]
 have hl:=vd (A.ends ba).1
 by_cases hx:evalL f x=0
 ·right;left
  refine⟨?_,hx⟩
  rw[hx]
  show sg 0*_=0
  rw[show sg 0=0 from gY 0,Int.zero_mul]
 ·rcases A.val ba (Rat.le_of_lt h1) (Rat.le_of_lt h2) hx with ⟨v1,v2⟩|⟨v1,v2⟩
  ·left
   refine⟨?_,hx,v2⟩
   rw[v1]
   rcases hl with k|k<;>rw[k]<;>decide
  ·right;right
   refine⟨?_,hx,v2⟩
   rw[v1]
   rcases hl with k|k<;>rw[k]<;>decide
end
theorem low(A:dW f lo hi)(ba:lo<hi){x:Rat}(h:x≤lo):aP f lo hi x=1:=by
 have di:¬lo=hi:=fun e=>by subst e;exact Rat.lt_irrefl ba
 unfold aP
 rw[if_neg di,if_pos h]
theorem high(A:dW f lo hi)(ba:lo<hi){x:Rat}(h:hi≤x):aP f lo hi x = -1:=by
 have di:¬lo=hi:=fun e=>by subst e;exact Rat.lt_irrefl ba
 unfold aP
 rw[if_neg di,if_neg (by grind),if_pos h]
theorem three(A:dW f lo hi)(x:Rat):aP f lo hi x=1∨aP f lo hi x=0∨aP f lo hi x = -1:=by
 by_cases h:lo=hi
 ·unfold aP
  rw[if_pos h]
  rcases eM lo x with k|k|k<;>simp[k.2]
 ·have ba:lo<hi:=by have:=A.le;grind
  by_cases h1:x≤lo
  ·left;exact A.low ba h1
  ·by_cases h2:hi≤x
   ·right;right;exact A.high ba h2
   ·rcases A.kt ba (x:=x) (by grind) (by grind) with k|k|k<;>simp[k.1]
theorem mono(A:dW f lo hi){x y:Rat}(CS:x<y)(h:aP f lo hi x≤0):aP f lo hi y = -1:=by
 by_cases he:lo=hi
 ·unfold aP at h ⊢
  rw[if_pos he] at h ⊢
  rcases eM lo x with k|k|k
  ·exact kI (by grind)
  ·exact kI (by grind)
  ·omega
 ·have ba:lo<hi:=by have:=A.le;grind
  have Sa:lo<x:=by
   by_cases h1:x≤lo
   ·rw[A.low ba h1] at h;omega
   ·grind
  by_cases h2:hi≤y
  ·exact A.high ba h2
  ·have hm:=A.Ca ba (Rat.le_of_lt CS)
   rcases A.kt ba (x:=x) Sa (by grind) with k|k|k
   ·omega
   ·have a:=A.after ba (Rat.le_of_lt Sa) CS (by grind) k.2
    rcases A.kt ba (x:=y) (by grind) (by grind) with m|m|m
    ·omega
    ·exact absurd m.2 a.1
    ·exact m.1
   ·rcases A.kt ba (x:=y) (by grind) (by grind) with m|m|m
    ·omega
    ·have a:=A.before ba (Rat.le_of_lt Sa) CS (by grind) m.2
     omega
    ·exact m.1
theorem kJ(A:dW f lo hi){x y:Rat}(CS:x<y)(h:0≤aP f lo hi y):aP f lo hi x=1:=by
 rcases A.three x with k|k|k
 ·exact k
 ·have:=A.mono CS (by omega);omega
 ·have:=A.mono CS (by omega);omega
theorem rk(A:dW f lo hi):0≤aP f lo hi lo:=by
 by_cases he:lo=hi
 ·unfold aP;rw[if_pos he,gY];omega
 ·rw[A.low (by have:=A.le;grind) Rat.le_refl];omega
theorem tN(A:dW f lo hi):aP f lo hi hi≤0:=by
 by_cases he:lo=hi
 ·unfold aP;rw[if_pos he,he,gY];omega
 ·rw[A.high (by have:=A.le;grind) Rat.le_refl];omega
theorem yl(A:dW f lo hi){x:Rat}(h:aP f lo hi x=0):evalL f x=0∧lo≤x∧x≤hi:=by
 by_cases he:lo=hi
 ·unfold aP at h
  rw[if_pos he] at h
  have:=ew.1 h
  subst this
  rcases A.Jv with ⟨_,k⟩|⟨k,_⟩
  ·exact⟨k,Rat.le_refl,A.le⟩
  ·grind
 ·have ba:lo<hi:=by have:=A.le;grind
  by_cases h1:x≤lo
  ·rw[A.low ba h1] at h;omega
  ·by_cases h2:hi≤x
   ·rw[A.high ba h2] at h;omega
   ·rcases A.kt ba (x:=x) (by grind) (by grind) with k|k|k
    ·omega
    ·exact⟨k.2,by grind,by grind⟩
    ·omega
theorem sub(A:dW f lo hi){u v:Rat}(hu:lo≤u)(hv:v≤hi)(h:(u=v∧aP f lo hi u=0)∨(u<v∧aP f lo hi u=1∧aP f lo hi v = -1)):dW f u v∧∀x,aP f u v x=aP f lo hi x:=by
 rcases h with ⟨rfl,h0⟩|⟨mw,h1,h2⟩
 ·refine⟨⟨A.zf,A.f0,A.Au,Or.inl ⟨rfl,(A.yl h0).1⟩⟩,fun x => ?_⟩
  have e:aP f u u x=eh u x:=by unfold aP;rw[if_pos rfl]
  rw[e]
  rcases eM u x with k|k|k
  ·rw[k.2,A.mono k.1 (by omega)]
  ·rw[←k.1,gY,h0]
  ·rw[k.2,A.kJ k.1 (by omega)]
 ·have ba:lo<hi:=by grind
  have q1:evalL f u≠0∧cS f lo-cS f u=0:=by
   by_cases e:u=lo
   ·subst e;exact⟨(A.ends ba).1,by omega⟩
   ·rcases A.kt ba (x:=u) (by grind) (by grind) with k|k|k
    ·exact k.2
    ·omega
    ·omega
  have q2:evalL f v≠0∧cS f lo-cS f v=1:=by
   by_cases e:v=hi
   ·subst e;exact(A.ends ba).2
   ·rcases A.kt ba (x:=v) (by grind) (by grind) with k|k|k
    ·omega
    ·omega
    ·exact k.2
  have B:dW f u v:=⟨A.zf,A.f0,A.Au,Or.inr ⟨mw,q1.1,q2.1,by omega⟩⟩
  refine⟨B,fun x => ?_⟩
  by_cases x1:x≤u
  ·rw[B.low mw x1]
   by_cases e:x=u
   ·rw[e,h1]
   ·exact(A.kJ (y:=u) (by grind) (by omega)).symm
  ·by_cases x2:v≤x
   ·rw[B.high mw x2]
    by_cases e:x=v
    ·rw[e,h2]
    ·exact(A.mono (x:=v) (by grind) (by omega)).symm
   ·have k:=B.kt mw (x:=x) (by grind) (by grind)
    have m:=A.kt ba (x:=x) (by grind) (by grind)
    rcases k with k|k|k<;>rcases m with m|m|m<;>first|(exfalso;exact k.2.1 m.2)|(exfalso;exact m.2.1 k.2)|(exfalso;unfold cS at *;omega)|(rw [k.1,m.1])
end dW
end Go.Proofs.YtllmkadmohkbfaaGreatDoor.Sym
namespace Go.Proofs.YtllmkadmohkbfaaGreatDoor.Sym
set_option linter.unusedVariables false
set_option linter.unusedSectionVars false
namespace dW
variable {f:List Rat} {lo hi:Rat}
theorem nK(A:dW f lo hi){u v:Rat}(hu:aP f lo hi u=1)(hv:aP f lo hi v = -1):u<v:=by
 by_cases h:v<u
 ·have:=A.kJ h (by omega);omega
 ·by_cases e:u=v
  ·rw[e] at hu;omega
  ·grind
theorem Vh(A:dW f lo hi):aP f lo hi (lo-1)=1∧aP f lo hi (hi+1) = -1 :=
 ⟨A.kJ (y:=lo) (by grind) A.rk,A.mono (x:=hi) (by grind) A.tN⟩
theorem Iq(A:dW f lo hi){u v δ:Rat}(hu:aP f lo hi u=1)(hv:aP f lo hi v = -1)(hδ:0<δ):∃a b,u≤a∧b≤v∧aP f lo hi a=1∧aP f lo hi b = -1∧b-a≤δ:=by
 have mw:=A.nK hu hv
 by_cases hz:∃x,aP f lo hi x=0
 ·obtain⟨x,hx⟩:=hz
  have hux:u<x:=by
   by_cases h:x<u
   ·have:=A.mono h (by omega);omega
   ·by_cases e:u=x
    ·rw[e] at hu;omega
    ·grind
  have hxv:x<v:=by
   by_cases h:v<x
   ·have:=A.kJ h (by omega);omega
   ·by_cases e:x=v
    ·rw[←e] at hv;omega
    ·grind
  have Uk:∀a,a<x→aP f lo hi a=1:=fun a h=>A.kJ h (by omega)
  have Qk:∀b,x<b→aP f lo hi b = -1:=fun b h=>A.mono h (by omega)
  have hd:0<δ/2:=ji hδ (by decide)
  have Hp:δ/2+δ/2=δ:=by rw[Rat.div_def];have:(2:Rat)*2⁻¹=1:=Rat.mul_inv_cancel 2 (by decide);grind
  by_cases h1:u≤x-δ/2
  ·by_cases h2:x+δ/2≤v
   ·exact⟨_,_,h1,h2,Uk _ (by grind),Qk _ (by grind),by grind⟩
   ·exact⟨_,v,h1,Rat.le_refl,Uk _ (by grind),hv,by grind⟩
  ·by_cases h2:x+δ/2≤v
   ·exact⟨u,_,Rat.le_refl,h2,hu,Qk _ (by grind),by grind⟩
   ·exact⟨u,v,Rat.le_refl,Rat.le_refl,hu,hv,by grind⟩
 ·have VM:∀x,aP f lo hi x=1∨aP f lo hi x = -1:=fun x=>by
   rcases A.three x with k|k|k
   ·exact Or.inl k
   ·exact absurd ⟨x,k⟩ hz
   ·exact Or.inr k
  refine Classical.byContradiction fun Ul => ?_
  have:=yi (P:=fun s t=>¬(aP f lo hi s=1∧aP f lo hi t = -1)) (a:=u) (b:=v) hδ (Rat.le_of_lt mw)
   (fun s t h1 h2 h3 h4 h=>Ul ⟨s,t,h1,h3,h.1,h.2,h4⟩)
   (fun s t w h1 h2 h3 h4 p q h=>by
    rcases VM t with k|k
    ·exact q ⟨k,h.2⟩
    ·exact p ⟨h.1,k⟩)
  exact this ⟨hu,hv⟩
theorem GM(A:dW f lo hi){u v:Rat}(hu:aP f lo hi u=1)(hv:aP f lo hi v = -1)(h1:lo≤u∨lo=hi)(h2:v≤hi∨lo=hi)(ba:lo<hi):sg (evalL f u) = - sg (evalL f v):=by
 have h1:lo≤u:=by rcases h1 with h|h<;>grind
 have h2:v≤hi:=by rcases h2 with h|h<;>grind
 have q1:evalL f u≠0∧cS f lo-cS f u=0:=by
  by_cases e:u=lo
  ·subst e;exact⟨(A.ends ba).1,by omega⟩
  ·by_cases e2:hi≤u
   ·rw[A.high ba e2] at hu;omega
   ·rcases A.kt ba (x:=u) (by grind) (by grind) with k|k|k
    ·exact k.2
    ·omega
    ·omega
 have q2:evalL f v≠0∧cS f lo-cS f v=1:=by
  by_cases e:v=hi
  ·subst e;exact(A.ends ba).2
  ·by_cases e2:v≤lo
   ·rw[A.low ba e2] at hv;omega
   ·rcases A.kt ba (x:=v) (by grind) (by grind) with k|k|k
    ·omega
    ·omega
    ·exact k.2
 have hp:=JT A.zf A.f0 A.Au q1.1 q2.1
 unfold cS at *
 rcases hp with ⟨_,k⟩|⟨k,_⟩
 ·omega
 ·exact k
end dW
theorem mq{h:List Rat}{R u v:Rat}(hu:ab u≤R)(hv:ab v≤R)(hs:evalL h u=0∨evalL h v=0∨sg (evalL h u) = - sg (evalL h v)){x:Rat}(h1:u≤x)(h2:x≤v):ab (evalL h x)≤lip h R*(v-u):=by
 have hx:=aY h1 h2 hu hv
 have d1:=qv hx hu h
 have d2:=qv hx hv h
 have hR:0≤R:=Rat.le_trans (bn u) hu
 have hl:=cW hR h
 have w1:ab (x-u)≤v-u:=by rcases bb (x-u) with k|k<;>grind
 have w2:ab (x-v)≤v-u:=by rcases bb (x-v) with k|k<;>grind
 have e1:=Rat.mul_le_mul_of_nonneg_left w1 hl
 have e2:=Rat.mul_le_mul_of_nonneg_left w2 hl
 have Vi:=bF (evalL h x)
 have YV:=bF (evalL h u)
 have YW:=bF (evalL h v)
 have a1:=bb (evalL h x-evalL h u)
 have a2:=bb (evalL h x-evalL h v)
 have a3:=bb (evalL h x)
 rcases hs with hs|hs|hs
 ·rw[hs] at d1
  have:evalL h x-0=evalL h x:=by grind
  rw[this] at d1
  grind
 ·rw[hs] at d2
  have:evalL h x-0=evalL h x:=by grind
  rw[this] at d2
  grind
 ·rcases YV with k|k|k<;>rcases YW with m|m|m<;>first|(exfalso;have:=k.2;have:=m.2;omega)|skip
  all_goals rcases Vi with n|n|n<;>grind
def Ql(f:List Rat)(lo hi:Rat)(p:List Rat)(s:Int):Prop :=
 (s=0∧∀u v,aP f lo hi u=1→aP f lo hi v = -1→¬lL p u v)∨((s=1∨s = -1)∧∃u v,aP f lo hi u=1∧aP f lo hi v = -1∧lL p u v∧sg (evalL p u)=s)
theorem Ql.uniq{f:List Rat}{lo hi:Rat}(A:dW f lo hi){p:List Rat}{s t:Int}(h:Ql f lo hi p s)(k:Ql f lo hi p t):s=t:=by
 rcases h with ⟨rfl,h⟩|⟨_,u,v,h1,h2,h3,h4⟩
 ·rcases k with ⟨rfl,_⟩|⟨_,u,v,h1,h2,h3,_⟩
  ·rfl
  ·exact absurd h3 (h u v h1 h2)
 ·rcases k with ⟨rfl,k⟩|⟨_,u',v',k1,k2,k3,k4⟩
  ·exact absurd h3 (k u v h1 h2)
  ·have l1:=A.nK h1 h2
   have l2:=A.nK k1 k2
   have l3:=A.nK h1 k2
   have l4:=A.nK k1 h2
   rw[←h4,←k4]
   by_cases hh:u≤u'
   ·exact xe hh (h3.sub Rat.le_refl (Rat.le_of_lt l4))
   ·exact(xe (by grind) (k3.sub Rat.le_refl (Rat.le_of_lt l3))).symm
end Go.Proofs.YtllmkadmohkbfaaGreatDoor.Sym
namespace Go.Proofs.YtllmkadmohkbfaaGreatDoor.Sym
set_option linter.unusedVariables false
set_option linter.unusedSectionVars false
def Zr(f:List Rat)(lo hi:Rat)(p:List Rat):Prop:=∀u v,aP f lo hi u=1→aP f lo hi v = -1→¬lL p u v
theorem Zr.dv{f:List Rat}{lo hi:Rat}{p q:List Rat}(h:Zr f lo hi p)(hd:Dv p q):Zr f lo hi q:=fun u v h1 h2 h3=>h u v h1 h2 (Av h3 hd)
theorem rl{p:List Rat}{x:Rat}(h:evalL p x≠0):∃δ,0<δ∧lL p (x-δ) (x+δ):=by
 have hR:0≤ab x+1:=by have:=bn x;grind
 obtain⟨t,t1,t2,t3⟩:=pj (a:=ab (evalL p x)) (b:=2*lip p (ab x+1)) (δ:=1) (vR h) (by have:=cW hR p;grind) (by decide)
 refine⟨t,t1,ab (evalL p x)-t*lip p (ab x+1),by have:=cW hR p;have:=Rat.mul_nonneg (Rat.le_of_lt t1) this;grind,fun y h1 h2 => ?_⟩
 have hy:ab y≤ab x+1:=by
  have:=ml x (y-x)
  have e:x+(y-x)=y:=by grind
  rw[e] at this
  rcases bb (y-x) with k|k<;>grind
 have hd:=qv (R:=ab x+1) (x:=x) (by grind) hy p
 have CS:ab (x-y)≤t:=by rcases bb (x-y) with k|k<;>grind
 have h3:=Rat.mul_le_mul_of_nonneg_left CS (cW hR p)
 have h4:=ml (evalL p y) (evalL p x-evalL p y)
 have e:evalL p y+(evalL p x-evalL p y)=evalL p x:=by grind
 rw[e] at h4
 grind
namespace dW
variable {f:List Rat} {lo hi:Rat}
theorem pt(he:lo=hi):aP f lo hi lo≤0:=by unfold aP;rw[if_pos he,gY];omega
theorem inside(A:dW f lo hi)(ba:lo<hi){u v:Rat}(hu:aP f lo hi u=1)(hv:aP f lo hi v = -1):∃a b,u≤a∧b≤v∧lo≤a∧b≤hi∧aP f lo hi a=1∧aP f lo hi b = -1:=by
 by_cases h1:lo≤u
 ·by_cases h2:v≤hi
  ·exact⟨u,v,Rat.le_refl,Rat.le_refl,h1,h2,hu,hv⟩
  ·exact⟨u,hi,Rat.le_refl,by grind,h1,Rat.le_refl,hu,A.high ba Rat.le_refl⟩
 ·by_cases h2:v≤hi
  ·exact⟨lo,v,by grind,Rat.le_refl,Rat.le_refl,h2,A.low ba Rat.le_refl,hv⟩
  ·exact⟨lo,hi,by grind,by grind,Rat.le_refl,Rat.le_refl,A.low ba Rat.le_refl,A.high ba Rat.le_refl⟩
theorem own(A:dW f lo hi):Zr f lo hi f:=fun u v hu hv h=>by
 by_cases he:lo=hi
 ·have hz:evalL f lo=0:=by
   rcases A.Jv with ⟨_,k⟩|⟨k,_⟩
   ·exact k
   ·grind
  have h1:u≤lo:=by
   refine Rat.not_lt.1 fun ba => ?_
   have:=A.mono ba (pt he)
   omega
  have h2:lo≤v:=by
   refine Rat.not_lt.1 fun ba => ?_
   have:=A.kJ ba A.rk
   omega
  exact h.ne h1 h2 hz
 ·have ba:lo<hi:=by have:=A.le;grind
  obtain⟨a,b,i1,i2,i3,i4,i5,i6⟩:=A.inside ba hu hv
  have dF:=A.nK i5 i6
  have hs:=A.GM i5 i6 (Or.inl i3) (Or.inl i4) ba
  have ha:=h.sub i1 i2
  have:=xe (Rat.le_of_lt dF) ha
  have hn:=vd (ha.ne Rat.le_refl (Rat.le_of_lt dF))
  omega
theorem Xp(A:dW f lo hi)(V:List Rat){u v ε:Rat}(hu:aP f lo hi u=1)(hv:aP f lo hi v = -1)(hε:0<ε):∃a b,u≤a∧b≤v∧aP f lo hi a=1∧aP f lo hi b = -1∧∀x,a≤x→x≤b→ab (evalL V x*evalL f x)<ε:=by
 obtain⟨R,hR,r1,r2⟩:=qw (a:=u) (b:=v)
 have hm:=Rat.mul_nonneg (jR hR V) (cW hR f)
 obtain⟨t,t1,t2,t3⟩:=pj (a:=ε) (b:=nrm V R*lip f R) (δ:=1) hε hm (by decide)
 have fin:∀a b x,u≤a→b≤v→b-a≤t→a≤x→x≤b→ab (evalL f x)≤lip f R*(b-a)→ab (evalL V x*evalL f x)<ε:=by
  intro a b x h1 h2 h3 h4 h5 h6
  have hx:ab x≤R:=aY (show u≤x by grind) (show x≤v by grind) r1 r2
  have e1:=kP hx V
  have e2:=Rat.mul_le_mul_of_nonneg_left h3 (cW hR f)
  rw[fS]
  have e3:=cG e1 (Rat.le_trans h6 e2) (bn _) (Rat.mul_nonneg (cW hR f) (Rat.le_of_lt t1))
  grind
 by_cases he:lo=hi
 ·obtain⟨a,b,n1,n2,n3,n4,n5⟩:=A.Iq hu hv t1
  refine⟨a,b,n1,n2,n3,n4,fun x h1 h2=>fin a b x n1 n2 n5 h1 h2 ?_⟩
  have hz:evalL f lo=0:=by
   rcases A.Jv with ⟨_,k⟩|⟨k,_⟩
   ·exact k
   ·grind
  have k1:a≤lo:=by
   refine Rat.not_lt.1 fun ba => ?_
   have:=A.mono ba (pt he)
   omega
  have k2:lo≤b:=by
   refine Rat.not_lt.1 fun ba => ?_
   have:=A.kJ ba A.rk
   omega
  have hx:ab x≤R:=aY (show u≤x by grind) (show x≤v by grind) r1 r2
  have Ho:ab lo≤R:=aY (show u≤lo by grind) (show lo≤v by grind) r1 r2
  have hd:=qv hx Ho f
  rw[hz] at hd
  have e:evalL f x-0=evalL f x:=by grind
  rw[e] at hd
  have hw:ab (x-lo)≤b-a:=by rcases bb (x-lo) with k|k<;>grind
  exact Rat.le_trans hd (Rat.mul_le_mul_of_nonneg_left hw (cW hR f))
 ·have ba:lo<hi:=by have:=A.le;grind
  obtain⟨a0,b0,i1,i2,i3,i4,i5,i6⟩:=A.inside ba hu hv
  obtain⟨a,b,n1,n2,n3,n4,n5⟩:=A.Iq i5 i6 t1
  refine⟨a,b,by grind,by grind,n3,n4,fun x h1 h2=>fin a b x (by grind) (by grind) n5 h1 h2 ?_⟩
  have hs:=A.GM n3 n4 (Or.inl (by grind)) (Or.inl (by grind)) ba
  have dF:=A.nK n3 n4
  exact mq (aY (show u≤a by grind) (show a≤v by grind) r1 r2) (aY (show u≤b by grind) (show b≤v by grind) r1 r2) (Or.inr (Or.inr hs)) h1 h2
theorem comb(A:dW f lo hi){p g U V:List Rat}(hg:∀x,evalL g x=evalL U x*evalL p x+evalL V x*evalL f x)(hp:Zr f lo hi p):Zr f lo hi g:=fun u v hu hv h=>by
 obtain⟨c,c0,hc⟩:=h
 have Cx:0<c/2:=ji c0 (by decide)
 have R8:c/2+c/2=c:=by rw[Rat.div_def];have:(2:Rat)*2⁻¹=1:=Rat.mul_inv_cancel 2 (by decide);grind
 obtain⟨a,b,n1,n2,n3,n4,n5⟩:=A.Xp V hu hv Cx
 have dF:=A.nK n3 n4
 obtain⟨R,hR,r1,r2⟩:=qw (a:=a) (b:=b)
 have hN:0<nrm U R+1:=by have:=jR hR U;grind
 refine hp a b n3 n4 ⟨c/2/(nrm U R+1),ji Cx hN,fun x h1 h2 => ?_⟩
 have e1:=hc x (by grind) (by grind)
 have e2:=n5 x h1 h2
 rw[hg x] at e1
 have e3:=ml (evalL U x*evalL p x) (evalL V x*evalL f x)
 have e4:c/2≤ab (evalL U x*evalL p x):=by grind
 rw[fS] at e4
 have hx:ab x≤R:=aY h1 h2 r1 r2
 have e5:=Rat.mul_le_mul_of_nonneg_right (show ab (evalL U x)≤nrm U R+1 by have:=kP hx U;grind) (bn (evalL p x))
 refine Rat.not_lt.1 fun ba => ?_
 have e6:=Rat.mul_lt_mul_of_pos_left ba hN
 have e7:(nrm U R+1)*(c/2/(nrm U R+1))=c/2:=by rw[Rat.mul_comm];exact Rat.div_mul_cancel (by grind)
 rw[e7] at e6
 grind
theorem EZ(A:dW f lo hi){p:List Rat}(zp:aK p=false):Zr f lo hi p↔Zr f lo hi (bE p f):=by
 obtain⟨U,V,h⟩:=tJ p f zp A.zf
 exact⟨A.comb h,fun hg=>hg.dv (gT p f zp A.zf).1⟩
theorem E0(A:dW f lo hi){x:Rat}(h:aP f lo hi x=1):∃y,x<y∧aP f lo hi y=1:=by
 by_cases he:lo=hi
 ·have hx:x<lo:=by
   unfold aP at h
   rw[if_pos he] at h
   rcases eM lo x with k|k|k
   ·omega
   ·omega
   ·exact k.1
  obtain⟨t,t1,t2,t3⟩:=pj (a:=lo-x) (b:=1) (δ:=1) (by grind) (by decide) (by decide)
  exact⟨x+t,by grind,A.kJ (y:=lo) (by grind) A.rk⟩
 ·have ba:lo<hi:=by have:=A.le;grind
  by_cases hx:x<lo
  ·exact⟨lo,hx,A.low ba Rat.le_refl⟩
  ·have q:evalL f x≠0∧cS f lo-cS f x=0∧x<hi:=by
    by_cases e:x=lo
    ·subst e;exact⟨(A.ends ba).1,by omega,ba⟩
    ·by_cases e2:hi≤x
     ·rw[A.high ba e2] at h;omega
     ·rcases A.kt ba (x:=x) (by grind) (by grind) with k|k|k
      ·exact⟨k.2.1,k.2.2,by grind⟩
      ·omega
      ·omega
   obtain⟨δ,d0,hd⟩:=rl q.1
   obtain⟨t,t1,t2,t3⟩:=pj (a:=hi-x) (b:=1) (δ:=δ) (by grind) (by decide) d0
   have hk:=xd A.zf A.f0 A.Au (show x≤x+t by grind) (hd.sub (by grind) (by grind))
   refine⟨x+t,by grind,?_⟩
   rcases A.kt ba (x:=x+t) (by grind) (by grind) with k|k|k
   ·exact k.1
   ·have:=hd.ne (x:=x+t) (by grind) (by grind);exact absurd k.2 this
   ·have:=k.2.2;unfold cS at *;omega
theorem JX(A:dW f lo hi){x:Rat}(h:aP f lo hi x = -1):∃y,y<x∧aP f lo hi y = -1:=by
 by_cases he:lo=hi
 ·have hx:lo<x:=by
   unfold aP at h
   rw[if_pos he] at h
   rcases eM lo x with k|k|k
   ·exact k.1
   ·omega
   ·omega
  obtain⟨t,t1,t2,t3⟩:=pj (a:=x-lo) (b:=1) (δ:=1) (by grind) (by decide) (by decide)
  exact⟨x-t,by grind,A.mono (x:=lo) (by grind) (pt he)⟩
 ·have ba:lo<hi:=by have:=A.le;grind
  by_cases hx:hi<x
  ·exact⟨hi,hx,A.high ba Rat.le_refl⟩
  ·have q:evalL f x≠0∧cS f lo-cS f x=1∧lo<x:=by
    by_cases e:x=hi
    ·subst e;exact⟨(A.ends ba).2.1,(A.ends ba).2.2,ba⟩
    ·by_cases e2:x≤lo
     ·rw[A.low ba e2] at h;omega
     ·rcases A.kt ba (x:=x) (by grind) (by grind) with k|k|k
      ·omega
      ·omega
      ·exact⟨k.2.1,k.2.2,by grind⟩
   obtain⟨δ,d0,hd⟩:=rl q.1
   obtain⟨t,t1,t2,t3⟩:=pj (a:=x-lo) (b:=1) (δ:=δ) (by grind) (by decide) d0
   have hk:=xd A.zf A.f0 A.Au (show x-t≤x by grind) (hd.sub (by grind) (by grind))
   refine⟨x-t,by grind,?_⟩
   rcases A.kt ba (x:=x-t) (by grind) (by grind) with k|k|k
   ·have:=k.2.2;unfold cS at *;omega
   ·have:=hd.ne (x:=x-t) (by grind) (by grind);exact absurd k.2 this
   ·exact k.1
theorem qJ(A:dW f lo hi){x:Rat}(hx:aP f lo hi x=0){p:List Rat} : Zr f lo hi p↔evalL p x=0:=by
 constructor
 ·intro h
  refine Classical.byContradiction fun di => ?_
  obtain⟨δ,d0,hd⟩:=rl di
  exact h _ _ (A.kJ (y:=x) (by grind) (by omega)) (A.mono (x:=x) (by grind) (by omega)) hd
 ·intro h u v hu hv ha
  have h1:u≤x:=by
   refine Rat.not_lt.1 fun ba => ?_
   have:=A.mono ba (by omega);omega
  have h2:x≤v:=by
   refine Rat.not_lt.1 fun ba => ?_
   have:=A.kJ ba (by omega);omega
  exact ha.ne h1 h2 h
end dW
def GN(f:List Rat)(lo hi:Rat)(g:List Rat)(lo' hi':Rat):Prop:=∃x,aP f lo hi x = -1∧aP g lo' hi' x=1
def Fk(f:List Rat)(lo hi:Rat)(g:List Rat)(lo' hi':Rat):Prop:=∀x,aP f lo hi x=aP g lo' hi' x
section
variable {f g:List Rat} {lo hi lo' hi':Rat}
theorem xg(A:dW f lo hi)(B:dW g lo' hi')(h:GN f lo hi g lo' hi'):¬Fk f lo hi g lo' hi':=fun e=>by
 obtain⟨x,h1,h2⟩:=h
 rw[e x] at h1;omega
theorem Cb(A:dW f lo hi)(B:dW g lo' hi')(h:GN f lo hi g lo' hi'):¬GN g lo' hi' f lo hi:=fun k=>by
 obtain⟨x,h1,h2⟩:=h
 obtain⟨y,k1,k2⟩:=k
 have a:=A.nK k2 h1
 have b:=B.nK h2 k1
 grind
theorem ym(A:dW f lo hi)(B:dW g lo' hi'){x:Rat}(h:aP f lo hi x<aP g lo' hi' x):GN f lo hi g lo' hi':=by
 rcases A.three x with k|k|k
 ·rcases B.three x with m|m|m<;>omega
 ·rcases B.three x with m|m|m
  ·obtain⟨y,h1,h2⟩:=B.E0 m
   exact⟨y,A.mono h1 (by omega),h2⟩
  ·omega
  ·omega
 ·rcases B.three x with m|m|m
  ·exact⟨x,k,m⟩
  ·obtain⟨y,h1,h2⟩:=A.JX k
   exact⟨y,h2,B.kJ h1 (by omega)⟩
  ·omega
theorem SW(A:dW f lo hi)(B:dW g lo' hi'):GN f lo hi g lo' hi'∨Fk f lo hi g lo' hi'∨GN g lo' hi' f lo hi:=by
 by_cases h:Fk f lo hi g lo' hi'
 ·exact Or.inr (Or.inl h)
 ·obtain⟨x,hx⟩:∃x,aP f lo hi x≠aP g lo' hi' x:=Classical.byContradiction fun Ul=>h (fun x=>Classical.byContradiction fun hx=>Ul ⟨x,hx⟩)
  by_cases ba:aP f lo hi x<aP g lo' hi' x
  ·exact Or.inl (ym A B ba)
  ·exact Or.inr (Or.inr (ym B A (x:=x) (by omega)))
theorem E1(A:dW f lo hi)(B:dW g lo' hi'):Fk f lo hi g lo' hi'↔(Zr f lo hi g∧0≤aP f lo hi lo'∧aP f lo hi hi'≤0):=by
 constructor
 ·intro e
  refine⟨fun u v h1 h2=>B.own u v (by rw[←e u];exact h1) (by rw[←e v];exact h2),by rw[e];exact B.rk,by rw[e];exact B.tN⟩
 ·rintro ⟨hz,h1,h2⟩
  by_cases he:lo'=hi'
  ·have h0:aP f lo hi lo'=0:=by rw[←he] at h2;omega
   intro x
   unfold aP
   rw[if_pos he]
   change aP f lo hi x=_
   rcases eM lo' x with k|k|k
   ·rw[k.2];exact A.mono k.1 (by omega)
   ·rw[k.2,←k.1];exact h0
   ·rw[k.2];exact A.kJ k.1 (by omega)
  ·have ba:lo'<hi':=by have:=B.le;grind
   have E:=B.ends ba
   have l1:aP f lo hi lo'=1:=by
    rcases A.three lo' with k|k|k
    ·exact k
    ·exact absurd ((A.qJ k).1 hz) E.1
    ·omega
   have l2:aP f lo hi hi' = -1:=by
    rcases A.three hi' with k|k|k
    ·omega
    ·exact absurd ((A.qJ k).1 hz) E.2.1
    ·exact k
   rcases SW A B with h|h|h
   ·exfalso
    obtain⟨x,k1,k2⟩:=h
    by_cases e:x≤lo'
    ·have:=A.nK l1 k1;grind
    ·by_cases e2:hi'≤x
     ·rw[B.high ba e2] at k2;omega
     ·rcases B.kt ba (x:=x) (by grind) (by grind) with m|m|m
      ·exact hz lo' x l1 k1 (B.JW ba (by grind) m.2.2)
      ·omega
      ·omega
   ·exact h
   ·exfalso
    obtain⟨x,k1,k2⟩:=h
    by_cases e:x≤lo'
    ·rw[B.low ba e] at k1;omega
    ·by_cases e2:hi'≤x
     ·have:=A.nK k2 l2;grind
     ·rcases B.kt ba (x:=x) (by grind) (by grind) with m|m|m
      ·omega
      ·omega
      ·exact hz x hi' k2 l2 (B.Ax ba (by grind) (by grind) m.2.1 m.2.2)
end
end Go.Proofs.YtllmkadmohkbfaaGreatDoor.Sym
namespace Go.Proofs.YtllmkadmohkbfaaGreatDoor.Sym
set_option linter.unusedVariables false
set_option linter.unusedSectionVars false
namespace dW
variable {f:List Rat} {lo hi:Rat}
theorem Xq(A:dW f lo hi)(ba:lo<hi){u:Rat}(h1:lo≤u)(hu:aP f lo hi u=1):evalL f u≠0∧cS f lo-cS f u=0:=by
 by_cases e:u=lo
 ·subst e;exact⟨(A.ends ba).1,by omega⟩
 ·by_cases e2:hi≤u
  ·rw[A.high ba e2] at hu;omega
  ·rcases A.kt ba (x:=u) (by grind) (by grind) with k|k|k
   ·exact k.2
   ·omega
   ·omega
theorem Um(A:dW f lo hi)(ba:lo<hi){v:Rat}(h2:v≤hi)(hv:aP f lo hi v = -1):evalL f v≠0∧cS f lo-cS f v=1:=by
 by_cases e:v=hi
 ·subst e;exact(A.ends ba).2
 ·by_cases e2:v≤lo
  ·rw[A.low ba e2] at hv;omega
  ·rcases A.kt ba (x:=v) (by grind) (by grind) with k|k|k
   ·omega
   ·omega
   ·exact k.2
theorem ID(A:dW f lo hi)(ba:lo<hi){g:List Rat}(zg:aK g=false)(g0:g≠[])(hd:Dv g f):(0<fG (bA g) lo-fG (bA g) hi)↔Zr f lo hi g:=by
 obtain⟨G1,G2,G3,G4,k, -,G5⟩:=free_spec zg g0
 have E:=A.ends ba
 have Xr:Dv (bH g) f:=G4.trans hd
 have di:∀x,evalL f x≠0→evalL (bH g) x≠0:=fun x hx e=>by
  obtain⟨u,hu⟩:=Xr
  exact hx (by rw[hu x,e];grind)
 have zz:Zr f lo hi g↔Zr f lo hi (bH g):=by
  constructor
  ·intro h u v h1 h2 h3
   exact(h.dv G5) u v h1 h2 (B6 h3 k)
  ·intro h
   exact h.dv G4
 have C6:=nJ G1 G2 G3 (Rat.le_of_lt ba)
 change (0<cS (bH g) lo-cS (bH g) hi)↔_
 rw[zz]
 constructor
 ·intro hc u v hu hv ha
  obtain⟨a,b,i1,i2,i3,i4,i5,i6⟩:=A.inside ba hu hv
  have dF:=A.nK i5 i6
  have l:=A.Xq ba i3 i5
  have r:=A.Um ba i4 i6
  have w1:=Av (A.JW ba i3 l.2) Xr
  have w2:=Av (A.Ax ba (by grind) i4 r.1 r.2) Xr
  have w3:=ha.sub i1 i2
  have hk:=xd G1 G2 G3 (Rat.le_of_lt ba) ((w1.join w3).join w2)
  unfold cS at hc
  omega
 ·intro hz
  refine Classical.byContradiction fun hc => ?_
  exact hz lo hi (A.low ba Rat.le_refl) (A.high ba Rat.le_refl) (rj G1 G2 G3 (Rat.le_of_lt ba) (by unfold cS at hc;omega) (di _ E.1))
theorem tO(A:dW f lo hi)(p:List Rat)(zp:aK p=false):bE p f≠[]:=ox (ke _ _ _ zp A.zf) (xc _ _ _ (Or.inr ⟨A.f0,by omega⟩))
theorem Nj(A:dW f lo hi){g:List Rat}(zg:aK g=false)(g0:g≠[])(hl:g.length<2):¬Zr f lo hi g:=fun h=>by
 have:=List.length_pos_iff.2 g0
 obtain⟨c,rfl⟩:∃c,g=[c]:=List.length_eq_one_iff.1 (by omega)
 have hc:c≠0:=cE zg g0
 exact h _ _ A.Vh.1 A.Vh.2 ⟨ab c,vR hc,fun x _ _=>by rw[dL];exact Rat.le_refl⟩
end dW
def KV(p f:List Rat)(lo hi:Rat):Bool :=
 if p.length=0 then true else if (bE p f).length<2 then false else if lo=hi then decide (evalL (bE p f) lo=0) else decide (0<fG (bA (bE p f)) lo-fG (bA (bE p f)) hi)
def CT(p f:List Rat)(lo hi:Rat):Bool :=
 if p.length=0 then true else if lo=hi then decide (evalL p lo=0) else decide (0<fG (bA (bE p f)) lo-fG (bA (bE p f)) hi)
theorem JY{f:List Rat}{lo hi:Rat}(A:dW f lo hi):Zr f lo hi []:=fun u v hu hv ⟨c,c0,h⟩=>by
 have:=h u Rat.le_refl (Rat.le_of_lt (A.nK hu hv))
 change c≤ab 0 at this
 rw[ot] at this
 grind
theorem rm{f:List Rat}{lo hi:Rat}(he:lo=hi):aP f lo hi lo=0:=by unfold aP;rw[if_pos he,gY]
theorem Nk{f:List Rat}{lo hi:Rat}(A:dW f lo hi){p:List Rat}(zp:aK p=false):KV p f lo hi=true↔Zr f lo hi p:=by
 unfold KV
 by_cases h0:p.length=0
 ·rw[if_pos h0,List.eq_nil_of_length_eq_zero h0]
  exact⟨fun _=>JY A,fun _=>rfl⟩
 ·rw[if_neg h0]
  have Ak:=A.tO p zp
  have zg:=eu p f
  by_cases h2:(bE p f).length<2
  ·rw[if_pos h2]
   refine⟨fun h=>absurd h (by decide),fun h => ?_⟩
   exact absurd ((A.EZ zp).1 h) (A.Nj zg Ak h2)
  ·rw[if_neg h2]
   by_cases he:lo=hi
   ·rw[if_pos he,decide_eq_true_iff,A.EZ zp,A.qJ (rm he)]
   ·rw[if_neg he,decide_eq_true_iff,A.EZ zp,A.ID (by have:=A.le;grind) zg Ak (gT p f zp A.zf).2]
theorem rn{f:List Rat}{lo hi:Rat}(A:dW f lo hi){p:List Rat}(zp:aK p=false):CT p f lo hi=true↔Zr f lo hi p:=by
 unfold CT
 by_cases h0:p.length=0
 ·rw[if_pos h0,List.eq_nil_of_length_eq_zero h0]
  exact⟨fun _=>JY A,fun _=>rfl⟩
 ·rw[if_neg h0]
  have Ak:=A.tO p zp
  have zg:=eu p f
  by_cases he:lo=hi
  ·rw[if_pos he,decide_eq_true_iff,A.qJ (rm he)]
  ·rw[if_neg he,decide_eq_true_iff,A.EZ zp,A.ID (by have:=A.le;grind) zg Ak (gT p f zp A.zf).2]
def midQ(lo hi:Rat):Rat:=Rat.divInt 1 2*(lo+hi)
def dY(f:List Rat)(lo hi:Rat):Rat×Rat :=
 if lo=hi then (lo,hi) else if aP f lo hi (midQ lo hi)=0 then (midQ lo hi,midQ lo hi) else if aP f lo hi (midQ lo hi)=1 then (midQ lo hi,hi) else (lo,midQ lo hi)
theorem xh(lo hi:Rat):midQ lo hi+midQ lo hi=lo+hi:=by
 unfold midQ
 have:Rat.divInt 1 2+Rat.divInt 1 2=1:=by decide +kernel
 grind
theorem fy{f:List Rat}{lo hi:Rat}(A:dW f lo hi):dW f (dY f lo hi).1 (dY f lo hi).2∧(∀x,aP f (dY f lo hi).1 (dY f lo hi).2 x=aP f lo hi x)∧lo≤(dY f lo hi).1∧(dY f lo hi).2≤hi∧((dY f lo hi).2-(dY f lo hi).1)+((dY f lo hi).2-(dY f lo hi).1)≤hi-lo:=by
 have hle:=A.le
 have hm:=xh lo hi
 unfold dY
 by_cases he:lo=hi
 ·rw[if_pos he]
  exact⟨A,fun _=>rfl,Rat.le_refl,Rat.le_refl,by subst he;grind⟩
 ·have ba:lo<hi:=by grind
  rw[if_neg he]
  generalize midQ lo hi=m at *
  rcases A.three m with k|k|k
  ·rw[if_neg (by omega),if_pos k]
   obtain⟨s1,s2⟩:=A.sub (u:=m) (v:=hi) (by grind) Rat.le_refl (Or.inr ⟨by grind,k,A.high ba Rat.le_refl⟩)
   exact⟨s1,s2,by grind,Rat.le_refl,by grind⟩
  ·rw[if_pos k]
   obtain⟨s1,s2⟩:=A.sub (u:=m) (v:=m) (by grind) (by grind) (Or.inl ⟨rfl,k⟩)
   exact⟨s1,s2,by grind,by grind,by grind⟩
  ·rw[if_neg (by omega),if_neg (by omega)]
   obtain⟨s1,s2⟩:=A.sub (u:=lo) (v:=m) Rat.le_refl (by grind) (Or.inr ⟨by grind,A.low ba Rat.le_refl,k⟩)
   exact⟨s1,s2,Rat.le_refl,by grind,by grind⟩
end Go.Proofs.YtllmkadmohkbfaaGreatDoor.Sym
namespace Go.Proofs.YtllmkadmohkbfaaGreatDoor.Sym
open Go Path cP
set_option linter.unusedVariables false
abbrev pq(q:List Rat):PV:=ae (q.map aJ)
theorem getM{q:List Rat}{n:Nat}{v:Rat}(h:q[n]? = some v):(q.map aJ)[n]? = some (aJ v):=by rw[List.getElem?_map,h];rfl
theorem bJ(q:List Rat):(q.map aJ).length=q.length:=List.length_map ..
theorem sS{k:Nat}{q:List Rat}(h:Fl k q)(hk:k≤68719476736):lh 274877906944 (q.map aJ):=Ap (eA h (by omega))
def zT(p q:List af):Int:=if py p=0 then py q else py p
theorem xi{m t:Nat}{f g:Nat→Rat}{v:Rat}(ht:t<m)(hv:f t=v)(ho:∀i,i≠t→f i=g i):((kH m g).map aJ).set t (aJ v)=(kH m f).map aJ:=by
 rw[←List.map_set,M3 g v ht]
 congr 1
 refine Ix (fun i _ => ?_)
 split
 ·rename_i e;rw[e,hv]
 ·rename_i e;exact(ho i e).symm
namespace Ay
theorem Trim{k:Nat}(q:List Rat)(hl:q.length≤1000000)(hf:Fl k q)(hk:k≤68719476736):Cp 182 [pq q] (pq (aL q)):=by
 have:=Hs.Trim (q.map aJ) (by rw[bJ];omega) (sS hf hk)
 rwa[eS] at this
theorem zv(p:List Rat)(t:Nat):Cp 212 [pq p,vI (t:Int)] (aJ (coef p t)).pv:=by
 by_cases h:t<p.length
 ·exact mO.e0 _ _ t _ (by rw[bJ];omega) rfl (getM (pf h))
 ·rw[c9 (by omega)]
  exact mO.e1 _ _ (by rw[bJ];omega)
theorem plus{a b d:Nat}(p q:List Rat)(c:Rat)(IE:p.length≤100000)(Xs:q.length≤100000)(hp:Fl a p)(hq:Fl b q)(hc:ht c≤d)(ha:1≤a)(hb:1≤b)(hk:a+b+d+1≤68719476736):Cp 127 [pq p,pq q,(aJ c).pv] (pq (aL (cY p (a6 c q)))):=by
 have Cc:∀i,ht (coef p i)≤a∧ht (coef q i)≤b:=fun i=>⟨ur hp ha i,ur hq hb i⟩
 have Kr:max (p.map aJ).length (q.map aJ).length=max p.length q.length:=by rw[bJ,bJ]
 have loop:∀(j t:Nat),max p.length q.length-t=j→q8.ah (p.map aJ) (q.map aJ) t (aJ c) ((kH (max p.length q.length) (fun i=>if i<t then coef p i+c*coef q i else 0)).map aJ) (pq (aL (cY p (a6 c q)))):=by
  intro j
  induction j with
  |zero =>
   intro t hj
   have e:aL (cY p (a6 c q))=aL (kH (max p.length q.length) (fun i=>if i<t then coef p i+c*coef q i else 0)):=by
    refine kc (fun i => ?_)
    rw[fX,ct]
    by_cases hi:i<max p.length q.length
    ·rw[ni (gR _ hi),if_pos (by omega)]
    ·rw[c9 (p:=kH _ _) (by rw[cZ];omega),c9 (p:=p) (by omega),c9 (p:=q) (by omega)];grind
   rw[e]
   refine q8.cR _ _ t _ _ _ (by omega) (by rw[Kr,bJ,cZ]) (Trim (k:=a+b+d+1) _ (by rw[cZ];omega) (lj (fun i => ?_)) hk)
   obtain⟨c1,c2⟩:=Cc i
   have h1:=fw c (coef q i)
   have h2:=mT (coef p i) (c*coef q i)
   have h0:=jA
   by_cases hi:i<max p.length q.length
   ·rw[ni (gR _ hi),if_pos (by omega)];omega
   ·rw[c9 (p:=kH _ _) (by rw[cZ];omega),h0];omega
  |succ j ih =>
   intro t hj
   obtain⟨c1,c2⟩:=Cc t
   have h1:=fw c (coef q t)
   refine q8.l10 _ _ t _ _ _ _ _ _ (by omega) (zv p t) (zv q t) (QF.Mul c (coef q t) (by omega) (by omega)) (QF.Add (coef p t) (c*coef q t) (by omega) (by omega)) (by rw[bJ,cZ];omega) (by omega) ?_
   rw[xi (f:=fun i=>if i<t+1 then coef p i+c*coef q i else 0) (by omega) (if_pos (by omega)) (fun i hi=>by
    by_cases h:i<t
    ·rw[if_pos h,if_pos (by omega)]
    ·rw[if_neg h,if_neg (by omega)])]
   exact ih (t+1) (by omega)
 have:=loop _ 0 rfl
 refine q8.e0 _ _ _ (by omega) ?_
 rw[Kr,DI]
 exact this
theorem ux(p q:List af)(hp:lh 274877906944 p)(hq:lh 274877906944 q):Cp 125 [dj (aC af.cells) [p,q]] (bw (pc (zT p q))):=by
 have h1:=Hs.Check p hp
 have h2:=Hs.Check q hq
 refine jH.e0 [p,q] ?_
 unfold zT
 by_cases e:py p=0
 ·rw[if_pos e]
  rw[e] at h1
  refine jH.l10 _ 0 p (by simp) rfl h1 (by omega) ?_
  by_cases e2:py q=0
  ·rw[e2] at h2 ⊢
   exact jH.l10 _ 1 q (by simp) rfl h2 (by omega) (jH.kM _ 2 (by simp))
  ·rw[jO e2] at h2 ⊢
   exact jH.cR _ 1 q _ (by simp) rfl h2
 ·rw[if_neg e]
  rw[jO e] at h1 ⊢
  exact jH.cR _ 0 p _ (by simp) rfl h1
end Ay
namespace CU
theorem Trim{k:Nat}(q:List Rat)(hl:q.length≤1000000)(hf:Fl k q)(hk:k≤68719476736):Cp 106 [pq q] (pq (aL q)):=by
 have:=Iv.Trim (q.map aJ) (by rw[bJ];omega) (sS hf hk)
 rwa[eS] at this
theorem plus{a b d:Nat}(p q:List Rat)(c:Rat)(s:Nat)(IE:p.length≤100000)(Xs:q.length+s≤100000)(hp:Fl a p)(hq:Fl b q)(hc:ht c≤d)(ha:1≤a)(hb:1≤b)(hk:a+b+d+1≤68719476736):Cp 244 [pq p,pq q,(aJ c).pv,vI (s:Int)] (pq (aL (cY p (fc s (a6 c q))))):=by
 have Cc:∀i,ht (coef p i)≤a∧ht (coef q i)≤b:=fun i=>⟨ur hp ha i,ur hq hb i⟩
 have bd:∀i j,ht (coef p i+c*coef q j)≤a+b+d+1:=by
  intro i j
  have c1:=(Cc i).1
  have c2:=(Cc j).2
  have h1:=fw c (coef q j)
  have h2:=mT (coef p i) (c*coef q j)
  omega
 have loop:∀(j t:Nat),q.length-t=j→t≤q.length→gr.ah (s:Int) (max p.length (q.length+s)) (q.map aJ) t (aJ c) ((kH (max p.length (q.length+s)) (fun i=>if s≤i∧i<s+t then coef p i+c*coef q (i-s) else coef p i)).map aJ) (pq (aL (cY p (fc s (a6 c q))))):=by
  intro j
  induction j with
  |zero =>
   intro t hj ht
   have e:aL (cY p (fc s (a6 c q)))=aL (kH (max p.length (q.length+s)) (fun i=>if s≤i∧i<s+t then coef p i+c*coef q (i-s) else coef p i)):=by
    refine kc (fun i => ?_)
    rw[fX,jP,ct]
    by_cases hi:i<max p.length (q.length+s)
    ·rw[ni (gR _ hi)]
     by_cases h1:i<s
     ·rw[if_pos h1,if_neg (by omega),Rat.add_zero]
     ·rw[if_neg h1]
      by_cases h2:i<s+t
      ·rw[if_pos (by omega)]
      ·rw[if_neg (by omega),c9 (p:=q) (by omega),Rat.mul_zero,Rat.add_zero]
    ·rw[c9 (p:=kH _ _) (by rw[cZ];omega),c9 (p:=p) (by omega),if_neg (by omega),c9 (p:=q) (by omega)];grind
   rw[e]
   refine gr.cR _ _ _ t _ _ _ (by rw[bJ];omega) (by rw[bJ,cZ]) (Trim (k:=a+b+d+1) _ (by rw[cZ];omega) (lj (fun i => ?_)) hk)
   have h0:=jA
   by_cases hi:i<max p.length (q.length+s)
   ·rw[ni (gR _ hi)]
    split
    ·exact bd _ _
    ·have:=(Cc i).1;omega
   ·rw[c9 (p:=kH _ _) (by rw[cZ];omega),h0];omega
  |succ j ih =>
   intro t hj ht
   obtain⟨w,hw⟩:∃w,q[t]? = some w:=⟨_,List.getElem?_eq_getElem (by omega)⟩
   have hwh:=hq w (List.mem_of_getElem? hw)
   have c1:=(Cc (t+s)).1
   have h1:=fw c w
   have hg:t+s<max p.length (q.length+s):=by omega
   refine gr.l10 _ _ _ t _ _ (aJ w) (t+s) (aJ (coef p (t+s))) _ _ (t+s) (by rw[bJ];omega) (getM hw) (by unfold ax;omega) (by omega) hg ?_ (QR.Mul c w (by omega) (by omega)) (QR.Add (coef p (t+s)) (c*w) (by omega) (by omega)) (by omega) hg (by rw[bJ,cZ];omega) (by omega) ?_
   ·rw[getM (gR _ hg),if_neg (by omega)]
   ·rw[xi (f:=fun i=>if s≤i∧i<s+(t+1) then coef p i+c*coef q (i-s) else coef p i) hg (by
     rw[if_pos (by omega),show t+s-s=t from by omega,ni hw]) (fun i hi=>by
     by_cases h:s≤i∧i<s+t
     ·rw[if_pos h,if_pos (by omega)]
     ·rw[if_neg h,if_neg (by omega)])]
    exact ih (t+1) (by omega) (by omega)
 have:=loop _ 0 rfl (by omega)
 have aI:(p.map aJ).take (min (p.map aJ).length (max p.length (q.length+s)))++(List.replicate (max p.length (q.length+s)) (⟨false,[],[]⟩:af)).drop (min (p.map aJ).length (max p.length (q.length+s)))=(kH (max p.length (q.length+s)) (fun i=>if s≤i∧i<s+0 then coef p i+c*coef q (i-s) else coef p i)).map aJ:=by
  rw[bJ,Nat.min_eq_left (by omega),List.take_of_length_le (by rw[bJ];omega)]
  refine List.ext_getElem? fun i => ?_
  by_cases hi:i<max p.length (q.length+s)
  ·rw[getM (gR _ hi),if_neg (by omega)]
   by_cases h2:i<p.length
   ·rw[List.getElem?_append_left (by rw[bJ];exact h2),getM (pf h2)]
   ·rw[List.getElem?_append_right (by rw[bJ];omega),List.getElem?_drop,List.getElem?_replicate,bJ,if_pos (by omega),c9 (by omega)];rfl
  ·rw[List.getElem?_eq_none (by rw[List.length_append,bJ,List.length_drop,List.length_replicate];omega),List.getElem?_eq_none (by rw[bJ,cZ];omega)]
 refine gr.e0 _ _ _ _ (max p.length (q.length+s)) (by rw[bJ];unfold ax;omega) (by rw[bJ,bJ];omega) (by omega) (by rw[bJ,List.length_replicate];omega) ?_
 rw[aI]
 exact this
theorem both(p q:List af)(hp:lh 274877906944 p)(hq:lh 274877906944 q):Cp 167 [ae p,ae q] (vI (zT p q)):=by
 have h1:=Iv.Check p hp
 have h2:=Iv.Check q hq
 unfold zT
 by_cases e:py p=0
 ·rw[if_pos e]
  exact kZ.e1 _ _ _ _ h1 e h2
 ·rw[if_neg e]
  exact kZ.e0 _ _ _ h1 e
end CU
theorem getTop{q:List Rat}(h:q≠[]):q[q.length-1]? = some (bX q):=pf (by have:=List.length_pos_iff.2 h;omega)
theorem yn{h:Nat}{q:List Rat}(hq:Ch h q)(h1:1≤h):ht (bX q)≤h:=by have:=hq.ht (q.length-1);unfold bX;omega
namespace Ay
theorem Sb:∀(n:Nat) (q:List Rat),q.length=n→n<4611686018427387904→Fl 274877906944 q→iR.bK (q.map aJ) [] (.row 0 0 ((aL q).map aJ).length 3) [(0,(.pure (((aL q).map aJ).map af.cells).flatten))]:=by
 intro n
 induction n with
 |zero =>
  intro q hq _ _
  have:q=[]:=List.eq_nil_of_length_eq_zero hq
  subst this
  exact iR.Mt [] rfl rfl (by simp)
 |succ n ih =>
  intro q hq hb hf
  obtain⟨v,hv⟩:∃v,q[n]? = some v:=⟨_,List.getElem?_eq_getElem (by omega)⟩
  have hs:=EO hv hq
  have hm:(q.map aJ)[n]? = some (aJ v):=by rw[List.getElem?_map,hv];rfl
  have BM:=hf v (List.mem_of_getElem? hv)
  have sg:=um.Sign (aJ v) (iS BM)
  rw[bl] at sg
  have hl:(q.map aJ).length=n+1:=by rw[List.length_map];exact hq
  by_cases h0:v=0
  ·have e:aL q=aL (q.take n):=by
    conv=>lhs;rw[hs,h0,sk]
   rw[e]
   refine iR.Ac (q.map aJ) n (aJ v) _ n rfl (by omega) (by unfold ax;omega) (by omega) (by omega) hm sg (ew.2 h0) (by omega) (by omega) ?_
   have:=ih (q.take n) (by rw[List.length_take];omega) (by omega) (fun x hx=>hf x (List.mem_of_mem_take hx))
   rwa[List.map_take] at this
  ·have e:aL q=q:=by rw[hs,w7 h0]
   rw[e]
   exact iR.CN (q.map aJ) n (aJ v) _ rfl rfl (by omega) (by unfold ax;omega) (by omega) (by omega) hm sg (fun e=>h0 (ew.1 e))
theorem Qm{k:Nat}(q:List Rat)(hl:q.length≤1000000)(hf:Fl k q)(hk:k≤68719476736):av bp 182 [.pv (pq q)] [] (.row 0 0 ((aL q).map aJ).length 3) [(0,(.pure (((aL q).map aJ).map af.cells).flatten))]:=by
 have loop:∀(j t:Nat) (site:List af),q.length-t=j→t≤q.length→site=(q.take t).map aJ→iR.ah site (q.map aJ) t [] (.row 0 0 ((aL q).map aJ).length 3) [(0,(.pure (((aL q).map aJ).map af.cells).flatten))]:=by
  intro j
  induction j with
  |zero =>
   intro t site hj ht hs
   refine iR.cR site _ _ rfl (by rw[bJ];omega) ?_
   rw[List.take_of_length_le (by omega)] at hs
   rw[hs]
   exact Sb q.length q rfl (by omega) (eA hf (by omega))
  |succ j ih =>
   intro t site hj ht hs
   obtain⟨v,hv⟩:∃v,q[t]? = some v:=⟨_,List.getElem?_eq_getElem (by omega)⟩
   have hvh:=hf v (List.mem_of_getElem? hv)
   have SS:site.length=t:=by rw[hs,List.length_map,List.length_take];omega
   refine iR.l10 site _ t _ _ rfl (by rw[bJ];omega) (getM hv) (QF.uM v (by omega)) (by simp;omega) (by omega) (ih (t+1) _ (by omega) (by omega) ?_)
   rw[hs,List.take_add_one,hv];simp
 exact iR.e0 _ (loop _ 0 [] rfl (by omega) rfl)
theorem ku{h b:Nat}(p q:List Rat)(hz:aK q=false)(nP:q≠[])(hp:Ch h p)(hq:Ch b q)(h1:1≤h)(qO:1≤b)(IE:p.length≤10000)(Xs:q.length≤10000)(hk:2*(h+(p.length+1-q.length)*(b+1))+3*b+5≤68719476736):Cp 153 [pq p,pq q] (.aB [pq (cX p q).1,pq (cX p q).2]):=by
 have Cw:=List.length_pos_iff.2 nP
 have YY:=yn hq qO
 have zU:=cE hz nP
 obtain⟨H,hH⟩:∃H,H=h+(p.length+1-q.length)*(b+1):=⟨_,rfl⟩
 rw[←hH] at hk
 have YZ:∀i,ht (coef q i)≤b:=fun i=>by have:=hq.ht i;omega
 have loop:∀(n hc:Nat) (out rest:List Rat),rest.length<n→1≤hc→Ch hc rest→hc+(rest.length+1-q.length)*(b+1)≤H→aK out=false→aK rest=false→out.length≤p.length+1-q.length→rest.length≤p.length→(∀i,ht (coef out i)≤H+b)→(∀i,i+q.length≤rest.length→coef out i=0) →
   iC.ah (q.map aJ) (rest.map aJ).length (p.length+1-q.length) (aJ (bX q)) (rest.map aJ) ((kH (p.length+1-q.length) (coef out)).map aJ) (.aB [pq (nW n out rest q).1,pq (nW n out rest q).2]):=by
  intro n
  induction n with
  |zero=>intro hc out rest hn;omega
  |succ n ih =>
   intro hc out rest hn zk hr Xt zo zr lo lr ho HN
   rw[nW]
   cases hb:Nat.blt rest.length q.length with
   |true =>
    have ba:=xa.1 hb
    rw[cond_true]
    have e:aL (kH (p.length+1-q.length) (coef out))=out:=by
     rw[←kE zo]
     refine kc (fun i => ?_)
     rw[kE zo]
     exact DJ (fun i hi=>c9 (by omega)) i
    have ht:=Trim (k:=H+b) (kH (p.length+1-q.length) (coef out)) (by rw[cZ];omega) (lj (fun i=>by
     rw[DJ (fun i hi=>c9 (by omega))];exact ho i)) (by omega)
    rw[e] at ht
    exact iC.cR _ _ _ _ _ _ _ (by rw[bJ,bJ];exact ba) (by rw[bJ,cZ]) ht rfl
   |false =>
    have hle:=uu.1 hb
    rw[cond_false]
    have C3:rest≠[]:=by intro e;rw[e] at hle;simp at hle;exact nP hle
    have Va:=yn hr zk
    have Q4:∀i,ht (coef rest i)≤hc:=fun i=>by have:=hr.ht i;omega
    have SS:=ow zU (by omega) hle
    have e1:rest.length+1-q.length=(rest.length-q.length)+1:=by omega
    have e2:((mD rest q).length+1-q.length)*(b+1)≤(rest.length-q.length)*(b+1):=Nat.mul_le_mul_right _ (by omega)
    rw[e1,Nat.add_mul,Nat.one_mul] at Xt
    have R8:ht (stepC rest q)≤hc+b:=by
     have:=nV (bX rest) (bX q)
     unfold stepC;omega
    have hdiv:=QF.Div (bX rest) (bX q) (by omega) (by omega) zU
    have cc:∀i,coef (aL (cY out (fc (rest.length-q.length) [stepC rest q]))) i=if i=rest.length-q.length then stepC rest q else coef out i:=by
     intro i
     rw[dC,fX,jP]
     by_cases h3:i=rest.length-q.length
     ·rw[if_pos h3,if_neg (by omega),HN i (by omega),h3,Nat.sub_self,uq,Rat.zero_add]
     ·rw[if_neg h3]
      split
      ·rw[Rat.add_zero]
      ·rw[c9 (p:=[stepC rest q]) (by simp;omega),Rat.add_zero]
    refine iC.l10 _ _ _ _ _ _ (rest.length-1) (aJ (bX rest)) (aJ (stepC rest q)) none (rest.length-q.length) (by rw[bJ,bJ];exact hle) (by rw[bJ,bJ];unfold ax;omega) (by rw[bJ];unfold ax;omega) (by rw[bJ];omega) (by rw[bJ];omega) (getM (getTop C3)) hdiv (by rw[bJ,bJ];omega) (by omega) (by rw[bJ,cZ];omega) ?_
    rw[xi (f:=coef (aL (cY out (fc (rest.length-q.length) [stepC rest q])))) (by omega) (by rw[cc,if_pos rfl]) (fun i hi=>by rw[cc,if_neg hi])]
    have next:=ih (hc+b+1) (aL (cY out (fc (rest.length-q.length) [stepC rest q]))) (mD rest q) (by omega) (by omega) (hr.step hq zU) (by omega) (bh _) (bh _) (tH (fun i hi=>by
     rw[←dC,cc,if_neg (by omega),c9 (by omega)])) (by omega) (fun i=>by
     rw[cc]
     split
     ·omega
     ·exact ho i) (fun i hi=>by rw[cc,if_neg (by omega)];exact HN i (by omega))
    have inner:∀(j t:Nat),q.length-t=j→t≤q.length→iC.bK (q.map aJ) (rest.map aJ).length (p.length+1-q.length) (((rest.map aJ).length:Int)-((q.map aJ).length:Int)) t (aJ (bX q)) (aJ (stepC rest q)) ((kH rest.length (fun i=>coef rest i-if rest.length-q.length≤i∧i<rest.length-q.length+t then stepC rest q*coef q (i-(rest.length-q.length)) else 0)).map aJ) ((kH (p.length+1-q.length) (coef (aL (cY out (fc (rest.length-q.length) [stepC rest q]))))).map aJ)
      (.aB [pq (nW n (aL (cY out (fc (rest.length-q.length) [stepC rest q]))) (mD rest q) q).1,pq (nW n (aL (cY out (fc (rest.length-q.length) [stepC rest q]))) (mD rest q) q).2]):=by
     intro j
     induction j with
     |zero =>
      intro t hj ht
      have e:aL (kH rest.length (fun i=>coef rest i-if rest.length-q.length≤i∧i<rest.length-q.length+t then stepC rest q*coef q (i-(rest.length-q.length)) else 0))=mD rest q:=by
       refine kc (fun i => ?_)
       rw[fX,jP,ct]
       by_cases hi:i<rest.length
       ·rw[ni (gR _ hi)]
        by_cases h3:i<rest.length-q.length
        ·rw[if_neg (by omega),if_pos h3];grind
        ·rw[if_pos (by omega),if_neg h3];grind
       ·rw[c9 (p:=kH _ _) (by rw[cZ];omega),c9 (p:=rest) (by omega),if_neg (by omega),c9 (p:=q) (by omega)];grind
      have Vj:=Qm (k:=2*hc+2*b+1) (kH rest.length (fun i=>coef rest i-if rest.length-q.length≤i∧i<rest.length-q.length+t then stepC rest q*coef q (i-(rest.length-q.length)) else 0)) (by rw[cZ];omega) (lj (fun i=>by
       by_cases hi:i<rest.length
       ·rw[ni (gR _ hi)]
        have a1:=Q4 i
        have a2:=YZ (i-(rest.length-q.length))
        have a3:=fw (stepC rest q) (coef q (i-(rest.length-q.length)))
        have a4:=sj (coef rest i) (stepC rest q*coef q (i-(rest.length-q.length)))
        split
        ·omega
        ·rw[show coef rest i-0=coef rest i from by grind];omega
       ·rw[c9 (p:=kH _ _) (by rw[cZ];omega),jA];omega)) (by omega)
      rw[e] at Vj
      exact iC.CN _ _ _ _ _ _ _ _ _ _ _ (by rw[bJ];omega) (by rw[bJ,bJ,cZ]) Vj next
     |succ j VZ =>
      intro t hj ht
      obtain⟨w,hw⟩:∃w,q[t]? = some w:=⟨_,List.getElem?_eq_getElem (by omega)⟩
      have Y0:=ni hw
      have a2:=YZ t
      rw[Y0] at a2
      have a1:=Q4 (rest.length-q.length+t)
      have a3:=fw (stepC rest q) w
      have hg:rest.length-q.length+t<rest.length:=by omega
      refine iC.Ac _ _ _ _ _ _ _ _ _ (aJ w) (rest.length-q.length+t) (aJ (coef rest (rest.length-q.length+t))) _ _ (rest.length-q.length+t) (by rw[bJ];omega) (getM hw) (by rw[bJ,bJ];unfold ax;omega) (by rw[bJ,bJ];omega) (by rw[bJ];omega) ?_ (QF.Mul _ _ (by omega) (by omega)) (QF.Sub (coef rest (rest.length-q.length+t)) (stepC rest q*w) (by omega) (by omega)) (by rw[bJ,bJ];omega) (by rw[bJ];omega) (by rw[bJ,cZ];omega) (by omega) ?_
      ·rw[getM (gR _ hg),if_neg (by omega)]
       congr 2;grind
      ·rw[xi (f:=fun i=>coef rest i-if rest.length-q.length≤i∧i<rest.length-q.length+(t+1) then stepC rest q*coef q (i-(rest.length-q.length)) else 0) hg (by
        rw[if_pos (by omega),show rest.length-q.length+t-(rest.length-q.length)=t from by omega,Y0]) (fun i hi=>by
        by_cases h:rest.length-q.length≤i∧i<rest.length-q.length+t
        ·rw[if_pos h,if_pos (by omega)]
        ·rw[if_neg h,if_neg (by omega)])]
       exact VZ (t+1) (by omega) (by omega)
    have:=inner _ 0 rfl (by omega)
    have e0:(kH rest.length (fun i=>coef rest i-if rest.length-q.length≤i∧i<rest.length-q.length+0 then stepC rest q*coef q (i-(rest.length-q.length)) else 0))=rest:=by
     refine List.ext_getElem? (fun i => ?_)
     by_cases hi:i<rest.length
     ·rw[gR _ hi,pf hi,if_neg (by omega)]
      congr 1;grind
     ·rw[List.getElem?_eq_none (by rw[cZ];omega),List.getElem?_eq_none (by omega)]
    rwa[e0] at this
 have ba:=gH p
 have hmul:((aL p).length+1-q.length)*(b+1)≤(p.length+1-q.length)*(b+1):=Nat.mul_le_mul_right _ (by omega)
 have:=loop (p.length+1) h [] (aL p) (by omega) h1 hp.trim (by omega) rfl (bh p) (by simp) ba (fun i=>by rw[kF,jA];omega) (fun i _=>rfl)
 have Vj:=Qm (k:=h) p (by omega) (hp.fl h1) (by omega)
 refine iC.e0 _ _ _ _ (p.length+1-q.length) (q.length-1) (aJ (bX q)) Vj (by rw[bJ,bJ];unfold ax;omega) (by rw[bJ,bJ];unfold ax;omega) (by rw[bJ,bJ];omega) (by omega) (by rw[bJ];unfold ax;omega) (by rw[bJ];omega) (getM (getTop nP)) ?_
 rw[DI]
 exact this
theorem fx{h:Nat}(p:List Rat)(hz:aK p=false)(hp:Ch h p)(h1:1≤h)(hl:p.length≤10000)(hk:3*h+3≤68719476736):Cp 156 [pq p] (pq (bP p)):=by
 by_cases h0:p=[]
 ·subst h0;exact vE.e0 _ rfl
 ·have zU:=cE hz h0
  have htp:=yn hp h1
  have iY:=List.length_pos_iff.2 h0
  have xj:=um.Of 1 (by unfold ax;omega)
  have z1:ht ((1:Int):Rat)=1:=by decide
  have hd:=QF.Div ((1:Int):Rat) (bX p) (by omega) (by omega) zU
  have b1:=nV ((1:Int):Rat) (bX p)
  have I1:=plus (a:=1) (d:=h+1) [] p (((1:Int):Rat)/bX p) (by simp) (by omega) (fun x hx=>by cases hx) (hp.fl h1) (by omega) (by omega) h1 (by omega)
  have e:aL (cY [] (a6 (((1:Int):Rat)/bX p) p))=bP p:=rfl
  rw[e] at I1
  exact vE.e1 _ _ (p.length-1) _ _ none _ (by rw[bJ];omega) xj (by rw[bJ];unfold ax;omega) (by rw[bJ];omega) (getM (getTop h0)) hd I1
theorem gcd{a b N i j:Nat}(ha:1≤a)(dF:a≤b)(hN:N≤1000)(hk:4*xB a b (N+2)+10≤68719476736)(p q:List Rat)(e:v8 a b N i j p q)(hl:p.length≤10000):Cp 154 [pq p,pq q] (pq (bE p q)):=by
 have hx:xB a b (N+2)=xB a b N+2*(xB a b (N+1)+1):=rfl
 have x1:∀j,1≤xB a b j:=fun j=>Nat.le_trans ha (cz a b dF (i:=0) (Nat.zero_le _))
 have loop:∀(n i j:Nat) (p q:List Rat),q.length<n→v8 a b N i j p q→p.length≤10000→je.ah (p.map aJ) (q.map aJ) (pq (bP (gB n p q))):=by
  intro n
  induction n with
  |zero=>intro i j p q hn;omega
  |succ n ih =>
   intro i j p q hn e hl
   have hi:=e.idx
   have xU:=e.lt
   rw[gB]
   by_cases h:q.length=0
   ·rw[beq_iff.2 h,cond_true]
    have:=cz a b dF (i:=i) (j:=N+1) (by omega)
    exact je.cR _ _ _ (by rw[bJ];omega) (fx p e.zp e.hp (x1 i) hl (by omega))
   ·have di:q≠[]:=fun e=>h (by rw[e];rfl)
    rw[fh.2 h,cond_false]
    obtain⟨r1,r2⟩:=e.rest dF di
    have hz:=cL p q
    have hlen:=e.len
    have SU:=e.bound
    have b1:=cz a b dF (i:=j+(p.length-q.length)) (j:=N+1) (by omega)
    have hd:=ku p q e.zq di e.hp e.hq (x1 i) (x1 j) hl (by omega) (by
     obtain⟨j',rfl⟩:∃j',j=j'+1:=⟨j-1,by omega⟩
     obtain⟨d,hd⟩:∃d,p.length-q.length=d+1:=⟨p.length-q.length-1,by omega⟩
     have h2:=cz a b dF (i:=i) (j:=j') (by omega)
     have h3:=sv a b dF j' d
     have h4:=cz a b dF (i:=j'+1+(d+1)) (j:=N+1) (by omega)
     have h5:=cz a b dF (i:=j'+1) (j:=N) (by omega)
     rw[show p.length+1-q.length=d+2 from by omega]
     omega)
    have hm:=fx (bk p q) hz r1 (x1 _) (by omega) (by omega)
    exact je.l10 _ _ _ _ _ (by rw[bJ];omega) hd hm (ih _ _ q _ (by rw[bL hz];omega) (e.next dF di (r1.fx (x1 _) hz) (by rw[bL hz];exact r2) (bW _)) (by omega))
 exact je.e0 _ _ (loop (q.length+1) i j p q (Nat.lt_succ_self _) e hl)
end Ay
namespace CU
theorem ku{h b:Nat}(p q:List Rat)(hz:aK q=false)(nP:q≠[])(hp:Ch h p)(hq:Ch b q)(h1:1≤h)(qO:1≤b)(IE:p.length≤10000)(Xs:q.length≤10000)(hk:2*(h+(p.length+1-q.length)*(b+1))+3*b+5≤68719476736):Cp 160 [pq p,pq q] (.aB [pq (cX p q).1,pq (cX p q).2]):=by
 have Cw:=List.length_pos_iff.2 nP
 have YY:=yn hq qO
 have zU:=cE hz nP
 obtain⟨H,hH⟩:∃H,H=h+(p.length+1-q.length)*(b+1):=⟨_,rfl⟩
 rw[←hH] at hk
 have xj:=uo.Of 1 (by unfold ax;omega)
 have loop:∀(n hc:Nat) (out rest:List Rat),rest.length<n→1≤hc→Ch hc rest→hc+(rest.length+1-q.length)*(b+1)≤H→out.length≤p.length+1-q.length→rest.length≤p.length→(∀i,ht (coef out i)≤H+b)→(∀i,i+q.length≤rest.length→coef out i=0) →
   ft.ah (q.map aJ) (out.map aJ) (rest.map aJ) (.aB [pq (nW n out rest q).1,pq (nW n out rest q).2]):=by
  intro n
  induction n with
  |zero=>intro hc out rest hn;omega
  |succ n ih =>
   intro hc out rest hn zk hr Xt lo lr ho HN
   rw[nW]
   cases hb:Nat.blt rest.length q.length with
   |true =>
    have ba:=xa.1 hb
    rw[cond_true]
    exact ft.cR _ _ _ (by rw[bJ,bJ];exact ba)
   |false =>
    have hle:=uu.1 hb
    rw[cond_false]
    have C3:rest≠[]:=by intro e;rw[e] at hle;simp at hle;exact nP hle
    have Va:=yn hr zk
    have SS:=ow zU (by omega) hle
    have e1:rest.length+1-q.length=(rest.length-q.length)+1:=by omega
    have e2:((mD rest q).length+1-q.length)*(b+1)≤(rest.length-q.length)*(b+1):=Nat.mul_le_mul_right _ (by omega)
    rw[e1,Nat.add_mul,Nat.one_mul] at Xt
    have R8:ht (stepC rest q)≤hc+b:=by
     have:=nV (bX rest) (bX q)
     unfold stepC;omega
    have hdiv:=QR.Div (bX rest) (bX q) (by omega) (by omega) zU
    have cc:∀i,coef (aL (cY out (fc (rest.length-q.length) [stepC rest q]))) i=if i=rest.length-q.length then stepC rest q else coef out i:=by
     intro i
     rw[dC,fX,jP]
     by_cases h3:i=rest.length-q.length
     ·rw[if_pos h3,if_neg (by omega),HN i (by omega),h3,Nat.sub_self,uq,Rat.zero_add]
     ·rw[if_neg h3]
      split
      ·rw[Rat.add_zero]
      ·rw[c9 (p:=[stepC rest q]) (by simp;omega),Rat.add_zero]
    have p1:=plus (b:=hc+b) (d:=1) out [stepC rest q] ((1:Int):Rat) (rest.length-q.length) (by omega) (by simp;omega) (lj ho) (fun x hx=>by rw[List.mem_singleton.1 hx];exact R8) (by decide) (by omega) (by omega) (by omega)
    have q1:aL (cY out (fc (rest.length-q.length) (a6 ((1:Int):Rat) [stepC rest q])))=aL (cY out (fc (rest.length-q.length) [stepC rest q])):=by
     rw[show ((1:Int):Rat)=1 from rfl,uv]
    rw[q1] at p1
    have tG:=QR.Neg (stepC rest q) (by omega)
    have p2:=plus (d:=hc+b) rest q (-(stepC rest q)) (rest.length-q.length) (by omega) (by omega) (hr.fl zk) (hq.fl qO) (by rw[vN];exact R8) zk qO (by omega)
    have Qn:((rest.map aJ).length:Int)-((q.map aJ).length:Int)=((rest.length-q.length:Nat):Int):=by rw[bJ,bJ];omega
    have next:=ih (hc+b+1) (aL (cY out (fc (rest.length-q.length) [stepC rest q]))) (mD rest q) (by omega) (by omega) (hr.step hq zU) (by omega) (tH (fun i hi=>by
     rw[←dC,cc,if_neg (by omega),c9 (by omega)])) (by omega) (fun i=>by
     rw[cc]
     split
     ·omega
     ·exact ho i) (fun i hi=>by rw[cc,if_neg (by omega)];exact HN i (by omega))
    exact ft.l10 _ _ _ (rest.length-1) (aJ (bX rest)) (q.length-1) (aJ (bX q)) (aJ (stepC rest q)) _ _ _ _ _ (by rw[bJ,bJ];exact hle) (by rw[bJ];unfold ax;omega) (by rw[bJ];omega) (getM (getTop C3)) (by rw[bJ];unfold ax;omega) (by rw[bJ];omega) (getM (getTop nP)) hdiv (by rw[bJ,bJ];unfold ax;omega) xj (by rw[Qn];exact p1) tG (by rw[Qn];exact p2) next
 have ba:=gH p
 have hmul:((aL p).length+1-q.length)*(b+1)≤(p.length+1-q.length)*(b+1):=Nat.mul_le_mul_right _ (by omega)
 have:=loop (p.length+1) h [] (aL p) (by omega) h1 hp.trim (by omega) (by simp) ba (fun i=>by rw[kF,jA];omega) (fun i _=>rfl)
 exact ft.e0 _ _ _ (Trim (k:=h) p (by omega) (hp.fl h1) (by omega)) this
theorem fx{h:Nat}(p:List Rat)(hz:aK p=false)(hp:Ch h p)(h1:1≤h)(hl:p.length≤10000)(hk:3*h+3≤68719476736):Cp 163 [pq p] (pq (bP p)):=by
 by_cases h0:p=[]
 ·subst h0;exact ks.e0 _ rfl
 ·have zU:=cE hz h0
  have htp:=yn hp h1
  have iY:=List.length_pos_iff.2 h0
  have xj:=uo.Of 1 (by unfold ax;omega)
  have z1:ht ((1:Int):Rat)=1:=by decide
  have hd:=QR.Div ((1:Int):Rat) (bX p) (by omega) (by omega) zU
  have b1:=nV ((1:Int):Rat) (bX p)
  have I1:=plus (a:=1) (d:=h+1) [] p (((1:Int):Rat)/bX p) 0 (by simp) (by omega) (fun x hx=>by cases hx) (hp.fl h1) (by omega) (by omega) h1 (by omega)
  have e:aL (cY [] (fc 0 (a6 (((1:Int):Rat)/bX p) p)))=bP p:=rfl
  rw[e] at I1
  exact ks.e1 _ _ (p.length-1) _ _ _ _ (by rw[bJ];omega) xj (by rw[bJ];unfold ax;omega) (by rw[bJ];omega) (getM (getTop h0)) hd I1
theorem gcd{a b N i j:Nat}(ha:1≤a)(dF:a≤b)(hN:N≤1000)(hk:4*xB a b (N+2)+10≤68719476736)(p q:List Rat)(e:v8 a b N i j p q)(hl:p.length≤10000):Cp 161 [pq p,pq q] (pq (bE p q)):=by
 have hx:xB a b (N+2)=xB a b N+2*(xB a b (N+1)+1):=rfl
 have x1:∀j,1≤xB a b j:=fun j=>Nat.le_trans ha (cz a b dF (i:=0) (Nat.zero_le _))
 have loop:∀(n i j:Nat) (p q:List Rat),q.length<n→v8 a b N i j p q→p.length≤10000→b8.ah (p.map aJ) (q.map aJ) (pq (gB n p q)):=by
  intro n
  induction n with
  |zero=>intro i j p q hn;omega
  |succ n ih =>
   intro i j p q hn e hl
   have hi:=e.idx
   have xU:=e.lt
   rw[gB]
   by_cases h:q.length=0
   ·rw[beq_iff.2 h,cond_true]
    exact b8.cR _ _ (by rw[bJ];omega)
   ·have di:q≠[]:=fun e=>h (by rw[e];rfl)
    rw[fh.2 h,cond_false]
    obtain⟨r1,r2⟩:=e.rest dF di
    have hz:=cL p q
    have hlen:=e.len
    have SU:=e.bound
    have b1:=cz a b dF (i:=j+(p.length-q.length)) (j:=N+1) (by omega)
    have hd:=ku p q e.zq di e.hp e.hq (x1 i) (x1 j) hl (by omega) (by
     obtain⟨j',rfl⟩:∃j',j=j'+1:=⟨j-1,by omega⟩
     obtain⟨d,hd⟩:∃d,p.length-q.length=d+1:=⟨p.length-q.length-1,by omega⟩
     have h2:=cz a b dF (i:=i) (j:=j') (by omega)
     have h3:=sv a b dF j' d
     have h4:=cz a b dF (i:=j'+1+(d+1)) (j:=N+1) (by omega)
     have h5:=cz a b dF (i:=j'+1) (j:=N) (by omega)
     rw[show p.length+1-q.length=d+2 from by omega]
     omega)
    have hm:=fx (bk p q) hz r1 (x1 _) (by omega) (by omega)
    exact b8.l10 _ _ _ _ _ (by rw[bJ];omega) hd hm (ih _ _ q _ (by rw[bL hz];omega) (e.next dF di (r1.fx (x1 _) hz) (by rw[bL hz];exact r2) (bW _)) (by omega))
 have U3:=fx p e.zp e.hp (x1 i) hl (by have:=cz a b dF (i:=i) (j:=N+1) (by have:=e.idx;have:=e.lt;omega);omega)
 have SL:=fx q e.zq e.hq (x1 j) (by have:=e.len;omega) (by have:=cz a b dF (i:=j) (j:=N+1) (by have:=e.idx;omega);omega)
 refine b8.e0 _ _ _ _ U3 SL ?_
 have e':v8 a b N i j (bP p) (bP q):=⟨e.hp.fx (x1 i) e.zp,e.hq.fx (x1 j) e.zq,e.lt,by rw[bL e.zp,bL e.zq];exact e.len,by rw[bL e.zp];exact e.bound,bW _,bW _⟩
 have:=loop (q.length+1) i j (bP p) (bP q) (by rw[bL e.zq];omega) e' (by rw[bL e.zp];exact hl)
 rwa[JJ p q e.zp e.zq] at this
end CU
end Go.Proofs.YtllmkadmohkbfaaGreatDoor.Sym
