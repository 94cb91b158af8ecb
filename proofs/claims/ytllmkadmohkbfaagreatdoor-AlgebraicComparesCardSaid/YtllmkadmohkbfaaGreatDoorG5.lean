/- Lemmas for the statements of this seat. -/
import Derived.Test.YtllmkadmohkbfaaGreatDoorG4
import Derived.Test.YtllmkadmohkbfaaGreatDoorG3
import Derived.Test.YtllmkadmohkbfaaGreatDoorP2
import Derived.Test.YtllmkadmohkbfaaGreatDoorP3
namespace Go.Proofs.YtllmkadmohkbfaaGreatDoor.Sym
open Go Path dE
set_option linter.unusedVariables false
theorem RO{f:List Rat}(hz:aJ f=false)(hf:f≠[])(hc:qF f (ar f)){u v ε:Rat}(rk:u≤v){s:Int}(hs:s=1∨s = -1)(hε:0<ε)(hb:Ug ε u v (ar f) s) :
  fR (chainF f.length f (ar f)) u+(if sg (evalL f v) = -s then 1 else 0)=fR (chainF f.length f (ar f)) v+(if sg (evalL f u) = -s then 1 else 0):=by
 obtain⟨R,hR,hu,hv⟩:=w7 (a:=u) (b:=v)
 have h2:ar f≠[]:=by
  intro e
  have:=(hb u Rat.le_refl rk).1
  rw[e] at this
  have e0:sg (evalL [] u)=0:=by show sg (0:Rat)=0;decide
  rw[e0] at this
  omega
 obtain⟨δ,ε0,hδ,acR,hl⟩:=yX hz h2 hf hc hR
 have hS:=tt hR f
 have hd:=mv hε (show 0<sec f R+1 by grind)
 have u5:=Rat.div_mul_cancel (a:=ε) (b:=sec f R+1) (by grind)
 generalize ε/(sec f R+1)=δ2 at hd u5
 have Qq:0<eZ δ δ2:=by unfold eZ;split<;>assumption
 have m1:=jb δ δ2
 have m2:=jc δ δ2
 refine Es (P:=fun u v=>fR (chainF f.length f (ar f)) u+(if sg (evalL f v) = -s then 1 else 0)=fR (chainF f.length f (ar f)) v+(if sg (evalL f u) = -s then 1 else 0)) Qq rk ?_ ?_
 ·intro x y h1 Hw h3 hw
  have hx:=a8 (x:=x) h1 (by grind) hu hv
  have hy:=a8 (x:=y) (by grind) h3 hu hv
  have kI:Ug ε x y (ar f) s:=fun z z1 z2=>hb z (by grind) (by grind)
  rcases hl x y hx hy Hw (by grind) with ⟨⟨t,ht,hB⟩,e⟩|⟨t,ht,hm,e⟩
  ·show _+_=_+_
   rw[(hB x Rat.le_refl Hw).1,(hB y Hw Rat.le_refl).1,e]
  ·show _+_=_+_
   by_cases exy:x=y
   ·rw[exy]
   ·have bH:x<y:=by grind
    have k1:=hm x y Rat.le_refl bH Rat.le_refl
    have w3:=Rat.mul_le_mul_of_nonneg_left (show y-x≤δ2 by grind) hS
    have k2:=OJ (δ:=0) hx hy hs kI hε (show sec f R*(y-x)<ε by grind) x y Rat.le_refl bH Rat.le_refl
    have Ts:t=s:=by
     rcases hs with rfl|rfl<;>rcases ht with rfl|rfl<;>first|rfl|(exfalso;rw[show ((1:Int):Rat)=1 from rfl,show((-1:Int):Rat) = -1 from rfl] at *;grind)
    rw[Ts] at e
    exact e
 ·intro x y z _ _ _ _ e1 e2
  have e1:_+_=_+_:=e1
  have e2:_+_=_+_:=e2
  show _+_=_+_
  omega
theorem sep{f U V:List Rat}{R u v ε:Rat}(hz:aJ f=false)(hf:f≠[])(hc:qF f (ar f))(hu:ab u≤R)(hv:ab v≤R)(rk:u≤v)(hU:∀x,evalL U x*evalL f x+evalL V x*evalL (ar f) x=1)(hε:0<ε)(h1:(nrm U R+nrm V R)*(2*ε)<1)(o9:lip f R*(v-u)≤ε)(FZ:lip (ar f) R*(v-u)≤ε) :
  fR (chainF f.length f (ar f)) u-fR (chainF f.length f (ar f)) v≤1∧(evalL f u=0→fR (chainF f.length f (ar f)) u-fR (chainF f.length f (ar f)) v≤0):=by
 rcases ss f hu hv rk Rat.le_refl hε o9 with ⟨s,hs,hb⟩|zX
 ·have hw:o6 f u v:=⟨ε,hε,fun x a b=>(hb x a b).2⟩
  have:=Dw hz hf hc rk hw
  exact⟨by omega,fun _=>by omega⟩
 ·rcases ss (ar f) hu hv rk Rat.le_refl hε FZ with ⟨s,hs,hb⟩|VP
  ·have e:=RO hz hf hc rk hs hε hb
   constructor
   ·split at e<;>split at e<;>omega
   ·intro h0
    have hz0:sg (evalL f u) ≠ -s:=by rw[h0];rcases hs with rfl|rfl<;>decide
    rw[if_neg hz0] at e
    split at e<;>omega
  ·exfalso
   have a1:=kc hu U
   have a2:=kc hu V
   have a3:=zX u Rat.le_refl rk
   have a4:=VP u Rat.le_refl rk
   have a5:=kD (evalL U u*evalL f u) (evalL V u*evalL (ar f) u)
   rw[hU u,fQ,fQ] at a5
   have hR:=Rat.le_trans (bJ u) hu
   have b1:=cM a1 (Rat.le_of_lt a3) (bJ _) (by grind)
   have b2:=cM a2 (Rat.le_of_lt a4) (bJ _) (by grind)
   have e1:ab (1:Rat)=1:=by decide +kernel
   rw[e1] at a5
   grind
def twP(n:Nat):Rat:=(((2^n:Nat):Int):Rat)
theorem dS(m n:Nat):twP (m+n)=twP m*twP n:=by
 unfold twP
 rw[Nat.pow_add,Int.natCast_mul,Rat.intCast_mul]
theorem aS{m n:Nat}(h:m≤n):twP m≤twP n:=Rat.intCast_le_intCast.2 (by have:=Nat.pow_le_pow_right (n:=2) (by omega) h;omega)
theorem hO:twP 0=1:=rfl
theorem Eu(n:Nat):1≤twP n:=by rw[←hO];exact aS (Nat.zero_le _)
theorem bw(n:Nat):0<twP n:=by have:=Eu n;grind
theorem bP(n:Nat):twP (n+1)=twP n+twP n:=by
 rw[dS]
 have:twP 1=2:=rfl
 rw[this];grind
theorem LN(x:Rat):x*((x.den:Int):Rat)=(x.num:Rat):=by
 have h:(x.num:Rat)/((x.den:Int):Rat)=x:=by rw[←Rat.divInt_eq_div,Rat.num_divInt_den]
 have hd:((x.den:Int):Rat)≠0:=y0 (by have:=x.den_pos;omega)
 have:=Rat.div_mul_cancel (a:=(x.num:Rat)) hd
 rwa[h] at this
theorem Ev(n:Int):ab (n:Rat)=((n.natAbs:Int):Rat):=by
 rcases cf (n:Rat) with ⟨h1,h2⟩|⟨h1,h2⟩
 ·have:0≤n:=Rat.intCast_le_intCast.1 h1
  rw[h2];congr 1;omega
 ·have:n<0:=Rat.intCast_lt_intCast.1 h1
  rw[h2,←Rat.intCast_neg];congr 1;omega
theorem PC(k:Nat):4294967296^k=2^(32*k):=by rw[Nat.pow_mul]
theorem RP(n:Int){k:Nat}(h:wl n≤k):ab (n:Rat)≤twP (32*k):=by
 rw[Ev]
 have h1:=Hl n
 have h2:4294967296^wl n≤4294967296^k:=Nat.pow_le_pow_right (by omega) h
 rw[PC k] at h2
 unfold twP
 exact Rat.intCast_le_intCast.2 (by omega)
theorem LO(x:Rat):(1:Rat)≤((x.den:Int):Rat):=by
 have:=x.den_pos
 exact Rat.intCast_le_intCast.2 (show (1:Int)≤_ by omega)
theorem sv(x:Rat):ab x≤twP (32*ht x):=by
 have h:=LN x
 have h1:=RP x.num (js x)
 have h2:=LO x
 rw[←h,fQ,Ev] at h1
 have e:(((x.den:Int).natAbs:Int):Rat)=((x.den:Int):Rat):=by congr 1
 rw[e] at h1
 have:=Rat.mul_le_mul_of_nonneg_left h2 (bJ x)
 grind
theorem RR{x:Rat}(h0:x≠0):1≤ab x*twP (32*ht x):=by
 have h:=LN x
 have h1:=RP (x.den:Int) (jO x)
 have e:ab ((x.den:Int):Rat)=((x.den:Int):Rat):=by rw[Ev];congr 1
 have hn:x.num≠0:=fun hh=>h0 (Rat.num_eq_zero.1 hh)
 have h2:(1:Rat)≤ab (x.num:Rat):=by
  rw[Ev]
  exact Rat.intCast_le_intCast.2 (show (1:Int)≤_ by omega)
 rw[←h,fQ,e] at h2
 rw[e] at h1
 have:=Rat.mul_le_mul_of_nonneg_left h1 (bJ x)
 grind
theorem Kh{R:Rat}(hR:0≤R):∀p q:List Rat,nrm (ft p q) R≤nrm p R+nrm q R
 |[],q=>by rw[ft,nrm];grind
 |a::p,[]=>by rw[ft];show _≤_+0;grind
 |a::p,b::q=>by
  have:=Rat.mul_le_mul_of_nonneg_right (Kh hR p q) hR
  have h2:=kD a b
  rw[ft,nrm,nrm,nrm];grind
theorem HB(c R:Rat):∀p:List Rat,nrm (bn c p) R=ab c*nrm p R
 |[]=>by show(0:Rat)=_*0;grind
 |a::p=>by
  show nrm (bn c p) R*R+ab (c*a)=_
  rw[HB c R p,fQ,nrm];grind
theorem OM{R:Rat}(hR:0≤R)(q:List Rat):∀p:List Rat,nrm (mulL p q) R≤nrm p R*nrm q R
 |[]=>by show(0:Rat)≤0*_;grind
 |a::p=>by
  rw[mulL]
  have h1:=Kh hR (bn a q) (0::mulL p q)
  rw[HB] at h1
  have h2:nrm (0::mulL p q) R=nrm (mulL p q) R*R+ab 0:=rfl
  have h3:=Rat.mul_le_mul_of_nonneg_right (OM hR q p) hR
  rw[h2,sr] at h1
  rw[nrm]
  grind
theorem Av{R:Rat}{r c:Nat}(hR:0≤R)(hr:R≤twP r):∀p:List Rat,(∀x∈p,ab x≤twP c)→nrm p R≤twP (c+(r+1)*p.length)
 |[],_=>Rat.le_of_lt (bw _)
 |a::p,h=>by
  have ih:=Av hR hr p (fun x hx=>h x (List.mem_cons_of_mem _ hx))
  have ha:=h a (List.mem_cons_self ..)
  have h1:=cM ih hr (pE hR p) (Rat.le_of_lt (bw r))
  rw[←dS] at h1
  have h2:=aS (show c≤c+(r+1)*p.length+r by omega)
  rw[nrm,List.length_cons,show c+(r+1)*(p.length+1)=c+(r+1)*p.length+r+1 from by rw[Nat.mul_add];omega,bP]
  grind
theorem pF{R:Rat}{r c:Nat}(hR:0≤R)(hr:R≤twP r):∀p:List Rat,(∀x∈p,ab x≤twP c)→lip p R≤twP (c+(r+2)*p.length)
 |[],_=>Rat.le_of_lt (bw _)
 |a::p,h=>by
  have hp:=fun x hx=>h x (List.mem_cons_of_mem a hx)
  have ih:=pF hR hr p hp
  have hn:=Av hR hr p hp
  have h1:=cM ih hr (gK hR p) (Rat.le_of_lt (bw r))
  rw[←dS] at h1
  have e1:(r+2)*p.length=(r+1)*p.length+p.length:=by rw[show r+2=r+1+1 from rfl,Nat.add_mul (r+1) 1];omega
  have h2:=aS (show c+(r+1)*p.length≤c+(r+2)*p.length+r by omega)
  have h3:=aS (show c+(r+2)*p.length+r+1≤c+(r+2)*(p.length+1) by rw[Nat.mul_add];omega)
  rw[bP] at h3
  rw[lip,List.length_cons]
  grind
theorem qn{h:Nat}{p:List Rat}(hp:Fl h p):∀x∈p,ab x≤twP (32*h):=fun x hx=>Rat.le_trans (sv x) (aS (by have:=hp x hx;omega))
theorem Jp{a b N r:Nat}{R:Rat}(ha:1≤a)(dK:a≤b)(hR:0≤R)(hr:R≤twP r)(hs:(r+1)*(N+2)+1≤64*a):∀(n i j:Nat) (p d:List Rat),su a b N i j p d→d≠[]→qF p d→d.length<n+1 →
  ∃U V:List Rat,(∀x,evalL U x*evalL p x+evalL V x*evalL d x=1)∧nrm U R≤twP (32*(4*xB a b (N-1)-3*xB a b j))∧nrm V R≤twP (32*(4*xB a b (N-1)-3*xB a b j))
 |0,i,j,p,d,_,h0,_,hl=>absurd (List.eq_nil_of_length_eq_zero (by omega)) h0
 |n+1,i,j,p,d,e,h0,hc,hl=>by
  have PX:=e.bound
  have hlen:=e.len
  have AI:=List.length_pos_iff.2 h0
  have Bh:=e.lt
  have x1:∀j,1≤xB a b j:=fun j=>Nat.le_trans ha (cv a b dK (i:=0) (Nat.zero_le _))
  have hjN:=cv a b dK (i:=j) (j:=N-1) (by omega)
  by_cases SS:aU (bn (-1) (a7 p d))=[]
  ·obtain⟨c,rfl,FX⟩:=Hy e.zq h0 hc SS
   refine⟨[],[1/c],fun x => ?_,Rat.le_of_lt (bw _),?_⟩
   ·rw[fL,fL,Rat.div_mul_cancel FX]
    show 0*_+1=1
    grind
   ·have e1:nrm [1/c] R=ab (1/c):=by show 0*R+_=_;grind
    have hh:=kS 1 c
    have ON:=e.hq.fl (x1 j) c (by simp)
    have hi:=Rv c
    have Y2:1/c=c⁻¹:=by rw[Rat.div_def,Rat.one_mul]
    rw[e1]
    refine Rat.le_trans (sv _) (aS ?_)
    rw[Y2]
    omega
  ·obtain⟨r1,r2⟩:=e.rest dK h0
   have uW:=eM (p:=p) e.zq h0
   have wg:=List.length_pos_iff.2 SS
   have H8:Ch (xB a b (j+(p.length-d.length))) (aU (bn (-1) (a7 p d))):=by
    refine Ch.trim ?_
    obtain⟨D,d1,d2,d3⟩:=r1
    refine⟨D,d1,d2,fun i => ?_⟩
    obtain⟨m,m1,m2⟩:=d3 i
    refine⟨-m,?_,by rw[kC];exact m2⟩
    rw[ck,Rat.intCast_neg,←m1];grind
   obtain⟨U,V,PD,Kw,Jq⟩:=Jp ha dK hR hr hs n j _ d _ (e.next dK h0 H8 uW (bj _)) SS (Hx e.zq h0 hc) (by omega)
   have hq:=tK e.hp e.hq (x1 i) (x1 j) e.zq h0
   have D2:=qS (p:=p) e.zq h0
   obtain⟨j',rfl⟩:∃j',j=j'+1:=⟨j-1,by omega⟩
   obtain⟨δ,hδ⟩:∃δ,p.length-d.length=δ+1:=⟨p.length-d.length-1,by omega⟩
   have hg:=rl a b dK j' δ
   have hi:=cv a b dK (i:=i) (j:=j') (by omega)
   have Ys:=cv a b dK (i:=0) (j:=j') (by omega)
   have e00:xB a b 0=a:=rfl
   rw[hδ] at Kw Jq
   have hgN:=cv a b dK (i:=j'+1+(δ+1)) (j:=N-1) (by omega)
   have AL:xB a b i+(p.length+1-d.length)*(xB a b (j'+1)+1)+xB a b (j'+1)≤xB a b (j'+1+(δ+1))+xB a b (j'+1):=by
    rw[show p.length+1-d.length=δ+2 from by omega];omega
   have Zc:=Av hR hr _ (qn (cL hq AL))
   have hqm:(r+1)*(et p d).1.length≤(r+1)*(N+2):=Nat.mul_le_mul_left _ (by omega)
   have two:2*(xB a b (j'+1)+1)≤(δ+2)*(xB a b (j'+1)+1):=Nat.mul_le_mul_right _ (by omega)
   have XK:=Rat.le_trans Zc (aS (show _≤32*(xB a b (j'+1+(δ+1))+xB a b (j'+1))+((r+1)*(N+2)) by omega))
   generalize hS:32*(4*xB a b (N-1)-3*xB a b (j'+1+(δ+1)))=S at Kw Jq
   generalize hQ:32*(xB a b (j'+1+(δ+1))+xB a b (j'+1))+((r+1)*(N+2))=Q at XK
   have hT:S+Q+1≤32*(4*xB a b (N-1)-3*xB a b (j'+1)):=by omega
   refine⟨bn (-1) V,ft U (mulL V (et p d).1),fun x => ?_,?_,?_⟩
   ·have k1:=PD x
    have k2:=tJ (p:=p) e.zq h0 x
    rw[bN,cu,aO]
    have k3:evalL (aU (bn (-1) (a7 p d))) x=evalL (et p d).1 x*evalL d x-evalL p x:=by grind
    rw[k3] at k1
    grind
   ·rw[HB,show ab (-1:Rat)=1 from by decide +kernel,Rat.one_mul]
    exact Rat.le_trans Jq (aS (by omega))
   ·have m1:=Kh hR U (mulL V (et p d).1)
    have m2:=OM hR (et p d).1 V
    have m3:=cM Jq XK (pE hR V) (Rat.le_of_lt (bw _))
    rw[←dS] at m3
    have m4:=aS (show S≤S+Q by omega)
    have m5:=aS hT
    rw[bP] at m5
    grind
theorem oF{f:List Rat}{a N r m:Nat}{R u v:Rat}(ha:1≤a)(e:su a (a+1) N 0 1 f (ar f))(hf:f≠[])(hc:qF f (ar f))(hR:0≤R)(hr:R≤twP r)(hs:(r+1)*(N+2)+1≤64*a)(hu:ab u≤R)(hv:ab v≤R)(rk:u≤v)
  (hm:32*(4*xB a (a+1) (N-1))+32*(a+1)+(r+2)*f.length+3≤m) (hw:(v-u)*twP m≤1) :
  fR (chainF f.length f (ar f)) u-fR (chainF f.length f (ar f)) v≤1∧(evalL f u=0→fR (chainF f.length f (ar f)) u-fR (chainF f.length f (ar f)) v≤0):=by
 by_cases h2:ar f=[]
 ·rw[nE h2,nE h2]
  exact⟨by omega,fun _=>by omega⟩
 ·obtain⟨U,V,PD,hU,hV⟩:=Jp ha (Nat.le_succ a) hR hr hs f.length 0 1 f (ar f) e h2 hc (by have:=e.len;omega)
  generalize hS:32*(4*xB a (a+1) (N-1)-3*xB a (a+1) 1)=S at hU hV
  have hS2:S≤32*(4*xB a (a+1) (N-1)):=by omega
  generalize 32*(4*xB a (a+1) (N-1))=S2 at hm hS2
  have e0:xB a (a+1) 0=a:=rfl
  have e1:xB a (a+1) 1=a+1:=rfl
  have l1:=pF hR hr f (qn (cL (e.hp.fl (by rw[e0];exact ha)) (show xB a (a+1) 0≤a+1 by rw[e0];omega)))
  have l2:=pF hR hr (ar f) (qn (e.hq.fl (by rw[e1];omega)))
  rw[e1] at l2
  have hlen:(r+2)*(ar f).length≤(r+2)*f.length:=Nat.mul_le_mul_left _ (by have:=e.len;omega)
  have l2':=Rat.le_trans l2 (aS (show 32*(a+1)+(r+2)*(ar f).length≤32*(a+1)+(r+2)*f.length by omega))
  generalize hL:32*(a+1)+(r+2)*f.length=L at l1 l2'
  have hp:=bw (S+3)
  have hε:=mv (show (0:Rat)<1 by decide) hp
  have Tq:=Rat.div_mul_cancel (a:=1) (b:=twP (S+3)) (by grind)
  generalize 1/twP (S+3)=ε at hε Tq
  have t1:twP (S+3)=8*twP S:=by rw[dS,show twP 3=8 from rfl];grind
  have yf:0≤v-u:=by grind
  have key:∀l:Rat,0≤l→l≤twP L→l*(v-u)≤ε:=by
   intro l h0 hl
   have k1:=Rat.mul_le_mul_of_nonneg_right hl yf
   have k2:=Rat.mul_le_mul_of_nonneg_left (aS (show L+(S+3)≤m by omega)) yf
   rw[dS] at k2
   have k3:twP L*(v-u)*twP (S+3)≤1:=by grind
   refine Rat.not_lt.1 fun bH => ?_
   have k4:ε<twP L*(v-u):=by grind
   have k5:=Rat.mul_lt_mul_of_pos_right k4 hp
   grind
  refine sep (U:=U) (V:=V) (ε:=ε) e.zp hf hc hu hv rk PD hε ?_ (key _ (gK hR _) l1) (key _ (gK hR _) l2')
  have k6:=Rat.mul_le_mul_of_nonneg_right (show nrm U R+nrm V R≤twP S+twP S by grind) (show 0≤2*ε by grind)
  rw[t1] at Tq
  have hpS:=Rat.mul_pos hε (bw S)
  grind
end Go.Proofs.YtllmkadmohkbfaaGreatDoor.Sym
namespace Go.Proofs.YtllmkadmohkbfaaGreatDoor.Sym
set_option linter.unusedVariables false
set_option linter.unusedSectionVars false
theorem vJ{a b δ:Rat}(ha:0<a)(hb:0≤b)(hδ:0<δ):∃t,0<t∧t≤δ∧t*b<a:=by
 have mO:0<b+1:=by grind
 have hq:=mv ha mO
 have hm:a/(b+1)*(b+1)=a:=by rw[Rat.div_def,Rat.mul_assoc,Rat.inv_mul_cancel _ (by grind),Rat.mul_one]
 have key:∀t,0<t→t≤a/(b+1)→t*b<a:=fun t h1 h2=>by
  have h3:=Rat.mul_le_mul_of_nonneg_right h2 (Rat.le_of_lt mO)
  rw[hm] at h3
  grind
 by_cases h:a/(b+1)≤δ
 ·exact⟨_,hq,h,key _ hq Rat.le_refl⟩
 ·exact⟨δ,hδ,Rat.le_refl,key δ hδ (by grind)⟩
theorem xX{f:List Rat}(hc:qF f (ar f)){x δ:Rat}(hx:evalL f x=0)(hδ:0<δ)(s:Rat)(hs:s=1∨s = -1):∃t,0<t∧t≤δ∧evalL f (x+s*t)≠0:=by
 obtain⟨U,V,PD⟩:=hc
 have h1:=PD x
 rw[hx,dW] at h1
 have hd:dEv f x≠0:=fun e=>by rw[e] at h1;grind
 have hR:0≤ab x+δ:=by have:=bJ x;grind
 obtain⟨t,t1,t2,t3⟩:=vJ (B8 hd) (tt hR f) hδ
 refine⟨t,t1,t2,fun e => ?_⟩
 have ht:=Nc x (x+s*t) f
 rw[e,hx] at ht
 have bz:ab (s*t)=t:=by
  rw[fQ]
  rcases hs with rfl|rfl
  ·rcases cf t with k|k<;>rcases cf (1:Rat) with m|m<;>grind
  ·rcases cf t with k|k<;>rcases cf (-1:Rat) with m|m<;>grind
 have IC:ab x≤ab x+δ:=by grind
 have Zw:ab (x+s*t)≤ab x+δ:=by
  have:=kD x (s*t)
  grind
 have hb:=Nd IC Zw f
 have e1:s*t*(dEv f x+s*t*OH x (x+s*t) f)=0:=by
  have:x+s*t-x=s*t:=by grind
  rw[this] at ht
  grind
 have aa7:s*t≠0:=fun e=>by rw[e,sr] at bz;grind
 rcases Rat.mul_eq_zero.1 e1 with e2|e2
 ·exact aa7 e2
 ·have e3:dEv f x = -(s*t*OH x (x+s*t) f):=by grind
  have e4:ab (dEv f x)=t*ab (OH x (x+s*t) f):=by rw[e3,yW,fQ,bz]
  have e5:=Rat.mul_le_mul_of_nonneg_left hb (Rat.le_of_lt t1)
  grind
abbrev cS(f:List Rat)(x:Rat):Int:=fR (chainF f.length f (ar f)) x
structure dH (f:List Rat) (lo hi:Rat):Prop where
 zf:aJ f=false
 f0:f≠[]
 zK:qF f (ar f)
 DN:(lo=hi∧evalL f lo=0)∨(lo<hi∧evalL f lo≠0∧evalL f hi≠0∧cS f lo-cS f hi=1)
def aK(f:List Rat)(lo hi x:Rat):Int:=if lo=hi then dz lo x else if x≤lo then 1 else if hi≤x then -1 else sg (evalL f x)*sg (evalL f lo)
theorem gN{p q:Rat}(h:p<q):dz p q = -1:=by unfold dz;rw[if_pos h]
theorem fG{p q:Rat}(h:q<p):dz p q=1:=by unfold dz;rw[if_neg (by grind),if_neg (by grind)]
theorem ix(p:Rat):dz p p=0:=dm.2 rfl
theorem cX(p q:Rat):(p<q∧dz p q = -1)∨(p=q∧dz p q=0)∨(q<p∧dz p q=1):=by
 by_cases h1:p<q
 ·exact Or.inl ⟨h1,gN h1⟩
 ·by_cases h2:q<p
  ·exact Or.inr (Or.inr ⟨h2,fG h2⟩)
  ·have:p=q:=by grind
   subst this
   exact Or.inr (Or.inl ⟨rfl,ix _⟩)
namespace dH
variable {f:List Rat} {lo hi:Rat}
theorem le(A:dH f lo hi):lo≤hi:=by rcases A.DN with ⟨h,_⟩|⟨h,_⟩<;>grind
section
variable (A:dH f lo hi) (bH:lo<hi)
include A bH
theorem ends:evalL f lo≠0∧evalL f hi≠0∧cS f lo-cS f hi=1:=by
 rcases A.DN with ⟨h,_⟩|⟨_,h⟩
 ·subst h;exact absurd bH Rat.lt_irrefl
 ·exact h
theorem XL{x:Rat}(h1:lo≤x)(h2:x≤hi):cS f lo-cS f x=0∨cS f lo-cS f x=1:=by
 have a:=kE A.zf A.f0 A.zK h1
 have b:=kE A.zf A.f0 A.zK h2
 have c:=(A.ends bH).2.2
 unfold cS at *
 omega
theorem HC{x y:Rat}(h:x≤y):cS f lo-cS f x≤cS f lo-cS f y:=by
 have a:=kE A.zf A.f0 A.zK h
 unfold cS at *
 omega
theorem val{x:Rat}(h1:lo≤x)(h2:x≤hi)(hx:evalL f x≠0):(sg (evalL f x)=sg (evalL f lo)∧cS f lo-cS f x=0)∨(sg (evalL f x) = - sg (evalL f lo)∧cS f lo-cS f x=1):=by
 have a:=A.XL bH h1 h2
 have b:=OK A.zf A.f0 A.zK (A.ends bH).1 hx
 unfold cS at *
 rcases b with ⟨b1,b2⟩|⟨b1,b2⟩
 ·left;exact⟨b1.symm,by omega⟩
 ·right;exact⟨by omega,by omega⟩
theorem root{x:Rat}(h1:lo≤x)(h2:x≤hi)(hx:evalL f x=0):cS f lo-cS f x=1:=by
 rcases A.XL bH h1 h2 with h|h
 ·have:=ou A.zf A.f0 A.zK h1 (by unfold cS at h;omega) (A.ends bH).1
  exact absurd hx (this.ne h1 Rat.le_refl)
 ·exact h
theorem OO{x:Rat}(h1:lo≤x)(h:cS f lo-cS f x=0):o6 f lo x:=ou A.zf A.f0 A.zK h1 (by unfold cS at h;omega) (A.ends bH).1
theorem F6{x:Rat}(h1:lo≤x)(h2:x≤hi)(hx:evalL f x≠0)(h:cS f lo-cS f x=1):o6 f x hi :=
 ou A.zf A.f0 A.zK h2 (by have:=(A.ends bH).2.2;unfold cS at *;omega) hx
theorem after{x y:Rat}(h1:lo≤x)(Hw:x<y)(h2:y≤hi)(hx:evalL f x=0):evalL f y≠0∧cS f lo-cS f y=1:=by
 have r:=A.root bH h1 (by grind) hx
 have m:=A.HC bH (Rat.le_of_lt Hw)
 have c:=A.XL bH (x:=y) (by grind) h2
 obtain⟨t,t1,t2,t3⟩:=xX A.zK hx (δ:=y-x) (by grind) 1 (Or.inl rfl)
 have e:x+1*t=x+t:=by grind
 rw[e] at t3
 have m2:=A.HC bH (x:=x) (y:=x+t) (by grind)
 have c2:=A.XL bH (x:=x+t) (by grind) (by grind)
 have:=A.F6 bH (x:=x+t) (by grind) (by grind) t3 (by omega)
 exact⟨this.ne (by grind) (by grind),by omega⟩
theorem before{x y:Rat}(h1:lo≤x)(Hw:x<y)(h2:y≤hi)(hy:evalL f y=0):evalL f x≠0∧cS f lo-cS f x=0:=by
 have hx:evalL f x≠0:=fun e=>(A.after bH h1 Hw h2 e).1 hy
 refine⟨hx,?_⟩
 rcases A.XL bH h1 (by grind) with h|h
 ·exact h
 ·have:=A.F6 bH h1 (by grind) hx h
  exact absurd hy (this.ne (Rat.le_of_lt Hw) h2)
theorem gJ{x:Rat}(h1:lo<x)(h2:x<hi):(aK f lo hi x=1∧evalL f x≠0∧cS f lo-cS f x=0)∨(aK f lo hi x=0∧evalL f x=0)∨(aK f lo hi x = -1∧evalL f x≠0∧cS f lo-cS f x=1):=by
 have dk:¬lo=hi:=fun e=>by subst e;exact Rat.lt_irrefl bH
 have e:aK f lo hi x=sg (evalL f x)*sg (evalL f lo):=by
  unfold aK
  rw[if_neg dk,if_neg (by grind),if_neg (by grind)]
 rw[e]
 have hl:=rC (A.ends bH).1
 by_cases hx:evalL f x=0
 ·right;left
  refine⟨?_,hx⟩
  rw[hx]
  show sg 0*_=0
  rw[show sg 0=0 from ix 0,Int.zero_mul]
 ·rcases A.val bH (Rat.le_of_lt h1) (Rat.le_of_lt h2) hx with ⟨v1,v2⟩|⟨v1,v2⟩
  ·left
   refine⟨?_,hx,v2⟩
   rw[v1]
   rcases hl with k|k<;>rw[k]<;>decide
  ·right;right
   refine⟨?_,hx,v2⟩
   rw[v1]
   rcases hl with k|k<;>rw[k]<;>decide
end
theorem low(A:dH f lo hi)(bH:lo<hi){x:Rat}(h:x≤lo):aK f lo hi x=1:=by
 have dk:¬lo=hi:=fun e=>by subst e;exact Rat.lt_irrefl bH
 unfold aK
 rw[if_neg dk,if_pos h]
theorem high(A:dH f lo hi)(bH:lo<hi){x:Rat}(h:hi≤x):aK f lo hi x = -1:=by
 have dk:¬lo=hi:=fun e=>by subst e;exact Rat.lt_irrefl bH
 unfold aK
 rw[if_neg dk,if_neg (by grind),if_pos h]
theorem three(A:dH f lo hi)(x:Rat):aK f lo hi x=1∨aK f lo hi x=0∨aK f lo hi x = -1:=by
 by_cases h:lo=hi
 ·unfold aK
  rw[if_pos h]
  rcases cX lo x with k|k|k<;>simp[k.2]
 ·have bH:lo<hi:=by have:=A.le;grind
  by_cases h1:x≤lo
  ·left;exact A.low bH h1
  ·by_cases h2:hi≤x
   ·right;right;exact A.high bH h2
   ·rcases A.gJ bH (x:=x) (by grind) (by grind) with k|k|k<;>simp[k.1]
theorem mono(A:dH f lo hi){x y:Rat}(Hw:x<y)(h:aK f lo hi x≤0):aK f lo hi y = -1:=by
 by_cases he:lo=hi
 ·unfold aK at h ⊢
  rw[if_pos he] at h ⊢
  rcases cX lo x with k|k|k
  ·exact gN (by grind)
  ·exact gN (by grind)
  ·omega
 ·have bH:lo<hi:=by have:=A.le;grind
  have IC:lo<x:=by
   by_cases h1:x≤lo
   ·rw[A.low bH h1] at h;omega
   ·grind
  by_cases h2:hi≤y
  ·exact A.high bH h2
  ·have hm:=A.HC bH (Rat.le_of_lt Hw)
   rcases A.gJ bH (x:=x) IC (by grind) with k|k|k
   ·omega
   ·have a:=A.after bH (Rat.le_of_lt IC) Hw (by grind) k.2
    rcases A.gJ bH (x:=y) (by grind) (by grind) with m|m|m
    ·omega
    ·exact absurd m.2 a.1
    ·exact m.1
   ·rcases A.gJ bH (x:=y) (by grind) (by grind) with m|m|m
    ·omega
    ·have a:=A.before bH (Rat.le_of_lt IC) Hw (by grind) m.2
     omega
    ·exact m.1
theorem kx(A:dH f lo hi){x y:Rat}(Hw:x<y)(h:0≤aK f lo hi y):aK f lo hi x=1:=by
 rcases A.three x with k|k|k
 ·exact k
 ·have:=A.mono Hw (by omega);omega
 ·have:=A.mono Hw (by omega);omega
theorem lR(A:dH f lo hi):0≤aK f lo hi lo:=by
 by_cases he:lo=hi
 ·unfold aK;rw[if_pos he,ix];omega
 ·rw[A.low (by have:=A.le;grind) Rat.le_refl];omega
theorem nF(A:dH f lo hi):aK f lo hi hi≤0:=by
 by_cases he:lo=hi
 ·unfold aK;rw[if_pos he,he,ix];omega
 ·rw[A.high (by have:=A.le;grind) Rat.le_refl];omega
theorem Ew(A:dH f lo hi){x:Rat}(h:aK f lo hi x=0):evalL f x=0∧lo≤x∧x≤hi:=by
 by_cases he:lo=hi
 ·unfold aK at h
  rw[if_pos he] at h
  have:=dm.1 h
  subst this
  rcases A.DN with ⟨_,k⟩|⟨k,_⟩
  ·exact⟨k,Rat.le_refl,A.le⟩
  ·grind
 ·have bH:lo<hi:=by have:=A.le;grind
  by_cases h1:x≤lo
  ·rw[A.low bH h1] at h;omega
  ·by_cases h2:hi≤x
   ·rw[A.high bH h2] at h;omega
   ·rcases A.gJ bH (x:=x) (by grind) (by grind) with k|k|k
    ·omega
    ·exact⟨k.2,by grind,by grind⟩
    ·omega
theorem sub(A:dH f lo hi){u v:Rat}(hu:lo≤u)(hv:v≤hi)(h:(u=v∧aK f lo hi u=0)∨(u<v∧aK f lo hi u=1∧aK f lo hi v = -1)):dH f u v∧∀x,aK f u v x=aK f lo hi x:=by
 rcases h with ⟨rfl,h0⟩|⟨rk,h1,h2⟩
 ·refine⟨⟨A.zf,A.f0,A.zK,Or.inl ⟨rfl,(A.Ew h0).1⟩⟩,fun x => ?_⟩
  have e:aK f u u x=dz u x:=by unfold aK;rw[if_pos rfl]
  rw[e]
  rcases cX u x with k|k|k
  ·rw[k.2,A.mono k.1 (by omega)]
  ·rw[←k.1,ix,h0]
  ·rw[k.2,A.kx k.1 (by omega)]
 ·have bH:lo<hi:=by grind
  have q1:evalL f u≠0∧cS f lo-cS f u=0:=by
   by_cases e:u=lo
   ·subst e;exact⟨(A.ends bH).1,by omega⟩
   ·rcases A.gJ bH (x:=u) (by grind) (by grind) with k|k|k
    ·exact k.2
    ·omega
    ·omega
  have q2:evalL f v≠0∧cS f lo-cS f v=1:=by
   by_cases e:v=hi
   ·subst e;exact(A.ends bH).2
   ·rcases A.gJ bH (x:=v) (by grind) (by grind) with k|k|k
    ·omega
    ·omega
    ·exact k.2
  have B:dH f u v:=⟨A.zf,A.f0,A.zK,Or.inr ⟨rk,q1.1,q2.1,by omega⟩⟩
  refine⟨B,fun x => ?_⟩
  by_cases x1:x≤u
  ·rw[B.low rk x1]
   by_cases e:x=u
   ·rw[e,h1]
   ·exact(A.kx (y:=u) (by grind) (by omega)).symm
  ·by_cases x2:v≤x
   ·rw[B.high rk x2]
    by_cases e:x=v
    ·rw[e,h2]
    ·exact(A.mono (x:=v) (by grind) (by omega)).symm
   ·have k:=B.gJ rk (x:=x) (by grind) (by grind)
    have m:=A.gJ bH (x:=x) (by grind) (by grind)
    rcases k with k|k|k<;>rcases m with m|m|m<;>first|(exfalso;exact k.2.1 m.2)|(exfalso;exact m.2.1 k.2)|(exfalso;unfold cS at *;omega)|(rw [k.1,m.1])
end dH
end Go.Proofs.YtllmkadmohkbfaaGreatDoor.Sym
namespace Go.Proofs.YtllmkadmohkbfaaGreatDoor.Sym
set_option linter.unusedVariables false
set_option linter.unusedSectionVars false
namespace dH
variable {f:List Rat} {lo hi:Rat}
theorem qo(A:dH f lo hi){u v:Rat}(hu:aK f lo hi u=1)(hv:aK f lo hi v = -1):u<v:=by
 by_cases h:v<u
 ·have:=A.kx h (by omega);omega
 ·by_cases e:u=v
  ·rw[e] at hu;omega
  ·grind
theorem Wy(A:dH f lo hi):aK f lo hi (lo-1)=1∧aK f lo hi (hi+1) = -1 :=
 ⟨A.kx (y:=lo) (by grind) A.lR,A.mono (x:=hi) (by grind) A.nF⟩
theorem Pv(A:dH f lo hi){u v δ:Rat}(hu:aK f lo hi u=1)(hv:aK f lo hi v = -1)(hδ:0<δ):∃a b,u≤a∧b≤v∧aK f lo hi a=1∧aK f lo hi b = -1∧b-a≤δ:=by
 have rk:=A.qo hu hv
 by_cases hz:∃x,aK f lo hi x=0
 ·obtain⟨x,hx⟩:=hz
  have hux:u<x:=by
   by_cases h:x<u
   ·have:=A.mono h (by omega);omega
   ·by_cases e:u=x
    ·rw[e] at hu;omega
    ·grind
  have hxv:x<v:=by
   by_cases h:v<x
   ·have:=A.kx h (by omega);omega
   ·by_cases e:x=v
    ·rw[←e] at hv;omega
    ·grind
  have XM:∀a,a<x→aK f lo hi a=1:=fun a h=>A.kx h (by omega)
  have Uh:∀b,x<b→aK f lo hi b = -1:=fun b h=>A.mono h (by omega)
  have hd:0<δ/2:=mv hδ (by decide)
  have DL:δ/2+δ/2=δ:=by rw[Rat.div_def];have:(2:Rat)*2⁻¹=1:=Rat.mul_inv_cancel 2 (by decide);grind
  by_cases h1:u≤x-δ/2
  ·by_cases h2:x+δ/2≤v
   ·exact⟨_,_,h1,h2,XM _ (by grind),Uh _ (by grind),by grind⟩
   ·exact⟨_,v,h1,Rat.le_refl,XM _ (by grind),hv,by grind⟩
  ·by_cases h2:x+δ/2≤v
   ·exact⟨u,_,Rat.le_refl,h2,hu,Uh _ (by grind),by grind⟩
   ·exact⟨u,v,Rat.le_refl,Rat.le_refl,hu,hv,by grind⟩
 ·have YV:∀x,aK f lo hi x=1∨aK f lo hi x = -1:=fun x=>by
   rcases A.three x with k|k|k
   ·exact Or.inl k
   ·exact absurd ⟨x,k⟩ hz
   ·exact Or.inr k
  refine Classical.byContradiction fun XN => ?_
  have:=Es (P:=fun s t=>¬(aK f lo hi s=1∧aK f lo hi t = -1)) (a:=u) (b:=v) hδ (Rat.le_of_lt rk)
   (fun s t h1 h2 h3 h4 h=>XN ⟨s,t,h1,h3,h.1,h.2,h4⟩)
   (fun s t w h1 h2 h3 h4 p q h=>by
    rcases YV t with k|k
    ·exact q ⟨k,h.2⟩
    ·exact p ⟨h.1,k⟩)
  exact this ⟨hu,hv⟩
theorem xY(A:dH f lo hi){u v:Rat}(hu:aK f lo hi u=1)(hv:aK f lo hi v = -1)(h1:lo≤u∨lo=hi)(h2:v≤hi∨lo=hi)(bH:lo<hi):sg (evalL f u) = - sg (evalL f v):=by
 have h1:lo≤u:=by rcases h1 with h|h<;>grind
 have h2:v≤hi:=by rcases h2 with h|h<;>grind
 have q1:evalL f u≠0∧cS f lo-cS f u=0:=by
  by_cases e:u=lo
  ·subst e;exact⟨(A.ends bH).1,by omega⟩
  ·by_cases e2:hi≤u
   ·rw[A.high bH e2] at hu;omega
   ·rcases A.gJ bH (x:=u) (by grind) (by grind) with k|k|k
    ·exact k.2
    ·omega
    ·omega
 have q2:evalL f v≠0∧cS f lo-cS f v=1:=by
  by_cases e:v=hi
  ·subst e;exact(A.ends bH).2
  ·by_cases e2:v≤lo
   ·rw[A.low bH e2] at hv;omega
   ·rcases A.gJ bH (x:=v) (by grind) (by grind) with k|k|k
    ·omega
    ·omega
    ·exact k.2
 have hp:=OK A.zf A.f0 A.zK q1.1 q2.1
 unfold cS at *
 rcases hp with ⟨_,k⟩|⟨k,_⟩
 ·omega
 ·exact k
end dH
theorem iE{h:List Rat}{R u v:Rat}(hu:ab u≤R)(hv:ab v≤R)(hs:evalL h u=0∨evalL h v=0∨sg (evalL h u) = - sg (evalL h v)){x:Rat}(h1:u≤x)(h2:x≤v):ab (evalL h x)≤lip h R*(v-u):=by
 have hx:=a8 h1 h2 hu hv
 have d1:=w5 hx hu h
 have d2:=w5 hx hv h
 have hR:0≤R:=Rat.le_trans (bJ u) hu
 have hl:=gK hR h
 have w1:ab (x-u)≤v-u:=by rcases cf (x-u) with k|k<;>grind
 have w2:ab (x-v)≤v-u:=by rcases cf (x-v) with k|k<;>grind
 have e1:=Rat.mul_le_mul_of_nonneg_left w1 hl
 have e2:=Rat.mul_le_mul_of_nonneg_left w2 hl
 have PE:=bk (evalL h x)
 have hsu:=bk (evalL h u)
 have hsv:=bk (evalL h v)
 have a1:=cf (evalL h x-evalL h u)
 have a2:=cf (evalL h x-evalL h v)
 have a3:=cf (evalL h x)
 rcases hs with hs|hs|hs
 ·rw[hs] at d1
  have:evalL h x-0=evalL h x:=by grind
  rw[this] at d1
  grind
 ·rw[hs] at d2
  have:evalL h x-0=evalL h x:=by grind
  rw[this] at d2
  grind
 ·rcases hsu with k|k|k<;>rcases hsv with m|m|m<;>first|(exfalso;have:=k.2;have:=m.2;omega)|skip
  all_goals rcases PE with n|n|n<;>grind
def xv(f:List Rat)(lo hi:Rat)(p:List Rat)(s:Int):Prop :=
 (s=0∧∀u v,aK f lo hi u=1→aK f lo hi v = -1→¬o6 p u v)∨((s=1∨s = -1)∧∃u v,aK f lo hi u=1∧aK f lo hi v = -1∧o6 p u v∧sg (evalL p u)=s)
theorem xv.uniq{f:List Rat}{lo hi:Rat}(A:dH f lo hi){p:List Rat}{s t:Int}(h:xv f lo hi p s)(k:xv f lo hi p t):s=t:=by
 rcases h with ⟨rfl,h⟩|⟨_,u,v,h1,h2,h3,h4⟩
 ·rcases k with ⟨rfl,_⟩|⟨_,u,v,h1,h2,h3,_⟩
  ·rfl
  ·exact absurd h3 (h u v h1 h2)
 ·rcases k with ⟨rfl,k⟩|⟨_,u',v',k1,k2,k3,k4⟩
  ·exact absurd h3 (k u v h1 h2)
  ·have l1:=A.qo h1 h2
   have l2:=A.qo k1 k2
   have l3:=A.qo h1 k2
   have l4:=A.qo k1 h2
   rw[←h4,←k4]
   by_cases hh:u≤u'
   ·exact qi hh (h3.sub Rat.le_refl (Rat.le_of_lt l4))
   ·exact(qi (by grind) (k3.sub Rat.le_refl (Rat.le_of_lt l3))).symm
end Go.Proofs.YtllmkadmohkbfaaGreatDoor.Sym
namespace Go.Proofs.YtllmkadmohkbfaaGreatDoor.Sym
set_option linter.unusedVariables false
set_option linter.unusedSectionVars false
def Zr(f:List Rat)(lo hi:Rat)(p:List Rat):Prop:=∀u v,aK f lo hi u=1→aK f lo hi v = -1→¬o6 p u v
theorem Zr.dv{f:List Rat}{lo hi:Rat}{p q:List Rat}(h:Zr f lo hi p)(hd:Dv p q):Zr f lo hi q:=fun u v h1 h2 h3=>h u v h1 h2 (yZ h3 hd)
theorem oG{p:List Rat}{x:Rat}(h:evalL p x≠0):∃δ,0<δ∧o6 p (x-δ) (x+δ):=by
 have hR:0≤ab x+1:=by have:=bJ x;grind
 obtain⟨t,t1,t2,t3⟩:=vJ (a:=ab (evalL p x)) (b:=2*lip p (ab x+1)) (δ:=1) (B8 h) (by have:=gK hR p;grind) (by decide)
 refine⟨t,t1,ab (evalL p x)-t*lip p (ab x+1),by have:=gK hR p;have:=Rat.mul_nonneg (Rat.le_of_lt t1) this;grind,fun y h1 h2 => ?_⟩
 have hy:ab y≤ab x+1:=by
  have:=kD x (y-x)
  have e:x+(y-x)=y:=by grind
  rw[e] at this
  rcases cf (y-x) with k|k<;>grind
 have hd:=w5 (R:=ab x+1) (x:=x) (by grind) hy p
 have Hw:ab (x-y)≤t:=by rcases cf (x-y) with k|k<;>grind
 have h3:=Rat.mul_le_mul_of_nonneg_left Hw (gK hR p)
 have h4:=kD (evalL p y) (evalL p x-evalL p y)
 have e:evalL p y+(evalL p x-evalL p y)=evalL p x:=by grind
 rw[e] at h4
 grind
namespace dH
variable {f:List Rat} {lo hi:Rat}
theorem pt(he:lo=hi):aK f lo hi lo≤0:=by unfold aK;rw[if_pos he,ix];omega
theorem inside(A:dH f lo hi)(bH:lo<hi){u v:Rat}(hu:aK f lo hi u=1)(hv:aK f lo hi v = -1):∃a b,u≤a∧b≤v∧lo≤a∧b≤hi∧aK f lo hi a=1∧aK f lo hi b = -1:=by
 by_cases h1:lo≤u
 ·by_cases h2:v≤hi
  ·exact⟨u,v,Rat.le_refl,Rat.le_refl,h1,h2,hu,hv⟩
  ·exact⟨u,hi,Rat.le_refl,by grind,h1,Rat.le_refl,hu,A.high bH Rat.le_refl⟩
 ·by_cases h2:v≤hi
  ·exact⟨lo,v,by grind,Rat.le_refl,Rat.le_refl,h2,A.low bH Rat.le_refl,hv⟩
  ·exact⟨lo,hi,by grind,by grind,Rat.le_refl,Rat.le_refl,A.low bH Rat.le_refl,A.high bH Rat.le_refl⟩
theorem own(A:dH f lo hi):Zr f lo hi f:=fun u v hu hv h=>by
 by_cases he:lo=hi
 ·have hz:evalL f lo=0:=by
   rcases A.DN with ⟨_,k⟩|⟨k,_⟩
   ·exact k
   ·grind
  have h1:u≤lo:=by
   refine Rat.not_lt.1 fun bH => ?_
   have:=A.mono bH (pt he)
   omega
  have h2:lo≤v:=by
   refine Rat.not_lt.1 fun bH => ?_
   have:=A.kx bH A.lR
   omega
  exact h.ne h1 h2 hz
 ·have bH:lo<hi:=by have:=A.le;grind
  obtain⟨a,b,i1,i2,i3,i4,i5,i6⟩:=A.inside bH hu hv
  have dK:=A.qo i5 i6
  have hs:=A.xY i5 i6 (Or.inl i3) (Or.inl i4) bH
  have ha:=h.sub i1 i2
  have:=qi (Rat.le_of_lt dK) ha
  have hn:=rC (ha.ne Rat.le_refl (Rat.le_of_lt dK))
  omega
theorem XO(A:dH f lo hi)(V:List Rat){u v ε:Rat}(hu:aK f lo hi u=1)(hv:aK f lo hi v = -1)(hε:0<ε):∃a b,u≤a∧b≤v∧aK f lo hi a=1∧aK f lo hi b = -1∧∀x,a≤x→x≤b→ab (evalL V x*evalL f x)<ε:=by
 obtain⟨R,hR,r1,r2⟩:=w7 (a:=u) (b:=v)
 have hm:=Rat.mul_nonneg (pE hR V) (gK hR f)
 obtain⟨t,t1,t2,t3⟩:=vJ (a:=ε) (b:=nrm V R*lip f R) (δ:=1) hε hm (by decide)
 have fin:∀a b x,u≤a→b≤v→b-a≤t→a≤x→x≤b→ab (evalL f x)≤lip f R*(b-a)→ab (evalL V x*evalL f x)<ε:=by
  intro a b x h1 h2 h3 h4 h5 h6
  have hx:ab x≤R:=a8 (show u≤x by grind) (show x≤v by grind) r1 r2
  have e1:=kc hx V
  have e2:=Rat.mul_le_mul_of_nonneg_left h3 (gK hR f)
  rw[fQ]
  have e3:=cM e1 (Rat.le_trans h6 e2) (bJ _) (Rat.mul_nonneg (gK hR f) (Rat.le_of_lt t1))
  grind
 by_cases he:lo=hi
 ·obtain⟨a,b,n1,n2,n3,n4,n5⟩:=A.Pv hu hv t1
  refine⟨a,b,n1,n2,n3,n4,fun x h1 h2=>fin a b x n1 n2 n5 h1 h2 ?_⟩
  have hz:evalL f lo=0:=by
   rcases A.DN with ⟨_,k⟩|⟨k,_⟩
   ·exact k
   ·grind
  have k1:a≤lo:=by
   refine Rat.not_lt.1 fun bH => ?_
   have:=A.mono bH (pt he)
   omega
  have k2:lo≤b:=by
   refine Rat.not_lt.1 fun bH => ?_
   have:=A.kx bH A.lR
   omega
  have hx:ab x≤R:=a8 (show u≤x by grind) (show x≤v by grind) r1 r2
  have DK:ab lo≤R:=a8 (show u≤lo by grind) (show lo≤v by grind) r1 r2
  have hd:=w5 hx DK f
  rw[hz] at hd
  have e:evalL f x-0=evalL f x:=by grind
  rw[e] at hd
  have hw:ab (x-lo)≤b-a:=by rcases cf (x-lo) with k|k<;>grind
  exact Rat.le_trans hd (Rat.mul_le_mul_of_nonneg_left hw (gK hR f))
 ·have bH:lo<hi:=by have:=A.le;grind
  obtain⟨a0,b0,i1,i2,i3,i4,i5,i6⟩:=A.inside bH hu hv
  obtain⟨a,b,n1,n2,n3,n4,n5⟩:=A.Pv i5 i6 t1
  refine⟨a,b,by grind,by grind,n3,n4,fun x h1 h2=>fin a b x (by grind) (by grind) n5 h1 h2 ?_⟩
  have hs:=A.xY n3 n4 (Or.inl (by grind)) (Or.inl (by grind)) bH
  have dK:=A.qo n3 n4
  exact iE (a8 (show u≤a by grind) (show a≤v by grind) r1 r2) (a8 (show u≤b by grind) (show b≤v by grind) r1 r2) (Or.inr (Or.inr hs)) h1 h2
theorem comb(A:dH f lo hi){p g U V:List Rat}(hg:∀x,evalL g x=evalL U x*evalL p x+evalL V x*evalL f x)(hp:Zr f lo hi p):Zr f lo hi g:=fun u v hu hv h=>by
 obtain⟨c,c0,hc⟩:=h
 have AM:0<c/2:=mv c0 (by decide)
 have ON:c/2+c/2=c:=by rw[Rat.div_def];have:(2:Rat)*2⁻¹=1:=Rat.mul_inv_cancel 2 (by decide);grind
 obtain⟨a,b,n1,n2,n3,n4,n5⟩:=A.XO V hu hv AM
 have dK:=A.qo n3 n4
 obtain⟨R,hR,r1,r2⟩:=w7 (a:=a) (b:=b)
 have hN:0<nrm U R+1:=by have:=pE hR U;grind
 refine hp a b n3 n4 ⟨c/2/(nrm U R+1),mv AM hN,fun x h1 h2 => ?_⟩
 have e1:=hc x (by grind) (by grind)
 have e2:=n5 x h1 h2
 rw[hg x] at e1
 have e3:=kD (evalL U x*evalL p x) (evalL V x*evalL f x)
 have e4:c/2≤ab (evalL U x*evalL p x):=by grind
 rw[fQ] at e4
 have hx:ab x≤R:=a8 h1 h2 r1 r2
 have e5:=Rat.mul_le_mul_of_nonneg_right (show ab (evalL U x)≤nrm U R+1 by have:=kc hx U;grind) (bJ (evalL p x))
 refine Rat.not_lt.1 fun bH => ?_
 have e6:=Rat.mul_lt_mul_of_pos_left bH hN
 have e7:(nrm U R+1)*(c/2/(nrm U R+1))=c/2:=by rw[Rat.mul_comm];exact Rat.div_mul_cancel (by grind)
 rw[e7] at e6
 grind
theorem Ki(A:dH f lo hi){p:List Rat}(zp:aJ p=false):Zr f lo hi p↔Zr f lo hi (bF p f):=by
 obtain⟨U,V,h⟩:=tZ p f zp A.zf
 exact⟨A.comb h,fun hg=>hg.dv (gR p f zp A.zf).1⟩
theorem zc(A:dH f lo hi){x:Rat}(h:aK f lo hi x=1):∃y,x<y∧aK f lo hi y=1:=by
 by_cases he:lo=hi
 ·have hx:x<lo:=by
   unfold aK at h
   rw[if_pos he] at h
   rcases cX lo x with k|k|k
   ·omega
   ·omega
   ·exact k.1
  obtain⟨t,t1,t2,t3⟩:=vJ (a:=lo-x) (b:=1) (δ:=1) (by grind) (by decide) (by decide)
  exact⟨x+t,by grind,A.kx (y:=lo) (by grind) A.lR⟩
 ·have bH:lo<hi:=by have:=A.le;grind
  by_cases hx:x<lo
  ·exact⟨lo,hx,A.low bH Rat.le_refl⟩
  ·have q:evalL f x≠0∧cS f lo-cS f x=0∧x<hi:=by
    by_cases e:x=lo
    ·subst e;exact⟨(A.ends bH).1,by omega,bH⟩
    ·by_cases e2:hi≤x
     ·rw[A.high bH e2] at h;omega
     ·rcases A.gJ bH (x:=x) (by grind) (by grind) with k|k|k
      ·exact⟨k.2.1,k.2.2,by grind⟩
      ·omega
      ·omega
   obtain⟨δ,d0,hd⟩:=oG q.1
   obtain⟨t,t1,t2,t3⟩:=vJ (a:=hi-x) (b:=1) (δ:=δ) (by grind) (by decide) d0
   have hk:=Dw A.zf A.f0 A.zK (show x≤x+t by grind) (hd.sub (by grind) (by grind))
   refine⟨x+t,by grind,?_⟩
   rcases A.gJ bH (x:=x+t) (by grind) (by grind) with k|k|k
   ·exact k.1
   ·have:=hd.ne (x:=x+t) (by grind) (by grind);exact absurd k.2 this
   ·have:=k.2.2;unfold cS at *;omega
theorem Kj(A:dH f lo hi){x:Rat}(h:aK f lo hi x = -1):∃y,y<x∧aK f lo hi y = -1:=by
 by_cases he:lo=hi
 ·have hx:lo<x:=by
   unfold aK at h
   rw[if_pos he] at h
   rcases cX lo x with k|k|k
   ·exact k.1
   ·omega
   ·omega
  obtain⟨t,t1,t2,t3⟩:=vJ (a:=x-lo) (b:=1) (δ:=1) (by grind) (by decide) (by decide)
  exact⟨x-t,by grind,A.mono (x:=lo) (by grind) (pt he)⟩
 ·have bH:lo<hi:=by have:=A.le;grind
  by_cases hx:hi<x
  ·exact⟨hi,hx,A.high bH Rat.le_refl⟩
  ·have q:evalL f x≠0∧cS f lo-cS f x=1∧lo<x:=by
    by_cases e:x=hi
    ·subst e;exact⟨(A.ends bH).2.1,(A.ends bH).2.2,bH⟩
    ·by_cases e2:x≤lo
     ·rw[A.low bH e2] at h;omega
     ·rcases A.gJ bH (x:=x) (by grind) (by grind) with k|k|k
      ·omega
      ·omega
      ·exact⟨k.2.1,k.2.2,by grind⟩
   obtain⟨δ,d0,hd⟩:=oG q.1
   obtain⟨t,t1,t2,t3⟩:=vJ (a:=x-lo) (b:=1) (δ:=δ) (by grind) (by decide) d0
   have hk:=Dw A.zf A.f0 A.zK (show x-t≤x by grind) (hd.sub (by grind) (by grind))
   refine⟨x-t,by grind,?_⟩
   rcases A.gJ bH (x:=x-t) (by grind) (by grind) with k|k|k
   ·have:=k.2.2;unfold cS at *;omega
   ·have:=hd.ne (x:=x-t) (by grind) (by grind);exact absurd k.2 this
   ·exact k.1
theorem ma(A:dH f lo hi){x:Rat}(hx:aK f lo hi x=0){p:List Rat} : Zr f lo hi p↔evalL p x=0:=by
 constructor
 ·intro h
  refine Classical.byContradiction fun dk => ?_
  obtain⟨δ,d0,hd⟩:=oG dk
  exact h _ _ (A.kx (y:=x) (by grind) (by omega)) (A.mono (x:=x) (by grind) (by omega)) hd
 ·intro h u v hu hv ha
  have h1:u≤x:=by
   refine Rat.not_lt.1 fun bH => ?_
   have:=A.mono bH (by omega);omega
  have h2:x≤v:=by
   refine Rat.not_lt.1 fun bH => ?_
   have:=A.kx bH (by omega);omega
  exact ha.ne h1 h2 h
end dH
def xZ(f:List Rat)(lo hi:Rat)(g:List Rat)(lo' hi':Rat):Prop:=∃x,aK f lo hi x = -1∧aK g lo' hi' x=1
def xw(f:List Rat)(lo hi:Rat)(g:List Rat)(lo' hi':Rat):Prop:=∀x,aK f lo hi x=aK g lo' hi' x
section
variable {f g:List Rat} {lo hi lo' hi':Rat}
theorem w8(A:dH f lo hi)(B:dH g lo' hi')(h:xZ f lo hi g lo' hi'):¬xw f lo hi g lo' hi':=fun e=>by
 obtain⟨x,h1,h2⟩:=h
 rw[e x] at h1;omega
theorem x5(A:dH f lo hi)(B:dH g lo' hi')(h:xZ f lo hi g lo' hi'):¬xZ g lo' hi' f lo hi:=fun k=>by
 obtain⟨x,h1,h2⟩:=h
 obtain⟨y,k1,k2⟩:=k
 have a:=A.qo k2 h1
 have b:=B.qo h2 k1
 grind
theorem Ex(A:dH f lo hi)(B:dH g lo' hi'){x:Rat}(h:aK f lo hi x<aK g lo' hi' x):xZ f lo hi g lo' hi':=by
 rcases A.three x with k|k|k
 ·rcases B.three x with m|m|m<;>omega
 ·rcases B.three x with m|m|m
  ·obtain⟨y,h1,h2⟩:=B.zc m
   exact⟨y,A.mono h1 (by omega),h2⟩
  ·omega
  ·omega
 ·rcases B.three x with m|m|m
  ·exact⟨x,k,m⟩
  ·obtain⟨y,h1,h2⟩:=A.Kj k
   exact⟨y,h2,B.kx h1 (by omega)⟩
  ·omega
theorem Nh(A:dH f lo hi)(B:dH g lo' hi'):xZ f lo hi g lo' hi'∨xw f lo hi g lo' hi'∨xZ g lo' hi' f lo hi:=by
 by_cases h:xw f lo hi g lo' hi'
 ·exact Or.inr (Or.inl h)
 ·obtain⟨x,hx⟩:∃x,aK f lo hi x≠aK g lo' hi' x:=Classical.byContradiction fun XN=>h (fun x=>Classical.byContradiction fun hx=>XN ⟨x,hx⟩)
  by_cases bH:aK f lo hi x<aK g lo' hi' x
  ·exact Or.inl (Ex A B bH)
  ·exact Or.inr (Or.inr (Ex B A (x:=x) (by omega)))
theorem A7(A:dH f lo hi)(B:dH g lo' hi'):xw f lo hi g lo' hi'↔(Zr f lo hi g∧0≤aK f lo hi lo'∧aK f lo hi hi'≤0):=by
 constructor
 ·intro e
  refine⟨fun u v h1 h2=>B.own u v (by rw[←e u];exact h1) (by rw[←e v];exact h2),by rw[e];exact B.lR,by rw[e];exact B.nF⟩
 ·rintro ⟨hz,h1,h2⟩
  by_cases he:lo'=hi'
  ·have h0:aK f lo hi lo'=0:=by rw[←he] at h2;omega
   intro x
   unfold aK
   rw[if_pos he]
   change aK f lo hi x=_
   rcases cX lo' x with k|k|k
   ·rw[k.2];exact A.mono k.1 (by omega)
   ·rw[k.2,←k.1];exact h0
   ·rw[k.2];exact A.kx k.1 (by omega)
  ·have bH:lo'<hi':=by have:=B.le;grind
   have E:=B.ends bH
   have l1:aK f lo hi lo'=1:=by
    rcases A.three lo' with k|k|k
    ·exact k
    ·exact absurd ((A.ma k).1 hz) E.1
    ·omega
   have l2:aK f lo hi hi' = -1:=by
    rcases A.three hi' with k|k|k
    ·omega
    ·exact absurd ((A.ma k).1 hz) E.2.1
    ·exact k
   rcases Nh A B with h|h|h
   ·exfalso
    obtain⟨x,k1,k2⟩:=h
    by_cases e:x≤lo'
    ·have:=A.qo l1 k1;grind
    ·by_cases e2:hi'≤x
     ·rw[B.high bH e2] at k2;omega
     ·rcases B.gJ bH (x:=x) (by grind) (by grind) with m|m|m
      ·exact hz lo' x l1 k1 (B.OO bH (by grind) m.2.2)
      ·omega
      ·omega
   ·exact h
   ·exfalso
    obtain⟨x,k1,k2⟩:=h
    by_cases e:x≤lo'
    ·rw[B.low bH e] at k1;omega
    ·by_cases e2:hi'≤x
     ·have:=A.qo k2 l2;grind
     ·rcases B.gJ bH (x:=x) (by grind) (by grind) with m|m|m
      ·omega
      ·omega
      ·exact hz x hi' k2 l2 (B.F6 bH (by grind) (by grind) m.2.1 m.2.2)
end
end Go.Proofs.YtllmkadmohkbfaaGreatDoor.Sym
namespace Go.Proofs.YtllmkadmohkbfaaGreatDoor.Sym
set_option linter.unusedVariables false
set_option linter.unusedSectionVars false
namespace dH
variable {f:List Rat} {lo hi:Rat}
theorem aa8(A:dH f lo hi)(bH:lo<hi){u:Rat}(h1:lo≤u)(hu:aK f lo hi u=1):evalL f u≠0∧cS f lo-cS f u=0:=by
 by_cases e:u=lo
 ·subst e;exact⟨(A.ends bH).1,by omega⟩
 ·by_cases e2:hi≤u
  ·rw[A.high bH e2] at hu;omega
  ·rcases A.gJ bH (x:=u) (by grind) (by grind) with k|k|k
   ·exact k.2
   ·omega
   ·omega
theorem XP(A:dH f lo hi)(bH:lo<hi){v:Rat}(h2:v≤hi)(hv:aK f lo hi v = -1):evalL f v≠0∧cS f lo-cS f v=1:=by
 by_cases e:v=hi
 ·subst e;exact(A.ends bH).2
 ·by_cases e2:v≤lo
  ·rw[A.low bH e2] at hv;omega
  ·rcases A.gJ bH (x:=v) (by grind) (by grind) with k|k|k
   ·omega
   ·omega
   ·exact k.2
theorem Ey(A:dH f lo hi)(bH:lo<hi){g:List Rat}(zg:aJ g=false)(g0:g≠[])(hd:Dv g f):(0<fR (aG g) lo-fR (aG g) hi)↔Zr f lo hi g:=by
 obtain⟨G1,G2,G3,G4,k, -,G5⟩:=free_spec zg g0
 have E:=A.ends bH
 have hGf:Dv (aM g) f:=G4.trans hd
 have dk:∀x,evalL f x≠0→evalL (aM g) x≠0:=fun x hx e=>by
  obtain⟨u,hu⟩:=hGf
  exact hx (by rw[hu x,e];grind)
 have zz:Zr f lo hi g↔Zr f lo hi (aM g):=by
  constructor
  ·intro h u v h1 h2 h3
   exact(h.dv G5) u v h1 h2 (xW h3 k)
  ·intro h
   exact h.dv G4
 have IS:=kE G1 G2 G3 (Rat.le_of_lt bH)
 change (0<cS (aM g) lo-cS (aM g) hi)↔_
 rw[zz]
 constructor
 ·intro hc u v hu hv ha
  obtain⟨a,b,i1,i2,i3,i4,i5,i6⟩:=A.inside bH hu hv
  have dK:=A.qo i5 i6
  have l:=A.aa8 bH i3 i5
  have r:=A.XP bH i4 i6
  have w1:=yZ (A.OO bH i3 l.2) hGf
  have w2:=yZ (A.F6 bH (by grind) i4 r.1 r.2) hGf
  have w3:=ha.sub i1 i2
  have hk:=Dw G1 G2 G3 (Rat.le_of_lt bH) ((w1.join w3).join w2)
  unfold cS at hc
  omega
 ·intro hz
  refine Classical.byContradiction fun hc => ?_
  exact hz lo hi (A.low bH Rat.le_refl) (A.high bH Rat.le_refl) (ou G1 G2 G3 (Rat.le_of_lt bH) (by unfold cS at hc;omega) (dk _ E.1))
theorem Aw(A:dH f lo hi)(p:List Rat)(zp:aJ p=false):bF p f≠[]:=nh (kO _ _ _ zp A.zf) (tI _ _ _ (Or.inr ⟨A.f0,by omega⟩))
theorem RS(A:dH f lo hi){g:List Rat}(zg:aJ g=false)(g0:g≠[])(hl:g.length<2):¬Zr f lo hi g:=fun h=>by
 have:=List.length_pos_iff.2 g0
 obtain⟨c,rfl⟩:∃c,g=[c]:=List.length_eq_one_iff.1 (by omega)
 have hc:c≠0:=eH zg g0
 exact h _ _ A.Wy.1 A.Wy.2 ⟨ab c,B8 hc,fun x _ _=>by rw[fL];exact Rat.le_refl⟩
end dH
def ua(p f:List Rat)(lo hi:Rat):Bool :=
 if p.length=0 then true else if (bF p f).length<2 then false else if lo=hi then decide (evalL (bF p f) lo=0) else decide (0<fR (aG (bF p f)) lo-fR (aG (bF p f)) hi)
def Dx(p f:List Rat)(lo hi:Rat):Bool :=
 if p.length=0 then true else if lo=hi then decide (evalL p lo=0) else decide (0<fR (aG (bF p f)) lo-fR (aG (bF p f)) hi)
theorem OP{f:List Rat}{lo hi:Rat}(A:dH f lo hi):Zr f lo hi []:=fun u v hu hv ⟨c,c0,h⟩=>by
 have:=h u Rat.le_refl (Rat.le_of_lt (A.qo hu hv))
 change c≤ab 0 at this
 rw[sr] at this
 grind
theorem qT{f:List Rat}{lo hi:Rat}(he:lo=hi):aK f lo hi lo=0:=by unfold aK;rw[if_pos he,ix]
theorem ub{f:List Rat}{lo hi:Rat}(A:dH f lo hi){p:List Rat}(zp:aJ p=false):ua p f lo hi=true↔Zr f lo hi p:=by
 unfold ua
 by_cases h0:p.length=0
 ·rw[if_pos h0,List.eq_nil_of_length_eq_zero h0]
  exact⟨fun _=>OP A,fun _=>rfl⟩
 ·rw[if_neg h0]
  have FV:=A.Aw p zp
  have zg:=gD p f
  by_cases h2:(bF p f).length<2
  ·rw[if_pos h2]
   refine⟨fun h=>absurd h (by decide),fun h => ?_⟩
   exact absurd ((A.Ki zp).1 h) (A.RS zg FV h2)
  ·rw[if_neg h2]
   by_cases he:lo=hi
   ·rw[if_pos he,decide_eq_true_iff,A.Ki zp,A.ma (qT he)]
   ·rw[if_neg he,decide_eq_true_iff,A.Ki zp,A.Ey (by have:=A.le;grind) zg FV (gR p f zp A.zf).2]
theorem uc{f:List Rat}{lo hi:Rat}(A:dH f lo hi){p:List Rat}(zp:aJ p=false):Dx p f lo hi=true↔Zr f lo hi p:=by
 unfold Dx
 by_cases h0:p.length=0
 ·rw[if_pos h0,List.eq_nil_of_length_eq_zero h0]
  exact⟨fun _=>OP A,fun _=>rfl⟩
 ·rw[if_neg h0]
  have FV:=A.Aw p zp
  have zg:=gD p f
  by_cases he:lo=hi
  ·rw[if_pos he,decide_eq_true_iff,A.ma (qT he)]
  ·rw[if_neg he,decide_eq_true_iff,A.Ki zp,A.Ey (by have:=A.le;grind) zg FV (gR p f zp A.zf).2]
def midQ(lo hi:Rat):Rat:=Rat.divInt 1 2*(lo+hi)
def c9(f:List Rat)(lo hi:Rat):Rat×Rat :=
 if lo=hi then (lo,hi) else if aK f lo hi (midQ lo hi)=0 then (midQ lo hi,midQ lo hi) else if aK f lo hi (midQ lo hi)=1 then (midQ lo hi,hi) else (lo,midQ lo hi)
theorem qj(lo hi:Rat):midQ lo hi+midQ lo hi=lo+hi:=by
 unfold midQ
 have:Rat.divInt 1 2+Rat.divInt 1 2=1:=by decide +kernel
 grind
theorem dD{f:List Rat}{lo hi:Rat}(A:dH f lo hi):dH f (c9 f lo hi).1 (c9 f lo hi).2∧(∀x,aK f (c9 f lo hi).1 (c9 f lo hi).2 x=aK f lo hi x)∧lo≤(c9 f lo hi).1∧(c9 f lo hi).2≤hi∧((c9 f lo hi).2-(c9 f lo hi).1)+((c9 f lo hi).2-(c9 f lo hi).1)≤hi-lo:=by
 have hle:=A.le
 have hm:=qj lo hi
 unfold c9
 by_cases he:lo=hi
 ·rw[if_pos he]
  exact⟨A,fun _=>rfl,Rat.le_refl,Rat.le_refl,by subst he;grind⟩
 ·have bH:lo<hi:=by grind
  rw[if_neg he]
  generalize midQ lo hi=m at *
  rcases A.three m with k|k|k
  ·rw[if_neg (by omega),if_pos k]
   obtain⟨s1,s2⟩:=A.sub (u:=m) (v:=hi) (by grind) Rat.le_refl (Or.inr ⟨by grind,k,A.high bH Rat.le_refl⟩)
   exact⟨s1,s2,by grind,Rat.le_refl,by grind⟩
  ·rw[if_pos k]
   obtain⟨s1,s2⟩:=A.sub (u:=m) (v:=m) (by grind) (by grind) (Or.inl ⟨rfl,k⟩)
   exact⟨s1,s2,by grind,by grind,by grind⟩
  ·rw[if_neg (by omega),if_neg (by omega)]
   obtain⟨s1,s2⟩:=A.sub (u:=lo) (v:=m) Rat.le_refl (by grind) (Or.inr ⟨by grind,A.low bH Rat.le_refl,k⟩)
   exact⟨s1,s2,Rat.le_refl,by grind,by grind⟩
end Go.Proofs.YtllmkadmohkbfaaGreatDoor.Sym
namespace Go.Proofs.YtllmkadmohkbfaaGreatDoor.Sym
open Go Path dE
set_option linter.unusedVariables false
abbrev pq(q:List Rat):PV:=ae (q.map aE)
theorem getM{q:List Rat}{n:Nat}{v:Rat}(h:q[n]? = some v):(q.map aE)[n]? = some (aE v):=by rw[List.getElem?_map,h];rfl
theorem bf(q:List Rat):(q.map aE).length=q.length:=List.length_map ..
theorem mw{k:Nat}{q:List Rat}(h:Fl k q)(hk:k≤68719476736):iN 274877906944 (q.map aE):=wX (cL h (by omega))
def rG(p q:List ah):Int:=if kN p=0 then kN q else kN p
theorem Ax{m t:Nat}{f g:Nat→Rat}{v:Rat}(ht:t<m)(hv:f t=v)(ho:∀i,i≠t→f i=g i):((pD m g).map aE).set t (aE v)=(pD m f).map aE:=by
 rw[←List.map_set,RD g v ht]
 congr 1
 refine B7 (fun i _ => ?_)
 split
 ·rename_i e;rw[e,hv]
 ·rename_i e;exact(ho i e).symm
theorem LP{a b n:Nat}{p q:List Rat}(hp:Fl a p)(hq:Fl b q)(ha:1≤a)(hb:1≤b)(hn:p.length≤n∨q.length≤n)(t i:Nat):ht (coef (mulL (p.take t) q) i)≤n*(a+b+1)+1:=by
 have EF:∀i,ht (coef (p.take t) i)≤a:=nT (fun x hx=>hp x (List.mem_of_mem_take hx)) ha
 rcases hn with h|h
 ·have h1:=Ap (p.take t) q i EF (nT hq hb)
  have h2:(p.take t).length*(a+b+1)≤n*(a+b+1):=Nat.mul_le_mul_right _ (by rw[List.length_take];omega)
  omega
 ·rw[IA]
  have h1:=Ap q (p.take t) i (nT hq hb) EF
  have h2:q.length*(b+a+1)≤n*(b+a+1):=Nat.mul_le_mul_right _ h
  rw[Nat.add_comm b a] at h1 h2
  omega
namespace qG
theorem Trim{k:Nat}(q:List Rat)(hl:q.length≤1000000)(hf:Fl k q)(hk:k≤68719476736):Cp 182 [pq q] (pq (aU q)):=by
 have:=uh.Trim (q.map aE) (by rw[bf];omega) (mw hf hk)
 rwa[cO] at this
theorem E9(p:List Rat)(t:Nat):Cp 212 [pq p,vI (t:Int)] (aE (coef p t)).pv:=by
 by_cases h:t<p.length
 ·exact tc.e0 _ _ t _ (by rw[bf];omega) rfl (getM (qQ h))
 ·rw[gg (by omega)]
  exact tc.e1 _ _ (by rw[bf];omega)
theorem plus{a b d:Nat}(p q:List Rat)(c:Rat)(By:p.length≤100000)(Yu:q.length≤100000)(hp:Fl a p)(hq:Fl b q)(hc:ht c≤d)(ha:1≤a)(hb:1≤b)(hk:a+b+d+1≤68719476736):Cp 127 [pq p,pq q,(aE c).pv] (pq (aU (ft p (bn c q)))):=by
 have HD:∀i,ht (coef p i)≤a∧ht (coef q i)≤b:=fun i=>⟨nT hp ha i,nT hq hb i⟩
 have O6:max (p.map aE).length (q.map aE).length=max p.length q.length:=by rw[bf,bf]
 have loop:∀(j t:Nat),max p.length q.length-t=j→xM.aj (p.map aE) (q.map aE) t (aE c) ((pD (max p.length q.length) (fun i=>if i<t then coef p i+c*coef q i else 0)).map aE) (pq (aU (ft p (bn c q)))):=by
  intro j
  induction j with
  |zero =>
   intro t hj
   have e:aU (ft p (bn c q))=aU (pD (max p.length q.length) (fun i=>if i<t then coef p i+c*coef q i else 0)):=by
    refine oC (fun i => ?_)
    rw[km,ck]
    by_cases hi:i<max p.length q.length
    ·rw[sl (lQ _ hi),if_pos (by omega)]
    ·rw[gg (p:=pD _ _) (by rw[fZ];omega),gg (p:=p) (by omega),gg (p:=q) (by omega)];grind
   rw[e]
   refine xM.dw _ _ t _ _ _ (by omega) (by rw[O6,bf,fZ]) (Trim (k:=a+b+d+1) _ (by rw[fZ];omega) (pC (fun i => ?_)) hk)
   obtain⟨c1,c2⟩:=HD i
   have h1:=dP c (coef q i)
   have h2:=jg (coef p i) (c*coef q i)
   have h0:=jF
   by_cases hi:i<max p.length q.length
   ·rw[sl (lQ _ hi),if_pos (by omega)];omega
   ·rw[gg (p:=pD _ _) (by rw[fZ];omega),h0];omega
  |succ j ih =>
   intro t hj
   obtain⟨c1,c2⟩:=HD t
   have h1:=dP c (coef q t)
   refine xM.l10 _ _ t _ _ _ _ _ _ (by omega) (E9 p t) (E9 q t) (QF.Mul c (coef q t) (by omega) (by omega)) (QF.Add (coef p t) (c*coef q t) (by omega) (by omega)) (by rw[bf,fZ];omega) (by omega) ?_
   rw[Ax (f:=fun i=>if i<t+1 then coef p i+c*coef q i else 0) (by omega) (if_pos (by omega)) (fun i hi=>by
    by_cases h:i<t
    ·rw[if_pos h,if_pos (by omega)]
    ·rw[if_neg h,if_neg (by omega)])]
   exact ih (t+1) (by omega)
 have:=loop _ 0 rfl
 refine xM.e0 _ _ _ (by omega) ?_
 rw[O6,Er]
 exact this
theorem times{a b:Nat}(n:Nat)(p q:List Rat)(By:p.length≤100000)(Yu:q.length≤100000)(hp:Fl a p)(hq:Fl b q)(ha:1≤a)(hb:1≤b)(hn:p.length≤n∨q.length≤n)(hk:(n+1)*(a+b+1)+1≤68719476736):Cp 126 [pq p,pq q] (pq (aU (mulL p q))):=by
 rw[Nat.add_mul] at hk
 by_cases h0:p.length=0
 ·rw[List.eq_nil_of_length_eq_zero h0]
  exact mF.e0 _ _ rfl
 by_cases h1:q.length=0
 ·have e:aU (mulL p q)=aU []:=xU (fun x=>by rw[aO,List.eq_nil_of_length_eq_zero h1];show _*(0:Rat)=0;rw[Rat.mul_zero])
  rw[e]
  exact mF.e1 _ _ (by rw[bf];exact h0) (by rw[bf];exact h1)
 have hm:∀i,p.length+q.length-1≤i→∀t,coef (mulL (p.take t) q) i=0:=by
  intro i hi t
  have key:∀(p:List Rat) (i:Nat),p.length+q.length-1≤i→coef (mulL p q) i=0:=by
   intro p
   induction p with
   |nil=>intro i _;rfl
   |cons c p ih =>
    intro i hi
    rw[List.length_cons] at hi
    rw[oB,gg (p:=q) (by omega)]
    cases i with
    |zero=>rw[qh];grind
    |succ i =>
     rw[iD]
     cases p with
     |nil=>rw[mulL,pB];grind
     |cons d p=>rw[ih i (by omega)];grind
  exact key _ i (by rw[List.length_take];omega)
 have bG:=LP hp hq ha hb hn
 have outer:∀(j t:Nat),p.length-t=j→t≤p.length→mF.aj (q.map aE) (p.length+q.length-1) (p.map aE) t ((pD (p.length+q.length-1) (coef (mulL (p.take t) q))).map aE) (pq (aU (mulL p q))):=by
  intro j
  induction j with
  |zero =>
   intro t hj ht
   have e:aU (mulL p q)=aU (pD (p.length+q.length-1) (coef (mulL (p.take t) q))):=by
    refine oC (fun i => ?_)
    rw[A5 (fun i hi=>hm i hi t),List.take_of_length_le (by omega)]
   rw[e]
   refine mF.dw _ _ _ t _ _ (by rw[bf];omega) (by rw[bf,fZ]) (Trim (k:=n*(a+b+1)+1) _ (by rw[fZ];omega) (pC (fun i => ?_)) (by omega))
   rw[A5 (fun i hi=>hm i hi t)]
   exact bG t i
  |succ j ih =>
   intro t hj ht
   obtain⟨v,hv⟩:∃v,p[t]? = some v:=⟨_,List.getElem?_eq_getElem (by omega)⟩
   have hvh:=hp v (List.mem_of_getElem? hv)
   refine mF.l10 _ _ _ t _ (aE v) (by rw[bf];omega) (getM hv) ?_
   have inner:∀(k u:Nat),q.length-u=k→u≤q.length→mF.cz (q.map aE) (p.length+q.length-1) t (p.map aE) t u (aE v) ((pD (p.length+q.length-1) (fun i=>coef (mulL (p.take t) q) i+if t≤i∧i<t+u then v*coef q (i-t) else 0)).map aE) (pq (aU (mulL p q))):=by
    intro k
    induction k with
    |zero =>
     intro u YW hu
     refine mF.AR _ _ t _ t u _ _ (by rw[bf];omega) (by omega) ?_
     have:=ih (t+1) (by omega) (by omega)
     rwa[B7 (f:=coef (mulL (p.take (t+1)) q)) (g:=fun i=>coef (mulL (p.take t) q) i+if t≤i∧i<t+u then v*coef q (i-t) else 0) (fun i hi=>by
      rw[IB hv,nC,ck]
      congr 1
      by_cases h1:i<t
      ·rw[if_pos h1,if_neg (by omega)]
      ·rw[if_neg h1]
       by_cases h2:i<t+u
       ·rw[if_pos (by omega)]
       ·rw[if_neg (by omega),gg (p:=q) (by omega),Rat.mul_zero])] at this
    |succ k W0 =>
     intro u YW hu
     obtain⟨w,hw⟩:∃w,q[u]? = some w:=⟨_,List.getElem?_eq_getElem (by omega)⟩
     have hwh:=hq w (List.mem_of_getElem? hw)
     have hg:t+u<p.length+q.length-1:=by omega
     have b1:=bG t (t+u)
     have b2:=dP v w
     refine mF.xl _ _ t _ t u _ _ (aE w) (aE (coef (mulL (p.take t) q) (t+u))) _ _ (by rw[bf];omega) (getM hw) (by omega) hg ?_ (QF.Mul v w (by omega) (by omega)) (QF.Add (coef (mulL (p.take t) q) (t+u)) (v*w) (by omega) (by omega)) (by rw[bf,fZ];omega) (by omega) ?_
     ·rw[getM (lQ _ hg),if_neg (by omega),Rat.add_zero]
     ·rw[Ax (f:=fun i=>coef (mulL (p.take t) q) i+if t≤i∧i<t+(u+1) then v*coef q (i-t) else 0) hg (by
       rw[if_pos (by omega),show t+u-t=u from by omega,sl hw]) (fun i hi=>by
       congr 1
       by_cases h:t≤i∧i<t+u
       ·rw[if_pos h,if_pos (by omega)]
       ·rw[if_neg h,if_neg (by omega)])]
      exact W0 (u+1) (by omega) (by omega)
   have:=inner _ 0 rfl (by omega)
   rwa[B7 (g:=coef (mulL (p.take t) q)) (fun i hi=>by rw[if_neg (by omega),Rat.add_zero])] at this
 have:=outer _ 0 rfl (by omega)
 refine mF.e2 _ _ (p.length+q.length-1) (by rw[bf];exact h0) (by rw[bf];exact h1) (by rw[bf,bf];omega) (by rw[bf,bf];unfold aw;omega) (by rw[bf,bf];omega) (by omega) ?_
 rw[Er]
 exact this
theorem jR(p q:List ah)(hp:iN 274877906944 p)(hq:iN 274877906944 q):Cp 125 [bq (an ah.cells) [p,q]] (bC (l6 (rG p q))):=by
 have h1:=uh.Check p hp
 have h2:=uh.Check q hq
 refine pr.e0 [p,q] ?_
 unfold rG
 by_cases e:kN p=0
 ·rw[if_pos e]
  rw[e] at h1
  refine pr.l10 _ 0 p (by simp) rfl h1 (by omega) ?_
  by_cases e2:kN q=0
  ·rw[e2] at h2 ⊢
   exact pr.l10 _ 1 q (by simp) rfl h2 (by omega) (pr.ji _ 2 (by simp))
  ·rw[gw e2] at h2 ⊢
   exact pr.dw _ 1 q _ (by simp) rfl h2
 ·rw[if_neg e]
  rw[gw e] at h1 ⊢
  exact pr.dw _ 0 p _ (by simp) rfl h1
end qG
namespace ui
theorem Trim{k:Nat}(q:List Rat)(hl:q.length≤1000000)(hf:Fl k q)(hk:k≤68719476736):Cp 106 [pq q] (pq (aU q)):=by
 have:=zJ.Trim (q.map aE) (by rw[bf];omega) (mw hf hk)
 rwa[cO] at this
theorem plus{a b d:Nat}(p q:List Rat)(c:Rat)(s:Nat)(By:p.length≤100000)(Yu:q.length+s≤100000)(hp:Fl a p)(hq:Fl b q)(hc:ht c≤d)(ha:1≤a)(hb:1≤b)(hk:a+b+d+1≤68719476736):Cp 244 [pq p,pq q,(aE c).pv,vI (s:Int)] (pq (aU (ft p (jP s (bn c q))))):=by
 have HD:∀i,ht (coef p i)≤a∧ht (coef q i)≤b:=fun i=>⟨nT hp ha i,nT hq hb i⟩
 have bd:∀i j,ht (coef p i+c*coef q j)≤a+b+d+1:=by
  intro i j
  have c1:=(HD i).1
  have c2:=(HD j).2
  have h1:=dP c (coef q j)
  have h2:=jg (coef p i) (c*coef q j)
  omega
 have loop:∀(j t:Nat),q.length-t=j→t≤q.length→lN.aj (s:Int) (max p.length (q.length+s)) (q.map aE) t (aE c) ((pD (max p.length (q.length+s)) (fun i=>if s≤i∧i<s+t then coef p i+c*coef q (i-s) else coef p i)).map aE) (pq (aU (ft p (jP s (bn c q))))):=by
  intro j
  induction j with
  |zero =>
   intro t hj ht
   have e:aU (ft p (jP s (bn c q)))=aU (pD (max p.length (q.length+s)) (fun i=>if s≤i∧i<s+t then coef p i+c*coef q (i-s) else coef p i)):=by
    refine oC (fun i => ?_)
    rw[km,nC,ck]
    by_cases hi:i<max p.length (q.length+s)
    ·rw[sl (lQ _ hi)]
     by_cases h1:i<s
     ·rw[if_pos h1,if_neg (by omega),Rat.add_zero]
     ·rw[if_neg h1]
      by_cases h2:i<s+t
      ·rw[if_pos (by omega)]
      ·rw[if_neg (by omega),gg (p:=q) (by omega),Rat.mul_zero,Rat.add_zero]
    ·rw[gg (p:=pD _ _) (by rw[fZ];omega),gg (p:=p) (by omega),if_neg (by omega),gg (p:=q) (by omega)];grind
   rw[e]
   refine lN.dw _ _ _ t _ _ _ (by rw[bf];omega) (by rw[bf,fZ]) (Trim (k:=a+b+d+1) _ (by rw[fZ];omega) (pC (fun i => ?_)) hk)
   have h0:=jF
   by_cases hi:i<max p.length (q.length+s)
   ·rw[sl (lQ _ hi)]
    split
    ·exact bd _ _
    ·have:=(HD i).1;omega
   ·rw[gg (p:=pD _ _) (by rw[fZ];omega),h0];omega
  |succ j ih =>
   intro t hj ht
   obtain⟨w,hw⟩:∃w,q[t]? = some w:=⟨_,List.getElem?_eq_getElem (by omega)⟩
   have hwh:=hq w (List.mem_of_getElem? hw)
   have c1:=(HD (t+s)).1
   have h1:=dP c w
   have hg:t+s<max p.length (q.length+s):=by omega
   refine lN.l10 _ _ _ t _ _ (aE w) (t+s) (aE (coef p (t+s))) _ _ (t+s) (by rw[bf];omega) (getM hw) (by unfold aw;omega) (by omega) hg ?_ (QR.Mul c w (by omega) (by omega)) (QR.Add (coef p (t+s)) (c*w) (by omega) (by omega)) (by omega) hg (by rw[bf,fZ];omega) (by omega) ?_
   ·rw[getM (lQ _ hg),if_neg (by omega)]
   ·rw[Ax (f:=fun i=>if s≤i∧i<s+(t+1) then coef p i+c*coef q (i-s) else coef p i) hg (by
     rw[if_pos (by omega),show t+s-s=t from by omega,sl hw]) (fun i hi=>by
     by_cases h:s≤i∧i<s+t
     ·rw[if_pos h,if_pos (by omega)]
     ·rw[if_neg h,if_neg (by omega)])]
    exact ih (t+1) (by omega) (by omega)
 have:=loop _ 0 rfl (by omega)
 have bz:(p.map aE).take (min (p.map aE).length (max p.length (q.length+s)))++(List.replicate (max p.length (q.length+s)) (⟨false,[],[]⟩:ah)).drop (min (p.map aE).length (max p.length (q.length+s)))=(pD (max p.length (q.length+s)) (fun i=>if s≤i∧i<s+0 then coef p i+c*coef q (i-s) else coef p i)).map aE:=by
  rw[bf,Nat.min_eq_left (by omega),List.take_of_length_le (by rw[bf];omega)]
  refine List.ext_getElem? fun i => ?_
  by_cases hi:i<max p.length (q.length+s)
  ·rw[getM (lQ _ hi),if_neg (by omega)]
   by_cases h2:i<p.length
   ·rw[List.getElem?_append_left (by rw[bf];exact h2),getM (qQ h2)]
   ·rw[List.getElem?_append_right (by rw[bf];omega),List.getElem?_drop,List.getElem?_replicate,bf,if_pos (by omega),gg (by omega)];rfl
  ·rw[List.getElem?_eq_none (by rw[List.length_append,bf,List.length_drop,List.length_replicate];omega),List.getElem?_eq_none (by rw[bf,fZ];omega)]
 refine lN.e0 _ _ _ _ (max p.length (q.length+s)) (by rw[bf];unfold aw;omega) (by rw[bf,bf];omega) (by omega) (by rw[bf,List.length_replicate];omega) ?_
 rw[bz]
 exact this
theorem both(p q:List ah)(hp:iN 274877906944 p)(hq:iN 274877906944 q):Cp 167 [ae p,ae q] (vI (rG p q)):=by
 have h1:=zJ.Check p hp
 have h2:=zJ.Check q hq
 unfold rG
 by_cases e:kN p=0
 ·rw[if_pos e]
  exact ri.e1 _ _ _ _ h1 e h2
 ·rw[if_neg e]
  exact ri.e0 _ _ _ h1 e
end ui
end Go.Proofs.YtllmkadmohkbfaaGreatDoor.Sym
