/- Lemmas for the statements of this seat. -/
import Derived.Test.YtcpnocgollpbhaaGreatDoorG1
import Derived.Test.YtcpnocgollpbhaaGreatDoorP2
namespace Go.Proofs.YtcpnocgollpbhaaGreatDoor.Sym
open Go Path cV
set_option linter.unusedVariables false
namespace Qa
theorem xx(a:ag)(h:jL a):Cp 86 [a.pv,(⟨false,[],[]⟩:ag).pv] (aI a.val).pv:=by have hf:=Ak.Add a ⟨false,[],[]⟩ h ⟨by simp,by simp⟩;rwa[vD (a:=⟨false,[],[]⟩) rfl,agS] at hf
theorem P8:∀(n:Nat) (q:List Rat),q.length=n→n<4611686018427387904→Fl 274877906944 q→cU.a8 (q.map aI) (ae ((aP q).map aI)):=by
 intro n
 induction n with
 |zero =>intro q hq _ _;have:q=[]:=afr hq;subst this;exact cU.Py [] (by simp)
 |succ n ih =>
  intro q hq hb hf;obtain⟨v,hv⟩:∃v,q[n]? = some v:=⟨_,afp (by omega)⟩;have hs:=G3 hv hq;have hm:(q.map aI)[n]? = some (aI v):=by rw[afu,hv];rfl
  have GX:=hf v (afx hv);have sg:=Ak.Sign (aI v) (jx GX);rw[bI] at sg;have hl:(q.map aI).length=n+1:=by rw[afq];exact hq
  by_cases h0:v=0
  ·refine cU.uF (q.map aI) n (aI v) _ n (by omega) (by unfold ay;omega) (by omega) (by omega) hm sg (gM.2 h0) (by omega) (by omega) ?_;have:=ih (q.take n) (by rw[afK];omega) (by omega) (fun x hx=>hf x (ahY hx));rw[ahh] at this;rw[hs,h0,tx];rw[←hs.symm,←h0,←hs] at *;exact this
  ·rw[hs,yI h0,←hs];exact cU.xe (q.map aI) n (aI v) _ (by omega) (by unfold ay;omega) (by omega) (by omega) hm sg (fun e=>h0 (gM.1 e))
theorem Trim(l:List ag)(hl:l.length≤1099511627776)(hf:mX 274877906944 l):Cp 42 [ae l] (ae ((aP (bV l)).map aI)):=by
 have loop:∀(j t:Nat) (site:List ag),l.length-t=j→t≤l.length→site=(l.take t).map (fun a=>aI a.val)→cU.ah site l t (ae ((aP (bV l)).map aI)):=by
  intro j
  induction j with
  |zero =>
   intro t site hj ht hs;have yh:t=l.length:=by omega
   subst yh;refine cU.cB site l _ (afy _) ?_;rw[afD (afy _)] at hs;have:=P8 (bV l).length (bV l) rfl (by unfold bV;rw[afq];omega) (vF hf (by omega));have e:site=(bV l).map aI:=by rw[hs];unfold bV;rw[ahT];rfl
   rw[e];exact this
  |succ j ih =>
   intro t site hj ht hs;obtain⟨v,hv⟩:∃v,l[t]? = some v:=⟨_,afp (by omega)⟩;have ha:=xx v (hf v (afx hv));have WH:site.length=t:=by rw[hs,afq,afK];omega
   refine cU.l10 site l t v _ (by omega) hv ha (by simp;omega) (by omega) (ih (t+1) _ (by omega) (by omega) ?_);rw[hs,ag4,hv];simp
 exact cU.e0 l (loop _ 0 [] rfl (by omega) rfl)
theorem KW:∀(j:Nat) (p:List ag) (t:Nat),p.length-t=j→t≤p.length→p.length≤65→mX 274877906944 p→(p.take t).all ag.valid=true →
  (p.all ag.valid=false→bD.ah p t (vI 2))∧(p.all ag.valid=true→aS (bV p)=true→bD.ah p t (vI 8))∧(p.all ag.valid=true→aS (bV p)=false→bD.ah p t (vI 0)):=by
 intro j
 induction j with
 |zero =>
  intro p t hj ht hl hf hv;have yh:t=p.length:=by omega
  subst yh;rw[afD (afy _)] at hv;refine⟨fun h => ?_,fun _ hz => ?_,fun _ hz => ?_⟩
  ·rw[hv] at h;cases h
  ·obtain⟨v,h0,h1,h2⟩:=DK hz;have sg:=Ak.Sign v (hf v (afx h1));exact bD.jT p _ (p.length-1) v _ (afy _) h0 (by unfold ay;omega) (by omega) h1 sg (gM.2 h2)
  ·by_cases h0:p.length=0
   ·exact bD.Bz p _ (afy _) (by omega)
   ·obtain⟨v,h1,h2⟩:=Bc hz h0;have sg:=Ak.Sign v (hf v (afx h1));exact bD.tN p _ (p.length-1) v _ (afy _) (by omega) (by unfold ay;omega) (by omega) h1 sg (fun e=>h2 (gM.1 e))
 |succ j ih =>
  intro p t hj ht hl hf hv;obtain⟨v,h1⟩:∃v,p[t]? = some v:=⟨_,afp (by omega)⟩;have Sv:=Ak.Valid v (hf v (afx h1));cases hc:v.valid with
  |false =>
   have zB:p.all ag.valid=false:=by rw[List.all_eq_false];exact⟨v,afx h1,by rw[hc];simp⟩
   refine⟨fun _=>bD.l10 p t v _ (by omega) h1 Sv hc,fun h => ?_,fun h => ?_⟩
   ·rw[zB] at h;cases h
   ·rw[zB] at h;cases h
  |true =>obtain⟨g1,g2,g3⟩:=ih p (t+1) (by omega) (by omega) hl hf (by rw[ag4,h1];simp[hv,hc]);exact⟨fun h=>bD.cB p t v _ (by omega) h1 Sv hc (by omega) (g1 h),fun h h'=>bD.cB p t v _ (by omega) h1 Sv hc (by omega) (g2 h h'),fun h h'=>bD.cB p t v _ (by omega) h1 Sv hc (by omega) (g3 h h')⟩
theorem Check(p:List ag)(hf:mX 274877906944 p):Cp 162 [ae p] (vI (tX p)):=by
 unfold tX;by_cases hl:p.length≤65
 ·rw[afG (by omega)];obtain⟨g1,g2,g3⟩:=KW _ p 0 rfl (by omega) hl hf (by simp);cases hv:p.all ag.valid with
  |false=>exact bD.e1 p hl (g1 hv)
  |true =>
   cases hz:aS (bV p) with
   |true=>exact bD.e1 p hl (g2 hv hz)
   |false=>exact bD.e1 p hl (g3 hv hz)
 ·rw[afI (by omega)];exact bD.e0 p (by omega)
theorem P9(p:List ag)(x:ag)(hl:p.length≤65)(hp:mX 1073741824 p)(hx:x.num.length≤1073741824∧x.den.length≤1073741824):∀(n:Nat) (q:Rat),n≤p.length→q=evalL ((bV p).drop n) x.val →
  iO.ah p ((n:Int)-1) x (aI q) (aI (evalL (bV p) x.val)).pv:=by
 intro n
 induction n with
 |zero =>intro q _ hq;rw[agB] at hq;rw[←hq];exact iO.cB p _ x _ (by omega)
 |succ n ih =>
  intro q hn hq;obtain⟨v,hv⟩:∃v,p[n]? = some v:=⟨_,afp (by omega)⟩;have Rr:=hp v (afx hv);have b1:=eK Rr.1 Rr.2 (by omega);have b2:=eK hx.1 hx.2 (by omega);have b3:ht q≤65*2147483649+1:=by
   rw[hq];refine afJ (rB _ x.val 1073741824 (fun y hy=>vF hp (by omega) y (aip hy)) b2) ?_;have:((bV p).drop (n+1)).length≤65:=by unfold bV;simp;omega
   omega
  have m:=Ak.Mul (aI q) x (jx (by omega)) ⟨by omega,by omega⟩;rw[bI] at m;have b4:=nS q x.val;have s:=Ak.Add (aI (q*x.val)) v (jx (by omega)) ⟨by omega,by omega⟩;rw[bI] at s;have:=ih (q*x.val+v.val) (by omega) (by rw[hq,FC hv];rfl);rw[show ((n+1:Nat):Int)-1=(n:Int) from by omega];exact iO.l10 p (n:Int) x _ _ n v _ (by omega) m rfl hv s (by unfold ay;omega) this
theorem At(p:List ag)(x:ag)(hl:p.length≤65)(hp:mX 1073741824 p)(hx:x.num.length≤1073741824∧x.den.length≤1073741824):Cp 208 [ae p,x.pv] (aI (evalL (bV p) x.val)).pv:=by exact iO.e0 p x (by unfold ay;omega) (P9 p x hl hp hx p.length 0 (afy _) (by rw[afV (by unfold bV;simp)];rfl))
theorem derive(p:List ag)(hl:p.length≤65)(hp:mX 137438953472 p):Cp 165 [ae p] (ae ((ax (bV p)).map aI)):=by
 have loop:∀(j i:Nat) (site:List ag),p.length-i=j→i≤p.length→site=(gN 1 (((bV p).take i).drop 1)).map aI→eo.ah site p i (ae ((ax (bV p)).map aI)):=by
  intro j
  induction j with
  |zero =>intro i site hj h1 hs;rw[afD (by unfold bV;rw[afq];omega)] at hs;have qE:Fl 274877906944 (gN 1 ((bV p).drop 1)):=G6 (k:=137438953472) (by omega) _ 1 (by unfold bV;simp;omega) (fun y hy=>vF hp (by omega) y (aip hy));have ht:=Trim site (by rw[hs,afq,ov];unfold bV;simp;omega) (by rw[hs];exact G4 qE);rw[hs,gI] at ht;rw[hs];exact eo.jT _ p i _ (by omega) ht
  |succ j ih =>
   intro i site hj h1 hs;obtain⟨v,hv⟩:∃v,p[i]? = some v:=⟨_,afp (by omega)⟩;by_cases hi:i=0
   ·subst hi;refine eo.cB site p 0 v (by omega) hv (by omega) (by omega) (ih 1 site (by omega) (by omega) ?_);rw[hs];simp
   ·have Rr:=hp v (afx hv);have ho:=Ak.Of (i:Int) (by unfold ay;omega);have b1:ht ((i:Int):Rat)≤2:=by
     rw[DI];have:wl (i:Int)≤2:=lE (by omega);omega
    have m:=Ak.Mul (aI ((i:Int):Rat)) v (jx (by omega)) ⟨by omega,by omega⟩;rw[bI] at m;have WH:site.length=i-1:=by rw[hs,afq,ov];unfold bV;simp;omega
    refine eo.l10 site p i v _ _ (by omega) hv (by omega) ho m (by simp;omega) (by omega) (ih (i+1) _ (by omega) (by omega) ?_);rw[hs,FF hv (by omega)];simp
 exact eo.e0 p (loop _ 0 [] rfl (by omega) (by rw[show (((bV p).take 0).drop 1)=[] from by simp];rfl))
theorem Al(p:List ag)(hc:tX p=0)(hp:mX 137438953472 p):Cp 210 [ae p] (.aF [ae ((ax (bV p)).map aI),vI 0]):=by have hk:=Check p (fun a ha=>⟨by have:=(hp a ha).1;omega,by have:=(hp a ha).2;omega⟩);exact og.e1 p _ _ hk hc (derive p (G5 hc) hp)
end Qa
theorem vG{p q:Rat} : 0≤ig p q↔q≤p:=by
 constructor
 ·intro h;have:¬p<q:=fun e=>by have:=BY.2 e;omega
  grind
 ·intro h;refine Int.not_lt.1 fun e => ?_
  have:=BY.1 e;grind
theorem yK{p q:Rat} : ig p q≤0↔p≤q:=by
 constructor
 ·intro h;have:¬q<p:=fun e=>by have:=Mf.2 e;omega
  grind
 ·intro h;refine Int.not_lt.1 fun e => ?_
  have:=Mf.1 e;grind
theorem drop_cons{α:Type}{l:List α}{t:Nat}{v:α}(h:l[t]? = some v):l.drop t=v::l.drop (t+1):=by obtain⟨h1,h2⟩:=afs.1 h;rw[ah3 h1,h2]
theorem EP{q:Rat}(h:ht q≤68719476736):jL (aI q):=jx (by omega)
theorem Am(p q:Rat):EO p q≤p:=by
 unfold EO;split
 ·exact afR
 ·rename_i h;have:=mt yK.2 h;grind
theorem An(p q:Rat):EO p q≤q:=by
 unfold EO;split
 ·rename_i h;exact yK.1 h
 ·exact afR
namespace QF
theorem Add(p q:Rat)(hp:ht p≤68719476736)(hq:ht q≤68719476736):Cp 62 [(aI p).pv,(aI q).pv] (aI (p+q)).pv:=by have h:=uS.Add (aI p) (aI q) ⟨by have:=(bF hp).1;omega,by have:=(bF hp).2;omega⟩ ⟨by have:=(bF hq).1;omega,by have:=(bF hq).2;omega⟩;rwa[bI,bI] at h
theorem Sub(p q:Rat)(hp:ht p≤68719476736)(hq:ht q≤68719476736):Cp 186 [(aI p).pv,(aI q).pv] (aI (p-q)).pv:=by have h:=uS.Sub (aI p) (aI q) ⟨by have:=(bF hp).1;omega,by have:=(bF hp).2;omega⟩ ⟨by have:=(bF hq).1;omega,by have:=(bF hq).2;omega⟩;rwa[bI,bI] at h
theorem Mul(p q:Rat)(hp:ht p≤68719476736)(hq:ht q≤68719476736):Cp 117 [(aI p).pv,(aI q).pv] (aI (p*q)).pv:=by have h:=uS.Mul (aI p) (aI q) ⟨by have:=(bF hp).1;omega,by have:=(bF hp).2;omega⟩ ⟨by have:=(bF hq).1;omega,by have:=(bF hq).2;omega⟩;rwa[bI,bI] at h
theorem yE(p q:Rat)(hp:ht p≤68719476736)(hq:ht q≤68719476736):Cp 17 [(aI p).pv,(aI q).pv] (vI (ig p q)):=by have h:=uS.yE (aI p) (aI q) ⟨by have:=(bF hp).1;omega,by have:=(bF hp).2;omega⟩ ⟨by have:=(bF hq).1;omega,by have:=(bF hq).2;omega⟩;rwa[bI,bI] at h
theorem Div(p q:Rat)(hp:ht p≤68719476736)(hq:ht q≤68719476736)(h0:q≠0):Cp 180 [(aI p).pv,(aI q).pv] (.aF [(aI (p/q)).pv,.aC]):=by have h:=uS.Div (aI p) (aI q) (EP hp) (EP hq) (by rw[bI];exact h0);rwa[bI,bI] at h
theorem Sign(p:Rat)(hp:ht p≤68719476736):Cp 119 [(aI p).pv] (vI (ig p 0)):=by have h:=uS.Sign (aI p) (EP hp);rwa[bI] at h
theorem Neg(p:Rat)(hp:ht p≤68719476736):Cp 128 [(aI p).pv] (aI (-p)).pv:=by have h:=uS.Neg (aI p) (EP hp);rwa[bI] at h
theorem Valid(p:Rat)(hp:ht p≤68719476736):Cp 102 [(aI p).pv] (vB true):=by have h:=uS.Valid (aI p) (EP hp);rwa[su] at h
theorem xx(p:Rat)(hp:ht p≤68719476736):Cp 62 [(aI p).pv,(⟨false,[],[]⟩:ag).pv] (aI p).pv:=by have h:=Add p 0 hp (by decide);rwa[agS] at h
end QF
namespace QR
theorem Add(p q:Rat)(hp:ht p≤68719476736)(hq:ht q≤68719476736):Cp 86 [(aI p).pv,(aI q).pv] (aI (p+q)).pv:=by have h:=Ak.Add (aI p) (aI q) ⟨by have:=(bF hp).1;omega,by have:=(bF hp).2;omega⟩ ⟨by have:=(bF hq).1;omega,by have:=(bF hq).2;omega⟩;rwa[bI,bI] at h
theorem Mul(p q:Rat)(hp:ht p≤68719476736)(hq:ht q≤68719476736):Cp 157 [(aI p).pv,(aI q).pv] (aI (p*q)).pv:=by have h:=Ak.Mul (aI p) (aI q) ⟨by have:=(bF hp).1;omega,by have:=(bF hp).2;omega⟩ ⟨by have:=(bF hq).1;omega,by have:=(bF hq).2;omega⟩;rwa[bI,bI] at h
theorem yE(p q:Rat)(hp:ht p≤68719476736)(hq:ht q≤68719476736):Cp 45 [(aI p).pv,(aI q).pv] (vI (ig p q)):=by have h:=Ak.yE (aI p) (aI q) ⟨by have:=(bF hp).1;omega,by have:=(bF hp).2;omega⟩ ⟨by have:=(bF hq).1;omega,by have:=(bF hq).2;omega⟩;rwa[bI,bI] at h
theorem Div(p q:Rat)(hp:ht p≤68719476736)(hq:ht q≤68719476736)(h0:q≠0):Cp 205 [(aI p).pv,(aI q).pv] (.aF [(aI (p/q)).pv,vI 0]):=by have h:=Ak.Div (aI p) (aI q) (EP hp) (EP hq) (by rw[bI];exact h0);rwa[bI,bI] at h
theorem Sign(p:Rat)(hp:ht p≤68719476736):Cp 85 [(aI p).pv] (vI (ig p 0)):=by have h:=Ak.Sign (aI p) (EP hp);rwa[bI] at h
theorem Neg(p:Rat)(hp:ht p≤68719476736):Cp 149 [(aI p).pv] (aI (-p)).pv:=by have h:=Ak.Neg (aI p) (EP hp);rwa[bI] at h
theorem xx(p:Rat)(hp:ht p≤68719476736):Cp 86 [(aI p).pv,(⟨false,[],[]⟩:ag).pv] (aI p).pv:=by have h:=Add p 0 hp (by decide);rwa[agS] at h
end QR
theorem QF.Make(n d:Int)(hn:ay n)(hd:ay d)(h0:d≠0):Cp 224 [vI n,vI d] (.aF [(aI (Rat.divInt n d)).pv,.aC]):=by have hw:wl n≤2:=lE (by unfold ay at hn;omega);have Eo:wl d≤2:=lE (by unfold ay at hd;omega);have hf:=uS.NL (Sym.whole n) (Sym.whole d) (show wl _≤_ by omega) (show wl _≤_ by omega) (by rw[aE];exact h0);rw[aE,aE] at hf;exact wD.e0 n d _ _ _ none (cV.Of n hn) (cV.Of d hd) hf
theorem QF.Abs(p:Rat)(hp:ht p≤68719476736):Cp 181 [(aI p).pv] (aI (if p<0 then -p else p)).pv:=by
 have hs:=QF.Sign p hp;by_cases h:p<0
 ·rw[afI h];exact tg.e0 _ _ _ hs (BY.2 h) (QF.Neg p hp)
 ·rw[afG h];have hpa:=uS.kQ (aI p) (EP hp);rw[bI] at hpa;have hf:=uS.wJ p.num (p.den:Int) (by have:=eJ p;omega) (by have:=fC p;omega) (by have:=p.den_nz;omega);rw[ahs] at hf;exact tg.e1 _ _ _ _ _ hs (vG.2 (by grind)) hpa hf
theorem QR.Make(n d:Int)(hn:ay n)(hd:ay d)(h0:d≠0):Cp 236 [vI n,vI d] (.aF [(aI (Rat.divInt n d)).pv,vI 0]):=by have hw:wl n≤2:=lE (by unfold ay at hn;omega);have Eo:wl d≤2:=lE (by unfold ay at hd;omega);have hf:=Ak.NL (Sym.whole n) (Sym.whole d) (show wl _≤_ by omega) (show wl _≤_ by omega) (by rw[aE];exact h0);rw[aE,aE] at hf;exact pZ.e0 n d _ _ _ _ (wI.Of n hn) (wI.Of d hd) hf
theorem QR.Abs(p:Rat)(hp:ht p≤68719476736):Cp 206 [(aI p).pv] (aI (if p<0 then -p else p)).pv:=by
 have hs:=QR.Sign p hp;by_cases h:p<0
 ·rw[afI h];exact mP.e0 _ _ _ hs (BY.2 h) (QR.Neg p hp)
 ·rw[afG h];exact mP.e1 _ _ _ hs (vG.2 (by grind)) (QR.xx p hp)
def TM(a b:ag):Bool:=decide (a.neg=b.neg)&&(decide (a.num=b.num)&&decide (a.den=b.den))
theorem G7{a b:ag} : TM a b=true↔a=b:=by obtain⟨n,m,d⟩:=a;obtain⟨n',m',d'⟩:=b;unfold TM;simp only[Bool.and_eq_true,decide_eq_true_eq,ag.mk.injEq]
theorem I7(a:ag):TM a a=true:=G7.2 rfl
def DL:List ag→List ag→Bool
 |[],[]=>true
 |a::r,b::s=>TM a b&&DL r s
 |_,_=>false
theorem yL:∀{p q:List ag},DL p q=true↔p=q
 |[],[]=>by simp[DL]
 |a::r,b::s=>by show(TM a b&&DL r s)=true↔_;rw[afA,G7,yL,List.cons.injEq]
 |[],b::s=>by simp[DL]
 |a::r,[]=>by simp[DL]
theorem NM(p:List ag):DL p p=true:=yL.2 rfl
theorem Mh{p q:List ag}(h:p≠q):DL p q=false:=by
 cases hb:DL p q with
 |true=>exact absurd (yL.1 hb) h
 |false=>rfl
namespace XT
theorem Words(a b:Sym.Words)(hl:a.length<9223372036854775807):Cp 167 [af a,af b] (vB (decide (a=b))):=by
 by_cases h:a.length=b.length
 ·have loop:∀(j t:Nat),a.length-t=j→t≤a.length→a.take t=b.take t→ei.ah a b t (vB (decide (a=b))):=by
   intro j
   induction j with
   |zero =>intro t hj ht he;rw[afD (by omega),afD (by omega)] at he;rw[ag6 he];exact ei.jT a b t (by omega)
   |succ j ih =>
    intro t hj ht he;obtain⟨v,hv⟩:∃v,a[t]? = some v:=⟨_,afp (by omega)⟩;obtain⟨w,hw⟩:∃w,b[t]? = some w:=⟨_,afp (by omega)⟩;by_cases h0:v.toNat=w.toNat
    ·exact ei.cB a b t v w (by omega) hv hw h0 (by omega) (ih (t+1) (by omega) (by omega) (by rw[ag4,ag4,he,hv,hw,Vy h0]))
    ·have fT:a≠b:=by
      intro e;subst e;rw[hv] at hw;injection hw with hw
      exact h0 (by rw[hw])
     rw[ag5 fT];exact ei.l10 a b t v w (by omega) hv hw h0
  exact ei.e1 a b h (loop _ 0 rfl (by omega) rfl)
 ·rw[ag5 (fun e=>h (by rw[e]))];exact ei.e0 a b h
theorem Rat(a b:ag)(h1:a.num.length<9223372036854775807)(h2:a.den.length<9223372036854775807):Cp 96 [a.pv,b.pv] (vB (TM a b)):=by
 unfold TM;by_cases hn:a.neg=b.neg
 ·rw[ag6 hn,agU];have w1:=Words a.num b.num h1;have w2:=Words a.den b.den h2;cases hw:decide (a.num=b.num) with
  |true=>rw[agU];rw[hw] at w1;exact kI.e0 a b _ _ hn w1 rfl w2
  |false=>rw[ah1];rw[hw] at w1;exact kI.e1 a b _ hn w1 rfl
 ·rw[ag5 hn,ah1];exact kI.e2 a b hn
theorem aaN(p q:List ag)(hl:p.length<9223372036854775807)(hf:∀a∈p,a.num.length<9223372036854775807∧a.den.length<9223372036854775807):Cp 46 [ae p,ae q] (vB (DL p q)):=by
 by_cases h:p.length=q.length
 ·have loop:∀(j t:Nat),p.length-t=j→t≤p.length→p.take t=q.take t→eO.ah p q t (vB (DL p q)):=by
   intro j
   induction j with
   |zero =>intro t hj ht he;rw[afD (by omega),afD (by omega)] at he;rw[yL.2 he];exact eO.jT p q t (by omega)
   |succ j ih =>
    intro t hj ht he;obtain⟨v,hv⟩:∃v,p[t]? = some v:=⟨_,afp (by omega)⟩;obtain⟨w,hw⟩:∃w,q[t]? = some w:=⟨_,afp (by omega)⟩;have Rr:=hf v (afx hv);have hr:=Rat v w Rr.1 Rr.2;cases h0:TM v w with
    |true =>rw[h0] at hr;exact eO.cB p q t v w _ (by omega) hv hw hr rfl (by omega) (ih (t+1) (by omega) (by omega) (by rw[ag4,ag4,he,hv,hw,G7.1 h0]))
    |false =>
     have fT:p≠q:=by
      intro e;subst e;rw[hv] at hw;injection hw with hw
      rw[hw,I7] at h0;cases h0
     rw[Mh fT];rw[h0] at hr;exact eO.l10 p q t v w _ (by omega) hv hw hr rfl
  exact eO.e1 p q h (loop _ 0 rfl (by omega) rfl)
 ·rw[Mh (fun e=>h (by rw[e]))];exact eO.e0 p q h
theorem Num(e:Option Int):Cp 11 [bW e] (vI (e.getD 0)):=by
 cases e with
 |none=>exact nM.e0
 |some n=>exact nM.e1 n
end XT
theorem gJ(a:Rat)(r:List Rat):aP (a::r)=bif (aP r).isEmpty&&decide (a=0) then [] else a::aP r:=rfl
theorem ow(a:Rat)(r:List Rat):(aP r=[]∧a=0∧aP (a::r)=[])∨aP (a::r)=a::aP r:=by
 rw[gJ];cases h:(aP r).isEmpty&&decide (a=0) with
 |false=>exact Or.inr rfl
 |true =>rw[afA] at h;exact Or.inl ⟨ajd.1 h.1,ahm h.2,rfl⟩
theorem gT:∀q:List Rat,(aP q).length≤q.length
 |[]=>by simp[aP]
 |a::r=>by
  rcases ow a r with ⟨_,_,e⟩|e
  ·rw[e];simp
  ·rw[e];simpa using gT r
theorem bH:∀q:List Rat,aS (aP q)=false
 |[]=>rfl
 |a::r=>by
  have ih:=bH r;rw[gJ];cases h:aP r with
  |nil =>
   by_cases h0:a=0
   ·rw[ag6 h0];rfl
   ·rw[ag5 h0];unfold aS;exact ag5 h0
  |cons b s =>rw[h] at ih;unfold aS at ih ⊢;rw[show (bif (b::s).isEmpty&&decide (a=0) then [] else a::b::s)=a::b::s from rfl];rw[List.getLast?_cons_cons];exact ih
theorem lF:∀{q:List Rat},aS q=false→aP q=q
 |[],_=>rfl
 |[a],h=>by unfold aS at h;have h:¬a=0:=of_decide_eq_false h;rw[gJ,ag5 h];rfl
 |a::b::s,h=>by unfold aS at h;rw[List.getLast?_cons_cons] at h;have:=lF (q:=b::s) h;rw[gJ,this];rfl
theorem jy{q:List Rat}(h:aS q=false)(hl:q.length≤65):tX (q.map aI)=0:=by
 unfold tX;rw[afG (by rw[afq];omega),gI,h];rw[show (q.map aI).all ag.valid=true from by rw[agb];intro a ha;obtain⟨x,_,rfl⟩:=agj.1 ha;exact su x]
 rfl
theorem bN(x:Rat):∀q:List Rat,evalL (aP q) x=evalL q x
 |[]=>rfl
 |a::r=>by
  have ih:=bN x r;rcases ow a r with ⟨h1,h2,e⟩|e
  ·rw[e,evalL,evalL,←ih,h1,h2,evalL];grind
  ·rw[e,evalL,evalL,ih]
theorem KX(q:List Rat):(aP q).drop 1=aP (q.drop 1):=by
 cases q with
 |nil=>rfl
 |cons a r =>
  rcases ow a r with ⟨h1,h2,e⟩|e
  ·rw[e];exact h1.symm
  ·rw[e];rfl
theorem DM:∀(q:List Rat) (i:Nat),aP (gN i (aP q))=aP (gN i q)
 |[],_=>rfl
 |a::r,i=>by
  have ih:=DM r (i+1);rcases ow a r with ⟨h1,h2,e⟩|e
  ·rw[e,gN,gN,gJ,←ih,h1,h2];rw[show ((i:Int):Rat)*0=0 from by grind];rfl
  ·rw[e,gN,gN,gJ,gJ,ih]
theorem wK(q:List Rat):ax (aP q)=ax q:=by unfold ax;rw[KX,DM]
theorem ER(q:List Rat)(x:Rat):evalL (ax q) x=evalL (gN 1 (q.drop 1)) x:=by unfold ax;rw[bN]
theorem I8(q:List Rat):(ax q).length≤q.length:=by unfold ax;have:=gT (gN 1 (q.drop 1));rw[ov,ahg] at this;omega
theorem bZ(q:List Rat):aS (ax q)=false:=bH _
def coef(p:List Rat)(i:Nat):Rat:=p[i]?.getD 0
def db:List Rat→List Rat→List Rat
 |[],q=>q
 |a::p,[]=>a::p
 |a::p,b::q=>(a+b)::db p q
def br(c:Rat)(q:List Rat):List Rat:=q.map (fun x=>c*x)
def mulL:List Rat→List Rat→List Rat
 |[],_=>[]
 |a::p,q=>db (br a q) (0::mulL p q)
def fD(s:Nat)(q:List Rat):List Rat:=List.replicate s 0++q
theorem lH(i:Nat):coef [] i=0:=rfl
theorem vH(a:Rat)(p:List Rat):coef (a::p) 0=a:=rfl
theorem fE(a:Rat)(p:List Rat)(i:Nat):coef (a::p) (i+1)=coef p i:=rfl
theorem mY{p:List Rat}{i:Nat}{v:Rat}(h:p[i]? = some v):coef p i=v:=by unfold coef;rw[h];rfl
theorem cW{p:List Rat}{i:Nat}(h:p.length≤i):coef p i=0:=by unfold coef;rw[ag3 h];rfl
theorem ox{p:List Rat}{i:Nat}(h:i<p.length):p[i]? = some (coef p i):=by unfold coef;rw[afp h];rfl
theorem gx:∀(p q:List Rat) (i:Nat),coef (db p q) i=coef p i+coef q i
 |[],q,i=>by rw[db,lH,aiw]
 |a::p,[],i=>by rw[db,lH,agS]
 |a::p,b::q,0=>rfl
 |a::p,b::q,i+1=>by rw[db,fE,fE,fE,gx p q i]
theorem dD(c:Rat)(q:List Rat)(i:Nat):coef (br c q) i=c*coef q i:=by
 unfold coef br;rw[afu];cases q[i]? with
 |none=>show(0:Rat)=c*0;rw[ahE]
 |some v=>rfl
theorem wL(a:Rat)(p q:List Rat)(i:Nat):coef (mulL (a::p) q) i=a*coef q i+coef (0::mulL p q) i:=by rw[mulL,gx,dD]
theorem kr(s:Nat)(q:List Rat)(i:Nat):coef (fD s q) i=if i<s then 0 else coef q (i-s):=by
 unfold coef fD;split
 ·rename_i h;rw[ah0 (by rw[agy];exact h),agL,afI h];rfl
 ·rename_i h;rw[agD (by rw[agy];omega),agy]
theorem I9:∀(p q:List Rat),(db p q).length=max p.length q.length
 |[],q=>by rw[db,ahN,Nat.zero_max]
 |a::p,[]=>by rw[db,ahN,Nat.max_zero]
 |a::p,b::q=>by rw[db,afX,afX,afX,I9 p q];omega
theorem kL(c:Rat)(q:List Rat):(br c q).length=q.length:=afq ..
theorem kM:∀{p q:List Rat},(∀i,coef p i=coef q i)→aP p=aP q
 |[],[],_=>rfl
 |[],b::q,h=>by have h0:(0:Rat)=b:=h 0;have:=kM (p:=[]) (q:=q) (fun i=>h (i+1));rw[gJ,←this,←h0];rfl
 |a::p,[],h=>by have h0:a=(0:Rat):=h 0;have:=kM (p:=p) (q:=[]) (fun i=>h (i+1));rw[gJ,this,h0];rfl
 |a::p,b::q,h=>by have h0:a=b:=h 0;rw[gJ,gJ,kM (p:=p) (q:=q) (fun i=>h (i+1)),h0]
theorem eR:∀(p:List Rat) (i:Nat),coef (aP p) i=coef p i
 |[],_=>rfl
 |a::r,i=>by
  rcases ow a r with ⟨h1,h2,e⟩|e
  ·rw[e];cases i with
   |zero=>exact h2.symm
   |succ i=>rw[fE,←eR r i,h1,lH,lH]
  ·rw[e];cases i with
   |zero=>rfl
   |succ i=>rw[fE,fE,eR r i]
theorem oy{p q:List Rat}(hp:aS p=false)(hq:aS q=false)(h:∀i,coef p i=coef q i):p=q:=by rw[←lF hp,←lF hq];exact kM h
theorem bO(x:Rat):∀(p q:List Rat),evalL (db p q) x=evalL p x+evalL q x
 |[],q=>by rw[db,evalL,aiw]
 |a::p,[]=>by rw[db,show evalL [] x=0 from rfl,agS]
 |a::p,b::q=>by rw[db,evalL,evalL,evalL,bO x p q];grind
theorem bh(c x:Rat):∀(q:List Rat),evalL (br c q) x=c*evalL q x
 |[]=>by show(0:Rat)=c*0;rw[ahE]
 |a::q=>by have:=bh c x q;show evalL (br c q) x*x+c*a=c*(evalL q x*x+a);rw[this];grind
theorem aN(x:Rat):∀(p q:List Rat),evalL (mulL p q) x=evalL p x*evalL q x
 |[],q=>by show(0:Rat)=0*_;rw[ago]
 |a::p,q=>by rw[mulL,bO,bh,evalL,aN x p q,evalL];grind
theorem tz(x:Rat):∀(s:Nat) (q:List Rat),evalL (fD s q) x=x^s*evalL q x
 |0,q=>by show evalL q x=_;rw[aik,ahl]
 |s+1,q=>by have:=tz x s q;show evalL (fD s q) x*x+0=_;rw[this,ai4];grind
def Ja(c:Rat):List Rat→List Rat
 |[]=>[]
 |[_]=>[]
 |_::b::r=>evalL (b::r) c::Ja c (b::r)
theorem Jb(c:Rat):∀p:List Rat,(Ja c p).length=p.length-1
 |[]=>rfl
 |[_]=>rfl
 |_::b::r=>by rw[Ja,afX,Jb c (b::r)];simp
theorem FG(c x:Rat):∀p:List Rat,evalL p x=evalL p c+(x-c)*evalL (Ja c p) x
 |[]=>by show(0:Rat)=0+(x-c)*0;grind
 |[a]=>by show 0*x+a=(0*c+a)+(x-c)*0;grind
 |a::b::r=>by have:=FG c x (b::r);rw[Ja];show evalL (b::r) x*x+a=(evalL (b::r) c*c+a)+(x-c)*(evalL (Ja c (b::r)) x*x+evalL (b::r) c);rw[this];grind
theorem FH(c:Rat):∀p:List Rat,evalL p c=0→(∀y∈Ja c p,y=0)→∀y∈p,y=0
 |[],_,_=>fun y h=>by cases h
 |[a],h,_=>fun y hy=>by have h:0*c+a=0:=h;rw[ah6.1 hy];grind
 |a::b::r,h,hq=>fun y hy=>by
  rw[Ja] at hq;have h1:=hq _ (agA ..);have ih:=FH c (b::r) h1 (fun z hz=>hq z (ag9 _ hz));rcases afY.1 hy with e|hy
  ·rw[evalL,h1] at h;rw[e];grind
  ·exact ih y hy
theorem FI:∀(n:Nat) (p:List Rat) (N:Nat),p.length≤n→(∀m:Nat,N≤m→evalL p ((m:Int):Rat)=0)→∀y∈p,y=0
 |0,p,N,hl,_=>fun y hy=>by have:p=[]:=afr (by omega);rw[this] at hy;cases hy
 |n+1,p,N,hl,h=>by
  have h0:=h N (afy _);refine FH _ p h0 (FI n _ (N+1) (by rw[Jb];omega) (fun m hm => ?_));have h1:=h m (by omega);rw[FG ((N:Int):Rat) _ p,h0,aiw] at h1;rcases agG.1 h1 with e|e
  ·have:((m:Int):Rat)=((N:Int):Rat):=by grind
   have:=aiD.1 this;omega
  ·exact e
theorem Qb{p:List Rat}(h:∀y∈p,y=0)(i:Nat):coef p i=0:=by
 unfold coef;cases hv:p[i]? with
 |none=>rfl
 |some v=>exact h v (afx hv)
theorem gy{p q:List Rat}(h:∀x,evalL p x=evalL q x)(i:Nat):coef p i=coef q i:=by have hz:=FI _ (db p (br (-1) q)) 0 (afy _) (fun m _=>by rw[bO,bh,h];grind);have:=Qb hz i;rw[gx,dD] at this;grind
theorem Jc{p q:List Rat}(h:∀x,evalL p x=evalL q x):aP p=aP q:=kM (gy h)
theorem vJ{k:Nat}{p:List Rat}(h:Fl k p)(hk:1≤k)(i:Nat):ht (coef p i)≤k:=by
 unfold coef;cases hv:p[i]? with
 |none=>exact afJ (ajj j9) hk
 |some v=>exact h v (afx hv)
theorem lX{k:Nat}{p:List Rat}(h:∀i,ht (coef p i)≤k):Fl k p:=by intro x hx;obtain⟨i,hi⟩:=ahn.1 hx;have:=h i;rwa[mY hi] at this
theorem cb{k m:Nat}{q:List Rat}(h:Fl k q)(hk:k≤m):Fl m q:=fun x hx=>afJ (h x hx) hk
def lI(m:Nat)(g:Nat→Rat):List Rat:=(List.range m).map g
theorem c9(m:Nat)(g:Nat→Rat):(lI m g).length=m:=by unfold lI;rw[afq,agZ]
theorem ij{m i:Nat}(g:Nat→Rat)(h:i<m):(lI m g)[i]? = some (g i):=by unfold lI;rw[afu,ahk h];rfl
theorem Qc{m i:Nat}(g:Nat→Rat)(v:Rat)(h:i<m):(lI m g).set i v=lI m (fun j=>if j=i then v else g j):=by
 refine ai3 fun j => ?_
 by_cases hj:j<m
 ·rw[ij _ hj];by_cases e:j=i
  ·subst e;rw[aib (by rw[c9];exact h),afI rfl]
  ·rw[agF (by omega),ij _ hj,afG e]
 ·rw[ag3 (by rw[ai1,c9];omega),ag3 (by rw[c9];omega)]
theorem FJ(m:Nat):List.replicate m (⟨false,[],[]⟩:ag)=(lI m (fun _=>0)).map aI:=by
 refine ai3 fun j => ?_
 rw[afu];by_cases hj:j<m
 ·rw[ij _ hj,agL,afI hj];rfl
 ·rw[ag3 (by rw[agy];omega),ag3 (by rw[c9];omega)];rfl
theorem FK{m:Nat}{g:Nat→Rat}(h:∀i,m≤i→g i=0)(i:Nat):coef (lI m g) i=g i:=by
 by_cases hi:i<m
 ·exact mY (ij g hi)
 ·rw[cW (by rw[c9];omega),h i (by omega)]
theorem KY{m:Nat}{f g:Nat→Rat}(h:∀i,i<m→f i=g i):lI m f=lI m g:=by unfold lI;exact ahM (fun i hi=>h i (ahV.1 hi))
def bz(p:List Rat):Rat:=coef p (p.length-1)
theorem cK{p:List Rat}(hz:aS p=false)(h:p≠[]):bz p≠0:=by unfold aS at hz;have hl:=afC.2 h;rw[ahy,ox (p:=p) (i:=p.length-1) (by omega)] at hz;exact of_decide_eq_false hz
theorem uT{p:List Rat}{n:Nat}(h:∀i,n≤i→coef p i=0):(aP p).length≤n:=by
 refine aiM fun dI => ?_
 have fT:aP p≠[]:=by intro e;rw[e] at dI;simp at dI
 have:=cK (bH p) fT;unfold bz at this;rw[eR,h _ (by omega)] at this;exact this rfl
def stepC(rest q:List Rat):Rat:=bz rest/bz q
def nB(rest q:List Rat):List Rat:=aP (db rest (fD (rest.length-q.length) (br (-(stepC rest q)) q)))
def oM:Nat→List Rat→List Rat→List Rat→List Rat×List Rat
 |0,out,rest,_=>(out,rest)
 |n+1,out,rest,q=>bif Nat.blt rest.length q.length then (out,rest) else oM n (aP (db out (fD (rest.length-q.length) [stepC rest q]))) (nB rest q) q
def dP(p q:List Rat):List Rat×List Rat:=oM (p.length+1) [] (aP p) q
def b8(p q:List Rat):List Rat:=(dP p q).2
def b9(p:List Rat):List Rat:=aP (br (1/bz p) p)
def lY:Nat→List Rat→List Rat→List Rat
 |0,p,_=>p
 |n+1,p,q=>bif Nat.beq q.length 0 then p else lY n q (b9 (b8 p q))
def eL(p q:List Rat):List Rat:=b9 (lY (q.length+1) p q)
def bj(p:List Rat):List Rat:=b9 (dP p (eL p (ax p))).1
theorem yM{a b:Nat} : Nat.blt a b=true↔a<b:=by rw[Nat.blt_eq]
theorem vK{a b:Nat} : Nat.blt a b=false↔b≤a:=by
 constructor
 ·intro h;exact aiM fun e=>by rw[yM.2 e] at h;cases h
 ·intro h;cases hb:Nat.blt a b with
  |true=>have:=yM.1 hb;omega
  |false=>rfl
theorem FL{rest q:List Rat}(hq:bz q≠0):stepC rest q*bz q=bz rest:=by unfold stepC;rw[afT hq]
theorem po{rest q:List Rat}(hq:bz q≠0)(o5:q.length≠0)(hl:q.length≤rest.length):(nB rest q).length<rest.length:=by
 have h:=uT (p:=db rest (fD (rest.length-q.length) (br (-(stepC rest q)) q))) (n:=rest.length-1) (fun i hi=>by
  rw[gx,kr,dD,afG (by omega)];by_cases e:i=rest.length-1
  ·have h1:=FL (rest:=rest) hq;unfold bz at h1;rw[e,show rest.length-1-(rest.length-q.length)=q.length-1 from by omega];grind
  ·rw[cW (p:=rest) (by omega),cW (p:=q) (by omega)];grind)
 unfold nB;omega
theorem KZ(rest q:List Rat)(x:Rat):evalL (nB rest q) x=evalL rest x-x^(rest.length-q.length)*stepC rest q*evalL q x:=by unfold nB;rw[bN,bO,tz,bh];grind
theorem FM{q:List Rat}(hq:bz q≠0)(o5:q.length≠0):∀(n:Nat) (out rest:List Rat),rest.length<n →
  (oM n out rest q).2.length<q.length∧∀x,evalL (oM n out rest q).1 x*evalL q x+evalL (oM n out rest q).2 x=evalL out x*evalL q x+evalL rest x
 |0,out,rest,h=>by omega
 |n+1,out,rest,h=>by
  rw[oM];cases hb:Nat.blt rest.length q.length with
  |true=>exact⟨yM.1 hb,fun x=>rfl⟩
  |false =>
   have hl:=vK.1 hb;have h1:=po hq o5 hl;rw[afP];obtain⟨g1,g2⟩:=FM hq o5 n (aP (db out (fD (rest.length-q.length) [stepC rest q]))) (nB rest q) (by omega);refine⟨g1,fun x => ?_⟩;rw[g2 x,KZ,bN,bO,tz];have:evalL [stepC rest q] x=stepC rest q:=by show 0*x+stepC rest q=stepC rest q;grind
   rw[this];grind
theorem FN{q:List Rat} : ∀(n:Nat) (out rest:List Rat),aS out=false→aS rest=false→aS (oM n out rest q).1=false∧aS (oM n out rest q).2=false
 |0,out,rest,h1,h2=>⟨h1,h2⟩
 |n+1,out,rest,h1,h2=>by
  rw[oM];cases Nat.blt rest.length q.length with
  |true=>exact⟨h1,h2⟩
  |false=>exact FN n _ _ (bH _) (bH _)
theorem ma{q:List Rat}(p:List Rat)(hz:aS q=false)(o5:q≠[]):(dP p q).2.length<q.length∧∀x,evalL (dP p q).1 x*evalL q x+evalL (dP p q).2 x=evalL p x:=by have hl:=afC.2 o5;obtain⟨g1,g2⟩:=FM (cK hz o5) (by omega) (p.length+1) [] (aP p) (by have:=gT p;omega);refine⟨g1,fun x => ?_⟩;show evalL (oM _ _ _ _).1 x*_+evalL (oM _ _ _ _).2 x=_;rw[g2 x,bN];show(0:Rat)*_+_=_;grind
theorem mb(p q:List Rat):aS (dP p q).1=false∧aS (dP p q).2=false:=FN _ _ _ rfl (bH _)
theorem jz:∀(p q:List Rat),p≠[]→q≠[]→coef (mulL p q) (p.length+q.length-2)=bz p*bz q
 |[],q,h,_=>absurd rfl h
 |[a],q,_,hq=>by
  have hl:=afC.2 hq;rw[wL];show a*coef q ([a].length+q.length-2)+coef [0] _=a*coef q (q.length-1);rw[show [a].length+q.length-2=q.length-1 from by simp;omega];have:coef [0] (q.length-1)=0:=by
   cases q.length-1 with
   |zero=>rfl
   |succ n=>rfl
  rw[this,agS]
 |a::b::r,q,_,hq=>by
  have hl:=afC.2 hq;have ih:=jz (b::r) q (by simp) hq;rw[wL,cW (p:=q) (by simp;omega)];rw[show (a::b::r).length+q.length-2=((b::r).length+q.length-2)+1 from by simp;omega,fE,ih];have:bz (a::b::r)=bz (b::r):=by unfold bz;rw[show (a::b::r).length-1=((b::r).length-1)+1 from by simp,fE]
  rw[this];grind
theorem uU{p:List Rat}{i:Nat}(h:coef p i≠0):i<p.length:=by refine ahP fun e=>h (cW e)
theorem Jd{p q a r:List Rat}(hz:aS q=false)(o5:q≠[])(ha:aS a=false)(hr:aS r=false)(hl:r.length<q.length)(h:∀x,evalL a x*evalL q x+evalL r x=evalL p x):dP p q=(a,r):=by
 obtain⟨g1,g2⟩:=ma p hz o5;obtain⟨t1,t2⟩:=mb p q;have ea:(dP p q).1=a:=by
  refine oy t1 ha (fun i => ?_);have key:aP (db (dP p q).1 (br (-1) a))=[]:=by
   refine afE fun fT => ?_
   have h1:=jz _ q fT o5;have h2:bz (aP (db (dP p q).1 (br (-1) a)))*bz q≠0:=by
    intro e;rcases agG.1 e with e|e
    ·exact cK (bH _) fT e
    ·exact cK hz o5 e
   have h3:=gy (p:=mulL (aP (db (dP p q).1 (br (-1) a))) q) (q:=db r (br (-1) (dP p q).2)) (fun x=>by have:=g2 x;have:=h x;rw[aN,bN,bO,bh,bO,bh];grind) ((aP (db (dP p q).1 (br (-1) a))).length+q.length-2)
   rw[h1,gx,dD] at h3;have hp:=afC.2 fT;rw[cW (p:=r) (by omega),cW (p:=(dP p q).2) (by omega)] at h3;exact h2 (by rw[h3];grind)
  have:=eR (db (dP p q).1 (br (-1) a)) i;rw[key,gx,dD,lH] at this;grind
 have er:(dP p q).2=r:=by refine oy t2 hr (gy (fun x => ?_));have h1:=g2 x;have h2:=h x;rw[ea] at h1;grind
 exact Prod.ext ea er
theorem mZ{p:List Rat} : aS p=false→∀c,c≠0→aS (br c p)=false:=by
 intro hz c hc;by_cases h:p=[]
 ·subst h;rfl
 ·have:=cK hz h;unfold bz at this;unfold aS;have hl:=afC.2 h;rw[ahy,kL,ox (by rw[kL];omega),dD];show decide (c*_=0)=false;refine ag5 (fun e => ?_);rcases agG.1 e with e|e
  ·exact hc e
  ·exact this e
theorem qq{c:Rat}(h:c≠0):1/c≠0:=by intro e;have:=afT (a:=1) h;rw[e,ago] at this;exact absurd this (by decide)
theorem pr{p:List Rat}(hz:aS p=false)(h:p≠[]):b9 p=br (1/bz p) p:=by unfold b9;exact lF (mZ hz _ (qq (cK hz h)))
theorem cR(p:List Rat):aS (b9 p)=false:=bH _
theorem dx{p:List Rat}(hz:aS p=false):(b9 p).length=p.length:=by
 by_cases h:p=[]
 ·subst h;rfl
 ·rw[pr hz h,kL]
theorem jf{p:List Rat}(x:Rat):evalL (b9 p) x=1/bz p*evalL p x:=by unfold b9;rw[bN,bh]
theorem Ao{p:List Rat}(hz:aS p=false)(h:p≠[]):b9 p≠[]:=by intro e;have:=dx hz;rw[e] at this;exact h (afr this.symm)
theorem Be{p:List Rat}{c:Rat}(hz:aS p=false)(hc:c≠0):b9 (br c p)=b9 p:=by
 by_cases h:p=[]
 ·subst h;rfl
 ·have ht:=cK hz h;have e:bz (br c p)=c*bz p:=by unfold bz;rw[kL,dD]
  refine oy (cR _) (cR _) (gy (fun x => ?_));rw[jf,jf,e,bh];have h1:=afT (a:=1) ht;have hct:c*bz p≠0:=fun e=>by rcases agG.1 e with e|e;exact hc e;exact ht e
  have h2:=afT (a:=1) hct;have h3:1/(c*bz p)*c=1/bz p:=by
   have:(1/(c*bz p)*c-1/bz p)*bz p=0:=by grind
   rcases agG.1 this with e|e
   ·grind
   ·exact absurd e ht
  grind
theorem uV{p:List Rat}(hz:aS p=false):b9 (b9 p)=b9 p:=by
 by_cases h:p=[]
 ·subst h;rfl
 ·rw[pr hz h,Be hz (qq (cK hz h)),pr hz h]
theorem FO{p q:List Rat}{a b:Rat}(hz:aS q=false)(hq:q≠[])(ha:a≠0)(hb:b≠0):b8 (br a p) (br b q)=br a (b8 p q):=by
 obtain⟨g1,g2⟩:=ma p hz hq;obtain⟨t1,t2⟩:=mb p q;have fQ:a/b≠0:=by intro e;have:=afT (a:=a) hb;rw[e,ago] at this;exact ha this.symm
 have:=Jd (p:=br a p) (q:=br b q) (a:=br (a/b) (dP p q).1) (r:=br a (dP p q).2) (mZ hz b hb) (by
  intro e;have:=agK List.length e;rw[kL] at this;exact hq (afr this)) (mZ t1 _ fQ) (mZ t2 _ ha) (by rw[kL,kL];exact g1) (fun x=>by
  have h1:=g2 x;have h2:=afT (a:=a) hb;rw[bh,bh,bh,bh,←h1];grind)
 unfold b8;rw[this]
theorem fX(p q:List Rat):aS (b8 p q)=false:=(mb p q).2
theorem vL(q:List Rat):br 1 q=q:=by
 unfold br
 conv=>rhs;rw[←ajo q]
 exact ahM (fun x _=>ahl x)
theorem DN{p q:List Rat}(hp:aS p=false)(hq:aS q=false)(h:q≠[]):b9 (b8 (b9 p) q)=b9 (b8 p q):=by
 by_cases iZ:p=[]
 ·subst iZ;rfl
 ·rw[pr hp iZ];have:=FO (p:=p) (a:=1/bz p) (b:=1) hq h (qq (cK hp iZ)) (by decide);rw[vL] at this;rw[this,Be (fX _ _) (qq (cK hp iZ))]
theorem Je{p q:List Rat}(hp:aS p=false)(hq:aS q=false)(h:q≠[]):b9 (b8 (b9 p) (b9 q))=b9 (b8 p q):=by
 have e:b8 p (b9 q)=b8 p q:=by rw[pr hq h];have:=FO (p:=p) (a:=1) (b:=1/bz q) hq h (by decide) (qq (cK hq h));rwa[vL,vL] at this
 rw[DN hp (cR _) (Ao hq h),e]
theorem DO:∀(n:Nat) (p q:List Rat),aS p=false→aS q=false→b9 q=q→lY n (b9 p) q=b9 (lY n p q)
 |0,p,q,_,_,_=>rfl
 |n+1,p,q,hp,hq,hm=>by
  rw[lY,lY];by_cases h:q.length=0
  ·rw[beq_iff.2 h,afz,afz]
  ·have fT:q≠[]:=fun e=>h (by rw[e];rfl)
   rw[iG.2 h,afP,afP,DN hp hq fT];have ih:=DO n q (b9 (b8 p q)) hq (cR _) (uV (fX _ _));rwa[hm] at ih
theorem Sw(p q:List Rat)(hp:aS p=false)(hq:aS q=false):lY (q.length+1) (b9 p) (b9 q)=eL p q:=by
 unfold eL;rw[lY,lY,dx hq];by_cases h:q.length=0
 ·rw[beq_iff.2 h,afz,afz]
 ·have fT:q≠[]:=fun e=>h (by rw[e];rfl)
  rw[iG.2 h,afP,afP,Je hp hq fT];exact DO _ q _ hq (cR _) (uV (fX _ _))
theorem sw:∀(n:Nat) (p q:List Rat),aS p=false→aS q=false→aS (lY n p q)=false
 |0,p,q,hp,_=>hp
 |n+1,p,q,hp,hq=>by
  rw[lY];cases Nat.beq q.length 0 with
  |true=>exact hp
  |false=>exact sw n _ _ hq (cR _)
theorem iV(p q:List Rat):aS (eL p q)=false:=cR _
theorem Mi:∀(n:Nat) (p q:List Rat),p≠[]∨(q≠[]∧0<n)→lY n p q≠[]
 |0,p,q,h=>by rcases h with h|⟨_,h⟩;exact h;omega
 |n+1,p,q,h=>by
  rw[lY];by_cases hq:q.length=0
  ·rw[beq_iff.2 hq,afz];rcases h with h|⟨h,_⟩
   ·exact h
   ·exact absurd (afr hq) h
  ·rw[iG.2 hq,afP];exact Mi n q _ (Or.inl (fun e=>hq (by rw[e];rfl)))
theorem BZ{p:List Rat}(q:List Rat)(hp:aS p=false)(hq:aS q=false)(h:p≠[]):eL p q≠[]:=Ao (sw _ _ _ hp hq) (Mi _ _ _ (Or.inl h))
def Dv(p q:List Rat):Prop:=∃u,∀x,evalL q x=evalL u x*evalL p x
def vM(p q:List Rat):Prop:=∃u v,∀x,evalL u x*evalL p x+evalL v x*evalL q x=1
def iz(t:List Rat):Nat→List Rat
 |0=>[1]
 |k+1=>mulL (iz t k) t
theorem gK(c x:Rat):evalL [c] x=c:=by show 0*x+c=c;grind
theorem DP(t:List Rat)(x:Rat):∀k,evalL (iz t k) x=evalL t x^k
 |0=>by rw[iz,gK,aik]
 |k+1=>by rw[iz,aN,DP t x k,ai4]
theorem Dv.refl(p:List Rat):Dv p p:=⟨[1],fun x=>by rw[gK,ahl]⟩
theorem Dv.trans{p q r:List Rat}(h:Dv p q)(k:Dv q r):Dv p r:=by obtain⟨u,hu⟩:=h;obtain⟨v,hv⟩:=k;exact⟨mulL v u,fun x=>by rw[hv,hu,aN];grind⟩
theorem vM.symm{p q:List Rat}(h:vM p q):vM q p:=by obtain⟨u,v,e⟩:=h;exact⟨v,u,fun x=>by have:=e x;grind⟩
theorem vM.TN{p q r:List Rat}(h:vM p q)(k:Dv r p):vM r q:=by obtain⟨u,v,e⟩:=h;obtain⟨w,hw⟩:=k;exact⟨mulL u w,v,fun x=>by have:=e x;rw[hw] at this;rw[aN];grind⟩
theorem vM.mul{p q r:List Rat}(h:vM p q)(k:vM p r):vM p (mulL q r):=by
 obtain⟨u,v,e⟩:=h;obtain⟨u',v',e'⟩:=k;refine⟨db u (mulL (mulL v q) u'),mulL v v',fun x => ?_⟩;have h1:=e x;have h2:=e' x;rw[bO,aN,aN,aN,aN];have:(evalL u x+evalL v x*evalL q x*evalL u' x)*evalL p x+evalL v x*evalL v' x*(evalL q x*evalL r x)=evalL u x*evalL p x+evalL v x*evalL q x*(evalL u' x*evalL p x+evalL v' x*evalL r x):=by grind
 rw[this,h2];grind
theorem vM.pow{p q:List Rat}(h:vM p q):∀k,vM p (iz q k)
 |0=>⟨[],[1],fun x=>by rw[iz,gK];show(0:Rat)*_+_=_;grind⟩
 |k+1=>(h.pow k).mul h
theorem vM.dv{p q r:List Rat}(h:vM p q)(k:Dv p (mulL q r)):Dv p r:=by
 obtain⟨u,v,e⟩:=h;obtain⟨w,hw⟩:=k;refine⟨db (mulL u r) (mulL v w),fun x => ?_⟩;have h1:=e x;have h2:=hw x;rw[aN] at h2;rw[bO,aN,aN];have:(evalL u x*evalL r x+evalL v x*evalL w x)*evalL p x=(evalL u x*evalL p x)*evalL r x+evalL v x*(evalL w x*evalL p x):=by grind
 rw[this,←h2];have:evalL u x*evalL p x*evalL r x+evalL v x*(evalL q x*evalL r x)=(evalL u x*evalL p x+evalL v x*evalL q x)*evalL r x:=by grind
 rw[this,h1,ahl]
theorem Mj{t a b:List Rat}(ht:aP t≠[])(h:∀x,evalL t x*evalL a x=evalL t x*evalL b x):∀x,evalL a x=evalL b x:=by
 have key:aP (db a (br (-1) b))=[]:=by
  refine afE fun fT => ?_
  have h1:=jz _ _ ht fT;have h2:=gy (p:=mulL (aP t) (aP (db a (br (-1) b)))) (q:=[]) (fun x=>by rw[aN,bN,bN,bO,bh];have:=h x;show _=(0:Rat);grind)
  rw[h2] at h1;rcases agG.1 h1.symm with e|e
  ·exact cK (bH _) ht e
  ·exact cK (bH _) fT e
 intro x;have:=bN x (db a (br (-1) b));rw[key,bO,bh] at this;have h0:(0:Rat)=evalL a x + -1*evalL b x:=this;grind
theorem Dv.len{p q:List Rat}(h:Dv p q)(hp:aS p=false)(hq:aS q=false)(h0:q≠[]):p≠[]∧p.length≤q.length:=by
 obtain⟨u,hu⟩:=h;have VN:p≠[]:=by intro e;subst e;have:∀i,coef q i=coef [] i:=gy (fun x=>by rw[hu];show _*(0:Rat)=0;rw[ahE]);exact h0 (oy hq rfl this)
 have VO:aP u≠[]:=by intro e;have:∀i,coef q i=coef [] i:=gy (fun x=>by rw[hu,←bN x u,e];show(0:Rat)*_=0;rw[ago]);exact h0 (oy hq rfl this)
 refine⟨VN,?_⟩;have h1:=jz _ p VO VN;have h2:=gy (p:=mulL (aP u) p) (q:=q) (fun x=>by rw[aN,bN,hu]);rw[h2] at h1;have h3:coef q ((aP u).length+p.length-2)≠0:=by
  rw[h1];intro e;rcases agG.1 e with e|e
  ·exact cK (bH _) VO e
  ·exact cK hp VN e
 have:=uU h3;have:=afC.2 VO;omega
theorem DQ{p:List Rat}(hz:aS p=false):Dv (b9 p) p:=by
 by_cases h:p=[]
 ·subst h;exact Dv.refl _
 ·refine⟨[bz p],fun x => ?_⟩;rw[gK,jf];have:=afT (a:=1) (cK hz h);grind
theorem Qd(p:List Rat):Dv p (b9 p):=⟨[1/bz p],fun x=>by rw[gK,jf]⟩
theorem Jf:∀(n:Nat) (p q:List Rat),aS p=false→aS q=false→∃u v,∀x,evalL (lY n p q) x=evalL u x*evalL p x+evalL v x*evalL q x
 |0,p,q,_,_=>⟨[1],[],fun x=>by rw[gK];show _=_+(0:Rat)*_;rw[lY];grind⟩
 |n+1,p,q,hp,hq=>by
  rw[lY];by_cases h:q.length=0
  ·rw[beq_iff.2 h,afz];exact⟨[1],[],fun x=>by rw[gK];show _=_+(0:Rat)*_;grind⟩
  ·have fT:q≠[]:=fun e=>h (by rw[e];rfl)
   rw[iG.2 h,afP];obtain⟨u,v,e⟩:=Jf n q (b9 (b8 p q)) hq (cR _);obtain⟨g1,g2⟩:=ma p hq fT;refine⟨br (1/bz (b8 p q)) v,db u (br (-(1/bz (b8 p q))) (mulL v (dP p q).1)),fun x => ?_⟩;have h2:evalL (dP p q).1 x*evalL q x+evalL (b8 p q) x=evalL p x:=g2 x;rw[e x,jf,bO,bh,bh,aN,←h2];grind
theorem Mk:∀(n:Nat) (p q:List Rat),aS p=false→aS q=false→q.length<n→Dv (lY n p q) p∧Dv (lY n p q) q
 |0,p,q,_,_,h=>by omega
 |n+1,p,q,hp,hq,hn=>by
  rw[lY];by_cases h:q.length=0
  ·rw[beq_iff.2 h,afz,afr h];exact⟨Dv.refl p,[],fun x=>by show(0:Rat)=0*_;rw[ago]⟩
  ·have fT:q≠[]:=fun e=>h (by rw[e];rfl)
   rw[iG.2 h,afP];obtain⟨g1,g2⟩:=ma p hq fT;obtain⟨d1,d2⟩:=Mk n q (b9 (b8 p q)) hq (cR _) (by rw[dx (fX _ _)];unfold b8;omega);have d3:=d2.trans (DQ (fX p q));refine⟨?_,d1⟩;obtain⟨a,ha⟩:=d1;obtain⟨b,hb⟩:=d3;refine⟨db (mulL (dP p q).1 a) b,fun x => ?_⟩;have h2:evalL (dP p q).1 x*evalL q x+evalL (b8 p q) x=evalL p x:=g2 x;rw[←h2,bO,aN,hb x];have:=ha x;rw[this];grind
theorem Jg(p q:List Rat)(hp:aS p=false)(hq:aS q=false):∃u v,∀x,evalL (eL p q) x=evalL u x*evalL p x+evalL v x*evalL q x:=by obtain⟨u,v,e⟩:=Jf (q.length+1) p q hp hq;unfold eL;refine⟨br (1/bz (lY (q.length+1) p q)) u,br (1/bz (lY (q.length+1) p q)) v,fun x => ?_⟩;rw[jf,bh,bh,e x];grind
theorem vN(p q:List Rat)(hp:aS p=false)(hq:aS q=false):Dv (eL p q) p∧Dv (eL p q) q:=by obtain⟨h1,h2⟩:=Mk (q.length+1) p q hp hq (Nat.lt_succ_self _);have h3:=DQ (sw (q.length+1) p q hp hq);exact⟨h3.trans h1,h3.trans h2⟩
theorem NN{p:List Rat}(hz:aS p=false)(h:p.length=1):b9 p=[1]:=by
 have fT:p≠[]:=by intro e;rw[e] at h;cases h
 match p,h with
 |[a],_ =>have ha:a≠0:=cK hz fT;rw[pr hz fT];show[1/a*a]=[1];rw[afT ha]
theorem DR{p q:List Rat}(hp:aS p=false)(hq:aS q=false)(h:(eL p q).length=1):vM p q:=by
 have e:eL p q=[1]:=by have h1:=uV (sw (q.length+1) p q hp hq);have h2:=NN (iV p q) h;unfold eL at h2 ⊢;rw[←h1,h2]
 obtain⟨u,v,b⟩:=Jg p q hp hq;refine⟨u,v,fun x => ?_⟩;rw[←b x,e,gK]
def dEv(p:List Rat)(x:Rat):Rat:=evalL (gN 1 (p.drop 1)) x
theorem cX(p:List Rat)(x:Rat):evalL (ax p) x=dEv p x:=ER p x
theorem FP(x:Rat):∀(q:List Rat) (i:Nat),evalL (gN (i+1) q) x=evalL (gN i q) x+evalL q x
 |[],_=>by show(0:Rat)=0+0;grind
 |a::r,i=>by
  rw[gN,gN,evalL,evalL,evalL,FP x r (i+1)];have:(((i+1:Nat):Int):Rat)=((i:Int):Rat)+1:=by simp
  rw[this];grind
theorem nc(a:Rat)(p:List Rat)(x:Rat):dEv (a::p) x=evalL p x+x*dEv p x:=by
 show evalL (gN 1 p) x=_;rw[FP x p 0];have:evalL (gN 0 p) x=x*dEv p x:=by
  cases p with
  |nil=>show(0:Rat)=x*0;rw[ahE]
  |cons b r =>show evalL (gN 1 r) x*x+((0:Nat):Int)*b=x*evalL (gN 1 r) x;have:(((0:Nat):Int):Rat)=0:=rfl;rw[this];grind
 rw[this];grind
theorem G8(x:Rat):dEv [] x=0:=rfl
theorem Ml(x:Rat):∀p q:List Rat,dEv (db p q) x=dEv p x+dEv q x
 |[],q=>by rw[db,G8,aiw]
 |a::p,[]=>by rw[db,G8,agS]
 |a::p,b::q=>by rw[db,nc,nc,nc,bO,Ml x p q];grind
theorem DS(c x:Rat):∀p:List Rat,dEv (br c p) x=c*dEv p x
 |[]=>by show(0:Rat)=c*0;rw[ahE]
 |a::p=>by show dEv (c*a::br c p) x=_;rw[nc,nc,bh,DS c x p];grind
theorem vO(x:Rat)(q:List Rat):∀p:List Rat,dEv (mulL p q) x=dEv p x*evalL q x+evalL p x*dEv q x
 |[]=>by rw[mulL,G8];show(0:Rat)=0*_+0*_;grind
 |a::p=>by rw[mulL,Ml,DS,nc,nc,aN,vO x q p,evalL];grind
theorem sx{p q:List Rat}(h:∀x,evalL p x=evalL q x)(x:Rat):dEv p x=dEv q x:=by
 rw[←cX,←cX];have:ax p=ax q:=by rw[←wK p,←wK q,Jc h]
 rw[this]
theorem Mm(t:List Rat)(x:Rat):∀k,evalL t x*dEv (iz t k) x=((k:Int):Rat)*(evalL (iz t k) x*dEv t x)
 |0=>by have:dEv (iz t 0) x=0:=rfl;rw[this];have:(((0:Nat):Int):Rat)=0:=rfl;rw[this];grind
 |k+1=>by
  have ih:=Mm t x k;have:(((k+1:Nat):Int):Rat)=((k:Int):Rat)+1:=by simp
  rw[iz,vO,aN,this];grind
theorem B5{t:List Rat}(ht:aP t≠[])(k:Nat):aP (iz t k)≠[]:=by
 induction k with
 |zero=>rw[iz];decide
 |succ k ih =>
  intro e;have h1:=jz _ _ ih ht;have h2:=gy (p:=mulL (aP (iz t k)) (aP t)) (q:=[]) (fun x=>by rw[aN,bN,bN,←aN];show evalL (iz t (k+1)) x=_;rw[←bN,e])
  rw[h2] at h1;rcases agG.1 h1.symm with e|e
  ·exact cK (bH _) ih e
  ·exact cK (bH _) ht e
theorem Qe{t:List Rat}(hz:aS t=false)(h:2≤t.length)(k:Nat):k+1≤(aP (iz t k)).length:=by
 have fT:t≠[]:=by intro e;rw[e] at h;simp at h
 have htr:=lF hz
 induction k with
 |zero=>have:=afC.2 (B5 (t:=t) (by rw[htr];exact fT) 0);omega
 |succ k ih =>
  have h1:=jz _ t (B5 (t:=t) (by rw[htr];exact fT) k) fT;have h2:coef (aP (iz t (k+1))) ((aP (iz t k)).length+t.length-2)≠0:=by
   rw[eR];have:=gy (p:=iz t (k+1)) (q:=mulL (aP (iz t k)) t) (fun x=>by rw[iz,aN,aN,bN]);rw[this,h1];intro e;rcases agG.1 e with e|e
   ·exact cK (bH _) (B5 (t:=t) (by rw[htr];exact fT) k) e
   ·exact cK hz fT e
  have:=uU h2;omega
theorem mc{p:List Rat}(h:p≠[]):(ax p).length<p.length:=by have h1:=gT (gN 1 (p.drop 1));rw[ov,ahg] at h1;have:=afC.2 h;have h2:(ax p).length≤p.length-1:=h1;omega
structure Sq (p g f w:List Rat):Prop where
 pe:∀x,evalL p x=evalL f x*evalL g x
 de:∀x,dEv p x=evalL w x*evalL g x
 g0:aP g≠[]
 zg:aS g=false
 zf:aS f=false
 f0:f≠[]
 cop:vM f w
theorem Sq.rel{p g f w:List Rat}(s:Sq p g f w)(x:Rat):evalL f x*dEv g x=evalL g x*(evalL w x-dEv f x):=by have h1:=sx (q:=mulL f g) (fun x=>by rw[s.pe,aN]) x;rw[vO,s.de] at h1;grind
theorem XU{p:List Rat}(hz:aS p=false)(h0:p≠[]):∃w,Sq p (eL p (ax p)) (dP p (eL p (ax p))).1 w:=by
 have GQ:=BZ (ax p) hz (bZ p) h0;have hgz:=iV p (ax p);obtain⟨d1,d2⟩:=vN p (ax p) hz (bZ p);obtain⟨u,hu⟩:=d1;obtain⟨w,hw⟩:=d2;have hdiv:=Jd (p:=p) (q:=eL p (ax p)) (a:=aP u) (r:=[]) hgz GQ (bH u) rfl (afC.2 GQ) (fun x=>by rw[bN,hu x];show _+(0:Rat)=_;rw[agS])
 have e1:(dP p (eL p (ax p))).1=aP u:=by rw[hdiv]
 have hgt:aP (eL p (ax p))≠[]:=by rw[lF hgz];exact GQ
 refine⟨w,⟨fun x=>by rw[e1,bN,hu x],fun x=>by rw[←cX,hw x],hgt,hgz,(mb _ _).1,?_,?_⟩⟩
 ·rw[e1];intro e;have:∀i,coef p i=coef [] i:=gy (fun x=>by rw[hu,←bN x u,e];show(0:Rat)*_=0;rw[ago]);exact h0 (oy hz rfl this)
 ·obtain⟨a,b,hb⟩:=Jg p (ax p) hz (bZ p);refine⟨a,b,?_⟩;have:=Mj (t:=eL p (ax p)) (a:=db (mulL a (dP p (eL p (ax p))).1) (mulL b w)) (b:=[1]) hgt (fun x=>by
   have h1:=hb x;rw[gK,bO,aN,aN,e1,bN];have h2:=hu x;have h3:=hw x;rw[h2,h3] at h1;grind)
  intro x;have h:=this x;rw[bO,aN,aN,gK] at h;exact h
theorem Sq.Mn{p g f w t:List Rat}(s:Sq p g f w)(ht:aP t≠[])(h1:Dv t f)(h2:∃v,∀x,dEv f x=evalL v x*evalL t x):∀k,∃r,∀x,evalL g x=evalL (iz t k) x*evalL r x
 |0=>⟨g,fun x=>by rw[iz,gK,ahl]⟩
 |k+1=>by
  obtain⟨r,hr⟩:=s.Mn ht h1 h2 k;obtain⟨f1,hf1⟩:=h1;obtain⟨v,hv⟩:=h2;have key:∀x,evalL f1 x*(((k:Int):Rat)*dEv t x*evalL r x+evalL t x*dEv r x)=evalL r x*(evalL w x-dEv f x):=by
   have:=Mj (t:=iz t k) (a:=mulL f1 (db (br ((k:Int):Rat) (mulL (ax t) r)) (mulL t (ax r)))) (b:=mulL r (db w (br (-1) (ax f)))) (B5 ht k) (fun x=>by
    rw[aN,aN,bO,bO,bh,bh,aN,aN,cX,cX,cX];have g1:=s.rel x;have g2:=sx (q:=mulL (iz t k) r) (fun x=>by rw[hr,aN]) x;rw[vO] at g2;have g3:=Mm t x k;have g4:=hr x;have g5:=hf1 x;rw[g4,g2,g5] at g1;have:evalL f1 x*evalL t x*(dEv (iz t k) x*evalL r x+evalL (iz t k) x*dEv r x)=evalL f1 x*((evalL t x*dEv (iz t k) x)*evalL r x+evalL t x*evalL (iz t k) x*dEv r x):=by grind
    rw[this,g3] at g1;grind)
   intro x;have h:=this x;rw[aN,aN,bO,bO,bh,bh,aN,aN,cX,cX,cX] at h;grind
  have hd:Dv t (mulL w r):=by
   have h3:=fun x=>sx (q:=mulL f1 t) (fun x=>by rw[hf1,aN]) x
   refine⟨db (db (br ((k:Int):Rat) (mulL r (db v (br (-1) (ax f1))))) (mulL f1 (ax r))) (mulL r v),fun x => ?_⟩;have k1:=key x;have k2:=h3 x;rw[vO,hv] at k2;have k3:=hv x;rw[aN,bO,bO,bh,aN,bO,bh,aN,aN,cX,cX];have k4:evalL f1 x*dEv t x=(evalL v x-dEv f1 x)*evalL t x:=by grind
   have k5:evalL f1 x*(((k:Int):Rat)*dEv t x*evalL r x)=((k:Int):Rat)*((evalL v x-dEv f1 x)*evalL t x)*evalL r x:=by rw[←k4];grind
   have k6:evalL w x*evalL r x=evalL f1 x*(((k:Int):Rat)*dEv t x*evalL r x)+evalL f1 x*(evalL t x*dEv r x)+evalL r x*dEv f x:=by grind
   rw[k6,k5,k3];grind
  obtain⟨r1,xP⟩:=(s.cop.TN ⟨f1,hf1⟩).dv hd;exact⟨r1,fun x=>by rw[hr,xP,iz,aN];grind⟩
theorem Sq.free{p g f w:List Rat}(s:Sq p g f w):vM f (ax f):=by
 refine DR s.zf (bZ f) ?_;have fT:=BZ (ax f) s.zf (bZ f) s.f0;have hl:=afC.2 fT;refine afE fun h => ?_
 have h2:2≤(eL f (ax f)).length:=by omega
 have hz:=iV f (ax f);obtain⟨d1,d2⟩:=vN f (ax f) s.zf (bZ f);obtain⟨v,hv⟩:=d2;obtain⟨r,hr⟩:=s.Mn (t:=eL f (ax f)) (by rw[lF hz];exact fT) d1 ⟨v,fun x=>by rw[←cX,hv]⟩ g.length;have Qf:Dv (aP (iz (eL f (ax f)) g.length)) g:=⟨r,fun x=>by rw[bN,hr];grind⟩;have hg:g≠[]:=by intro e;exact s.g0 (by rw[e];rfl)
 have:=(Qf.len (bH _) s.zg hg).2;have:=Qe hz h2 g.length;omega
theorem Sq.TO{p g f w:List Rat}(s:Sq p g f w):∀(n i:Nat) (e r:List Rat),r.length≤n→aS r=false→(∀x,evalL g x=evalL e x*evalL r x)→Dv e (iz f i)→Dv g (iz f (i+n))
 |n,i,e,r,hl,hz,hg,hd=>by
  have up:∀m,Dv e (iz f (i+m)):=by
   intro m
   induction m with
   |zero=>exact hd
   |succ m ih =>obtain⟨u,hu⟩:=ih;exact⟨mulL u f,fun x=>by show evalL (mulL (iz f (i+m)) f) x=_;rw[aN,hu,aN];grind⟩
  have E2:r≠[]:=by intro e';have:∀i,coef g i=coef [] i:=gy (fun x=>by rw[hg,e'];show _*(0:Rat)=0;rw[ahE]);exact s.g0 (by rw[lF s.zg];exact oy s.zg rfl this)
  have XV:=afC.2 E2;by_cases h1:r.length=1
  ·match r,h1 with
   |[c],_ =>have hc:c≠0:=cK hz E2;obtain⟨u,hu⟩:=up n;refine⟨br (1/c) u,fun x => ?_⟩;have h2:=hg x;rw[gK] at h2;have h3:=afT (a:=1) hc;rw[hu,bh,h2];grind
  ·obtain⟨m,rfl⟩:∃m,n=m+1:=⟨n-1,by omega⟩;have XW:=BZ f hz s.zf E2;have htz:=iV r f;have zu:=afC.2 XW;obtain⟨d1,d2⟩:=vN r f hz s.zf;have h2:2≤(eL r f).length:=by
    refine afE fun dI => ?_
    have hc:=DR hz s.zf (by omega:(eL r f).length=1);have hce:vM r e:=((hc.pow i).symm.TN hd).symm;have vY:Dv r (mulL (mulL f e) (ax r)):=by refine⟨db (mulL e (db w (br (-1) (ax f)))) (br (-1) (mulL f (ax e))),fun x => ?_⟩;have g1:=s.rel x;have g2:=sx (q:=mulL e r) (fun x=>by rw[hg,aN]) x;rw[vO] at g2;rw[g2,hg] at g1;rw[aN,aN,bO,aN,bO,bh,bh,aN,cX,cX,cX];grind
    have R0:=(hc.mul hce).dv vY;by_cases K3:ax r=[]
    ·
     have key:∀i,coef (gN 1 (r.drop 1)) i=0:=by intro i;have:=eR (gN 1 (r.drop 1)) i;have e2:aP (gN 1 (r.drop 1))=[]:=K3;rw[e2,lH] at this;exact this.symm
     have Kx:∀(q:List Rat) (i j:Nat),coef (gN i q) j=((i+j:Nat):Int)*coef q j:=by
      intro q
      induction q with
      |nil=>intro i j;show(0:Rat)=_*0;rw[ahE]
      |cons a q ih =>
       intro i j;cases j with
       |zero=>rfl
       |succ j=>rw[gN,fE,fE,ih (i+1) j,show i+1+j=i+(j+1) from by omega]
     have hk:=key (r.length-2);rw[Kx] at hk;have zH:coef (r.drop 1) (r.length-2)=bz r:=by
      unfold bz;rw[show r.length-1=(r.length-2)+1 from by omega];cases r with
      |nil=>rfl
      |cons a q=>rfl
     rw[zH] at hk;rcases agG.1 hk with h|h
     ·have:=aiD.1 (show (((1+(r.length-2):Nat):Int):Rat)=((0:Int):Rat) from h);omega
     ·exact cK hz E2 h
    ·have:=(R0.len hz (bZ r) K3).2;have h3:=gT (gN 1 (r.drop 1));rw[ov,ahg] at h3;have h4:(ax r).length≤r.length-1:=h3;omega
   obtain⟨r1,xP⟩:=d1;have IS:=bH r1;have HF:(aP r1).length≤m:=by
    have vj:Dv (aP r1) r:=⟨eL r f,fun x=>by rw[bN,xP];grind⟩;have Qg:=(vj.len IS hz E2).1;have h5:=jz _ _ Qg XW;have h6:=gy (p:=mulL (aP r1) (eL r f)) (q:=r) (fun x=>by rw[aN,bN,xP]);rw[h6] at h5;have h7:coef r ((aP r1).length+(eL r f).length-2)≠0:=by
     rw[h5];intro e';rcases agG.1 e' with e'|e'
     ·exact cK IS Qg e'
     ·exact cK htz XW e'
    have:=uU h7;have:=afC.2 Qg;omega
   have:=s.TO m (i+1) (mulL e (eL r f)) (aP r1) HF IS (fun x=>by rw[hg,xP,aN,bN];grind) (by obtain⟨u,hu⟩:=hd;obtain⟨v,hv⟩:=d2;refine⟨mulL u v,fun x => ?_⟩;show evalL (mulL (iz f i) f) x=_;rw[aN,aN,aN,hu,hv];grind)
   rwa[show i+1+m=i+(m+1) from by omega] at this
 termination_by n=>n
theorem Sq.all{p g f w:List Rat}(s:Sq p g f w):Dv p (iz f (g.length+1)):=by obtain⟨u,hu⟩:=s.TO g.length 0 [1] g (afy _) s.zg (fun x=>by rw[gK,ahl]) ⟨[1],fun x=>by rw[iz,gK,ahl]⟩;rw[agl] at hu;refine⟨u,fun x => ?_⟩;rw[iz,aN,hu,s.pe];grind
def ab(x:Rat):Rat:=if 0≤x then x else -x
theorem bC(x:Rat):(0≤x∧ab x=x)∨(x<0∧ab x = -x):=by
 unfold ab;by_cases h:0≤x
 ·rw[afI h];exact Or.inl ⟨h,rfl⟩
 ·rw[afG h];exact Or.inr ⟨by grind,rfl⟩
theorem cG(x:Rat):0≤ab x:=by rcases bC x with h|h<;>grind
theorem Ap{x:Rat}(h:x≠0):0<ab x:=by rcases bC x with h|h<;>grind
theorem Jh{x c:Rat}(h1:x≤c)(h2 : -x≤c):ab x≤c:=by rcases bC x with h|h<;>grind
theorem uW(x:Rat):x≤ab x:=by rcases bC x with h|h<;>grind
theorem kN(x:Rat) : -x≤ab x:=by rcases bC x with h|h<;>grind
theorem Aq(x:Rat):ab (-x)=ab x:=by rcases bC x with h|h<;>rcases bC (-x) with k|k<;>grind
theorem tA(x y:Rat):ab (x+y)≤ab x+ab y:=by have h1:=uW x;have h2:=kN x;have h3:=uW y;have h4:=kN y;exact Jh (by grind) (by grind)
theorem nd(x y:Rat):ab (x*y)=ab x*ab y:=by
 rcases bC x with ⟨h1,e1⟩|⟨h1,e1⟩<;>rcases bC y with ⟨h2,e2⟩|⟨h2,e2⟩<;>rw[e1,e2]
 ·have:=ags h1 h2;rcases bC (x*y) with h|h<;>grind
 ·have:=ags h1 (show 0 ≤ -y by grind);rcases bC (x*y) with h|h<;>grind
 ·have:=ags (show 0 ≤ -x by grind) h2;rcases bC (x*y) with h|h<;>grind
 ·have:=ags (show 0 ≤ -x by grind) (show 0 ≤ -y by grind);rcases bC (x*y) with h|h<;>grind
theorem tB:ab 0=0:=rfl
theorem fe{a b c d:Rat}(h1:a≤b)(h2:c≤d)(h3:0≤a)(h4:0≤d):a*c≤b*d :=
 agv (afN h2 h3) (afF h1 h4)
def nrm:List Rat→Rat→Rat
 |[],_=>0
 |a::r,R=>nrm r R*R+ab a
def lip:List Rat→Rat→Rat
 |[],_=>0
 |_::r,R=>lip r R*R+nrm r R
def sec:List Rat→Rat→Rat
 |[],_=>0
 |_::r,R=>sec r R*R+lip r R
theorem qt{R:Rat}(hR:0≤R):∀p,0≤nrm p R
 |[]=>afR
 |a::r=>by have h1:=ags (qt hR r) hR;have h2:=cG a;rw[nrm];grind
theorem iA{R:Rat}(hR:0≤R):∀p,0≤lip p R
 |[]=>afR
 |a::r=>by have h1:=ags (iA hR r) hR;have h2:=qt hR r;rw[lip];grind
theorem nT{R:Rat}(hR:0≤R):∀p,0≤sec p R
 |[]=>afR
 |a::r=>by have h1:=ags (nT hR r) hR;have h2:=iA hR r;rw[sec];grind
theorem vP{R x:Rat}(hx:ab x≤R):∀p,ab (evalL p x)≤nrm p R
 |[]=>afR
 |a::r=>by have h1:=vP hx r;have h2:=tA (evalL r x*x) a;rw[nd] at h2;have h3:=fe h1 hx (cG _) (agv (cG x) hx);rw[evalL,nrm];grind
theorem G9{R x y:Rat}(hx:ab x≤R)(hy:ab y≤R):∀p,ab (evalL p x-evalL p y)≤lip p R*ab (x-y)
 |[]=>by show ab (0-0)≤0*_;rw[show (0:Rat)-0=0 from by grind,tB,ago];exact afR
 |a::r=>by
  have h0:=agv (cG x) hx;have h1:=G9 hx hy r;have h2:=vP hy r;have e:evalL (a::r) x-evalL (a::r) y=(evalL r x-evalL r y)*x+evalL r y*(x-y):=by rw[evalL,evalL];grind
  rw[e];have h3:=tA ((evalL r x-evalL r y)*x) (evalL r y*(x-y));rw[nd,nd] at h3;have h4:=fe h1 hx (cG _) h0;have h5:=afF h2 (cG (x-y));rw[lip];grind
theorem Qh{R x:Rat}(hx:ab x≤R):∀p,ab (dEv p x)≤lip p R
 |[]=>afR
 |a::r=>by have h1:=Qh hx r;have h2:=vP hx r;have h3:=tA (evalL r x) (x*dEv r x);rw[nd] at h3;have h4:=fe hx h1 (cG _) (iA (agv (cG x) hx) r);rw[nc,lip];grind
def Mo(x y:Rat):List Rat→Rat
 |[]=>0
 |_::r=>dEv r x+y*Mo x y r
theorem K4(x y:Rat):∀p,evalL p y=evalL p x+(y-x)*dEv p x+(y-x)*(y-x)*Mo x y p
 |[]=>by show(0:Rat)=0+(y-x)*0+(y-x)*(y-x)*0;grind
 |a::r=>by have:=K4 x y r;rw[evalL,evalL,nc,Mo,this];grind
theorem K5{R x y:Rat}(hx:ab x≤R)(hy:ab y≤R):∀p,ab (Mo x y p)≤sec p R
 |[]=>afR
 |a::r=>by have h0:=agv (cG x) hx;have h1:=K5 hx hy r;have h2:=Qh hx r;have h3:=tA (dEv r x) (y*Mo x y r);rw[nd] at h3;have h4:=fe hy h1 (cG _) (nT h0 r);rw[Mo,sec];grind
def sg(x:Rat):Int:=ig x 0
theorem eS(x:Rat):(x<0∧sg x = -1)∨(x=0∧sg x=0)∨(0<x∧sg x=1):=by
 unfold sg ig;by_cases h:x<0
 ·rw[afI h];exact Or.inl ⟨h,rfl⟩
 ·rw[afG h];by_cases h2:x=0
  ·rw[afI h2];exact Or.inr (Or.inl ⟨h2,rfl⟩)
  ·rw[afG h2];exact Or.inr (Or.inr ⟨by grind,rfl⟩)
def varS:Int→List Int→Int
 |_,[]=>0
 |l,s::r=>if s=0 then varS l r else (if s = -l then 1 else 0)+varS s r
def gi(G:List (List Rat))(x:Rat):Int:=varS 0 (G.map (fun g=>sg (evalL g x)))
inductive Sx:Int→List (Int×Int)→Prop
 |nil (s:Int):Sx s []
 |same {s t:Int} {l:List (Int×Int)} (ht:t=1∨t = -1) (h:Sx t l):Sx s ((t,t)::l)
 |xL {s a b:Int} {l:List (Int×Int)} (hs:s=1∨s = -1) (ha:a=0∨a=1∨a = -1) (hb:b=0∨b=1∨b = -1) (h:Sx (-s) l):Sx s ((a,b)::(-s, -s)::l)
theorem Mp{s a:Int}(hs:s=1∨s = -1)(ha:a=0∨a=1∨a = -1)(l:List Int):varS s (a :: -s::l)=1+varS (-s) l:=by rcases hs with rfl|rfl<;>rcases ha with rfl|rfl|rfl<;>simp[varS]
theorem Sx.eq{s:Int}{l:List (Int×Int)}(h:Sx s l):varS s (l.map Prod.fst)=varS s (l.map Prod.snd):=by
 induction h with
 |nil s=>rfl
 |same ht h ih =>rw[agk,agk];rcases ht with rfl|rfl<;>simp[varS,ih]
 |xL hs ha hb h ih =>rw[agk,agk,agk,agk,Mp hs ha,Mp hs hb,ih]
def Ji(Q κ x:Rat):List (List Rat)→Prop
 |[]=>False
 |[g]=>κ≤ab (evalL g x)
 |[g,h]=>κ≤ab (evalL h x)
 |g::h::k::r=>ab (evalL g x+evalL k x)≤Q*ab (evalL h x)∧Ji Q κ x (h::k::r)
theorem Ji.max{Q κ x η:Rat}(hQ:0≤Q)(hη:0<η):∀(r:List (List Rat)) (g h:List Rat) (N:Nat),Ji Q κ x (g::h::r)→r.length≤N→(Q+1)^N*η≤κ→η≤ab (evalL g x)∨η≤ab (evalL h x)
 |[],g,h,N,hl,hN,hk=>by
  have hl:κ≤ab (evalL h x):=hl;right;have key:∀n:Nat,1≤(Q+1)^n:=by
   intro n
   induction n with
   |zero=>rw[aik];exact afR
   |succ n ih =>rw[ai4];have:=ags (show 0≤(Q+1)^n by grind) hQ;grind
  have:=afF (key N) (ag8 hη);grind
 |k::r,g,h,N,hl,hN,hk=>by
  obtain⟨N,rfl⟩:∃m,N=m+1:=⟨N-1,by rw[afX] at hN;omega⟩;have hl:ab (evalL g x+evalL k x)≤Q*ab (evalL h x)∧Ji Q κ x (h::k::r):=hl;obtain⟨h1,h2⟩:=hl;have aaR:0<(Q+1)*η:=ai6 (by grind) hη;rcases Ji.max hQ aaR r h k N h2 (by rw[afX] at hN;omega) (by rw[ai4] at hk;grind) with e|e
  ·right;have:=ags hQ (ag8 hη);grind
  ·by_cases hh:η≤ab (evalL h x)
   ·exact Or.inr hh
   ·left;have h3:=tA (evalL g x+evalL k x) (-(evalL g x));rw[Aq,show evalL g x+evalL k x + -(evalL g x)=evalL k x from by grind] at h3;have h4:=afN (show ab (evalL h x)≤η by grind) hQ;grind
def TP(ε u v:Rat)(g:List Rat)(s:Int):Prop:=∀x,u≤x→x≤v→sg (evalL g x)=s∧ε≤ab (evalL g x)
def Small(ε u v:Rat)(g:List Rat):Prop:=∀x,u≤x→x≤v→ab (evalL g x)<2*ε
theorem fF{x u v R:Rat}(h1:u≤x)(h2:x≤v)(hu:ab u≤R)(hv:ab v≤R):ab x≤R:=by have a:=kN u;have b:=uW v;exact Jh (by grind) (by grind)
theorem nh{R L ε u v:Rat}(g:List Rat)(hu:ab u≤R)(hv:ab v≤R)(px:u≤v)(hL:lip g R≤L)(hε:0<ε)(hd:L*(v-u)≤ε):(∃s,(s=1∨s = -1)∧TP ε u v g s)∨Small ε u v g:=by
 have var:∀x y,u≤x→x≤v→u≤y→y≤v→ab (evalL g x-evalL g y)≤ε:=by intro x y h1 h2 h3 h4;have d:=G9 (fF h1 h2 hu hv) (fF h3 h4 hu hv) g;have hR:=agv (cG u) hu;have VP:ab (x-y)≤v-u:=Jh (by grind) (by grind);have:=fe hL VP (iA hR g) (by grind);grind
 by_cases hs:∃x,u≤x∧x≤v∧ab (evalL g x)<ε
 ·right;obtain⟨x,h1,h2,h3⟩:=hs;intro y h4 h5;have:=var y x h4 h5 h1 h2;have:=tA (evalL g y-evalL g x) (evalL g x);rw[show evalL g y-evalL g x+evalL g x=evalL g y from by grind] at this;grind
 ·left;have hb:∀x,u≤x→x≤v→ε≤ab (evalL g x):=fun x h1 h2=>by
   refine Rat.not_lt.1 fun h=>hs ⟨x,h1,h2,h⟩
  have h0:=hb u afR px;rcases eS (evalL g u) with ⟨k1,k2⟩|⟨k1,k2⟩|⟨k1,k2⟩
  ·refine⟨-1,Or.inr rfl,fun x h1 h2=>⟨?_,hb x h1 h2⟩⟩;have v1:=var x u h1 h2 afR px;have v2:=hb x h1 h2;have v3:=uW (evalL g x-evalL g u);rcases bC (evalL g u) with c|c
   ·grind
   ·rcases eS (evalL g x) with ⟨m1,m2⟩|⟨m1,m2⟩|⟨m1,m2⟩
    ·exact m2
    ·rw[m1,tB] at v2;grind
    ·rcases bC (evalL g x) with c2|c2<;>grind
  ·rw[k1,tB] at h0;grind
  ·refine⟨1,Or.inl rfl,fun x h1 h2=>⟨?_,hb x h1 h2⟩⟩;have v1:=var u x afR px h1 h2;have v2:=hb x h1 h2;have v3:=uW (evalL g u-evalL g x);rcases bC (evalL g u) with c|c
   ·rcases eS (evalL g x) with ⟨m1,m2⟩|⟨m1,m2⟩|⟨m1,m2⟩
    ·rcases bC (evalL g x) with c2|c2<;>grind
    ·rw[m1,tB] at v2;grind
    ·exact m2
   ·grind
theorem ni(x:Rat):sg x=0∨sg x=1∨sg x = -1:=by rcases eS x with h|h|h<;>simp[h.2]
theorem VQ{a b η:Rat}{s:Int}(ha:η≤ab a)(hs:sg a=s)(h:ab (a+b)<η):sg b = -s:=by have h1:=uW (a+b);have h2:=kN (a+b);rcases eS a with ⟨k1,k2⟩|⟨k1,k2⟩|⟨k1,k2⟩<;>rcases eS b with ⟨m1,m2⟩|⟨m1,m2⟩|⟨m1,m2⟩<;>rcases bC a with c|c<;>first|(subst hs;simp[k2,m2];done)|(exfalso;grind)
theorem Ha{R L Q κ η ε u v:Rat}(hu:ab u≤R)(hv:ab v≤R)(px:u≤v)(hQ:0≤Q)(hη:0<η)(hε:0<ε)(Qi:2*ε≤η)(Qj:Q*(2*ε)<η)(hd:L*(v-u)≤ε){N:Nat}(hN:(Q+1)^N*η≤κ) :
  ∀(n:Nat) (r:List (List Rat)) (g:List Rat) (s:Int),r.length≤n→n≤N→(∀h∈r,lip h R≤L)→(s=1∨s = -1)→TP ε u v g s→(∀x,u≤x→x≤v→Ji Q κ x (g::r))→Sx s (r.map (fun h=>(sg (evalL h u),sg (evalL h v))))
 |n,[],g,s,_,_,_,_,_,_ => .nil s
 |0,h::r,g,s,hn,_,_,_,_,_=>by simp at hn
 |n+1,h::r,g,s,hn,hnN,Jj,hs,hg,hl=>by
  rw[afX] at hn;have VR:∀x,u≤x→x≤v→Ji Q κ x (h::r):=fun x h1 h2=>by
   have:=hl x h1 h2;cases r with
   |nil=>exact this
   |cons k r=>exact this.2
  have zM:∀x,u≤x→x≤v→η≤ab (evalL g x)∨η≤ab (evalL h x):=fun x h1 h2=>Ji.max hQ hη r g h N (hl x h1 h2) (by omega) hN
  rw[agk];rcases nh h hu hv px (Jj h (agA ..)) hε hd with ⟨t,ht,hb⟩|Ng
  ·rw[(hb u afR px).1,(hb v px afR).1];exact .same ht (Ha hu hv px hQ hη hε Qi Qj hd hN n r h t (by omega) (by omega) (fun k hk=>Jj k (ag9 _ hk)) ht hb VR)
  ·cases r with
   |nil =>
    exfalso;have h1:κ≤ab (evalL h u):=hl u afR px;have h2:=Ng u afR px;have key:∀n:Nat,1≤(Q+1)^n:=by
     intro n
     induction n with
     |zero=>rw[aik];exact afR
     |succ n ih =>rw[ai4];have:=ags (show 0≤(Q+1)^n by grind) hQ;grind
    have:=afF (key N) (ag8 hη);grind
   |cons k r =>
    rw[afX] at hn;obtain⟨m,rfl⟩:∃m,n=m+1:=⟨n-1,by omega⟩;have hk:TP ε u v k (-s):=by
     intro x h1 h2;obtain⟨e1,e2⟩:=hg x h1 h2;have e3:=Ng x h1 h2;have e4:η≤ab (evalL g x):=by rcases zM x h1 h2 with e|e;exact e;grind
     have e5:ab (evalL g x+evalL k x)≤Q*ab (evalL h x):=(hl x h1 h2).1;have e6:=afN (ag8 e3) hQ;have e7:η≤ab (evalL h x)∨η≤ab (evalL k x):=Ji.max hQ hη r h k N (VR x h1 h2) (by omega) hN;refine⟨VQ e4 e1 (by grind),?_⟩;rcases e7 with e|e<;>grind
    rw[agk,(hk u afR px).1,(hk v px afR).1];refine .xL hs (ni _) (ni _) (Ha hu hv px hQ hη hε Qi Qj hd hN m r k (-s) (by omega) (by omega) (fun k' Nc=>Jj k' (ag9 _ (ag9 _ Nc))) (by omega) hk ?_);intro x h1 h2;have:=VR x h1 h2;cases r with
    |nil=>exact this
    |cons k' r=>exact this.2
def chainF:Nat→List Rat→List Rat→List (List Rat)
 |0,p,_=>[p]
 |n+1,p,d=>bif Nat.beq d.length 0 then [p] else p::chainF n d (aP (br (-1) (b8 p d)))
def aX(p:List Rat):List (List Rat):=chainF (bj p).length (bj p) (ax (bj p))
theorem nU(n:Nat)(p:List Rat):chainF n p []=[p]:=by cases n<;>rfl
theorem kt{n:Nat}{p d:List Rat}(h:d≠[]):chainF (n+1) p d=p::chainF n d (aP (br (-1) (b8 p d))):=by rw[chainF,iG.2 (fun e=>h (afr e)),afP]
theorem uX(n:Nat)(p d:List Rat):∃r,chainF n p d=p::r:=by
 cases n with
 |zero=>exact⟨[],rfl⟩
 |succ n =>
  rw[chainF];cases Nat.beq d.length 0 with
  |true=>exact⟨[],rfl⟩
  |false=>exact⟨_,rfl⟩
theorem xy:∀(n:Nat) (p d:List Rat),(chainF n p d).length≤n+1
 |0,p,d=>by simp[chainF]
 |n+1,p,d=>by
  rw[chainF];cases Nat.beq d.length 0 with
  |true=>simp
  |false=>rw[afP,afX];have:=xy n d (aP (br (-1) (b8 p d)));omega
theorem Ji.mono{Q Q' κ κ' x:Rat}(hQ:Q≤Q')(hκ:κ'≤κ):∀(G:List (List Rat)),Ji Q κ x G→Ji Q' κ' x G
 |[],h=>h
 |[g],h=>agv hκ h
 |[g,k],h=>agv hκ h
 |g::h::k::r,hl=>⟨agv hl.1 (afF hQ (cG _)),Ji.mono hQ hκ (h::k::r) hl.2⟩
theorem nZ{p d:List Rat}(hd:aS d=false)(h0:d≠[])(x:Rat):evalL p x+evalL (aP (br (-1) (b8 p d))) x=evalL (dP p d).1 x*evalL d x:=by have h:evalL (dP p d).1 x*evalL d x+evalL (b8 p d) x=evalL p x:=(ma p hd h0).2 x;rw[bN,bh];grind
theorem jA{p d:List Rat}(hd:aS d=false)(h0:d≠[]):(aP (br (-1) (b8 p d))).length<d.length:=by have h:=(ma p hd h0).1;have h1:=gT (br (-1) (b8 p d));rw[kL] at h1;have:(b8 p d).length<d.length:=h;omega
theorem Jk{p d:List Rat}(hd:aS d=false)(h0:d≠[])(h:vM p d):vM d (aP (br (-1) (b8 p d))):=by
 obtain⟨u,v,e⟩:=h;refine⟨db (mulL u (dP p d).1) v,br (-1) u,fun x => ?_⟩;have h1:=e x;have h2:=nZ (p:=p) hd h0 x;have h3:evalL p x=evalL (dP p d).1 x*evalL d x-evalL (aP (br (-1) (b8 p d))) x:=by grind
 rw[bO,aN,bh];rw[h3] at h1;grind
theorem Jl{p d:List Rat}(hd:aS d=false)(h0:d≠[])(h:vM p d)(hr:aP (br (-1) (b8 p d))=[]):∃c,d=[c]∧c≠0:=by
 obtain⟨u,v,e⟩:=h;have Qf:Dv d [1]:=⟨db (mulL u (dP p d).1) v,fun x=>by
  have h1:=e x;have h2:=nZ (p:=p) hd h0 x;rw[hr] at h2;have h2:evalL p x+0=evalL (dP p d).1 x*evalL d x:=h2;rw[gK,bO,aN];have h3:evalL p x=evalL (dP p d).1 x*evalL d x:=by grind
  rw[h3] at h1;grind⟩
 obtain⟨g1,g2⟩:=Qf.len hd rfl (by simp);have g2:d.length≤1:=g2
 match d,g1,g2 with
 |[c],g1,_=>exact⟨c,rfl,cK hd g1⟩
theorem DT{R:Rat}(hR:0≤R):∀(n:Nat) (p d:List Rat),aS p=false→aS d=false→d≠[]→vM p d→d.length<n+1→∃Q κ,0≤Q∧0<κ∧∀x,ab x≤R→Ji Q κ x (chainF n p d)
 |0,p,d,_,_,h0,_,hl=>absurd (afr (by omega)) h0
 |n+1,p,d,hp,hd,h0,hc,hl=>by
  rw[kt h0];by_cases hr:aP (br (-1) (b8 p d))=[]
  ·obtain⟨c,rfl,Fy⟩:=Jl hd h0 hc hr;rw[hr,nU];refine⟨0,ab c,afR,Ap Fy,fun x _ => ?_⟩;show ab c≤ab (evalL [c] x);rw[gK];exact afR
  ·have hln:=jA (p:=p) hd h0;obtain⟨Q,κ,h1,h2,h3⟩:=DT hR n d (aP (br (-1) (b8 p d))) hd (bH _) hr (Jk hd h0 hc) (by omega);have hn:=qt hR (dP p d).1;refine⟨Q+nrm (dP p d).1 R,κ,by grind,h2,fun x hx => ?_⟩;have h4:=(h3 x hx).mono (show Q≤Q+nrm (dP p d).1 R by grind) (afR (a:=κ));obtain⟨m,rfl⟩:∃m,n=m+1:=⟨n-1,by
    have:=afC.2 hr;omega⟩
   rw[kt hr] at h4 ⊢;obtain⟨r,e⟩:=uX m (aP (br (-1) (b8 p d))) (aP (br (-1) (b8 d (aP (br (-1) (b8 p d))))));rw[e] at h4 ⊢;refine⟨?_,h4⟩;rw[nZ hd h0,nd];have h5:=vP hx (dP p d).1;exact afF (by grind) (cG _)
def lipA(R:Rat):List (List Rat)→Rat
 |[]=>0
 |g::r=>lip g R+lipA R r
theorem uY{R:Rat}(hR:0≤R):∀G,0≤lipA R G
 |[]=>afR
 |g::r=>by have h1:=iA hR g;have h2:=uY hR r;rw[lipA];grind
theorem Qk{R:Rat}(hR:0≤R):∀(G:List (List Rat)) (g:List Rat),g∈G→lip g R≤lipA R G
 |[],g,h=>by cases h
 |a::r,g,h=>by
  have h1:=iA hR a;have h2:=uY hR r;rw[lipA];rcases afY.1 h with e|h
  ·rw[e];grind
  ·have:=Qk hR r g h;grind
def Loc(f:List Rat)(G:List (List Rat))(ε u v:Rat):Prop :=
 ((∃s,(s=1∨s = -1)∧TP ε u v f s)∧gi G u=gi G v) ∨
 (∃s:Int,(s=1∨s = -1)∧(∀x y,u≤x→x<y→y≤v→0<(s:Rat)*(evalL f y-evalL f x))∧gi G u+(if sg (evalL f v) = -s then 1 else 0)=gi G v+(if sg (evalL f u) = -s then 1 else 0))
theorem Mq{R ε δ u v:Rat}{f:List Rat}{s:Int}(hu:ab u≤R)(hv:ab v≤R)(hs:s=1∨s = -1)(hb:TP ε u v (ax f) s)(hε:0<ε)(hd:sec f R*(v-u)<ε):∀x y,u≤x→x<y→y≤v→0<(s:Rat)*(evalL f y-evalL f x):=by
 intro x y h1 h2 h3;have hx:=fF (x:=x) h1 (by grind) hu hv;have hy:=fF (x:=y) (by grind) h3 hu hv;have hR:=agv (cG u) hu;have t:=K4 x y f;have ht:=K5 hx hy f;obtain⟨b1,b2⟩:=hb x h1 (by grind);rw[cX] at b1 b2;have hw:ab ((y-x)*Mo x y f)<ε:=by
  rw[nd];have e:ab (y-x)=y-x:=by rcases bC (y-x) with h|h<;>grind
  rw[e];have h4:=fe (show y-x≤v-u by grind) ht (by grind) (nT hR f);grind
 have e:evalL f y-evalL f x=(y-x)*(dEv f x+(y-x)*Mo x y f):=by rw[t];grind
 rw[e];have w1:=uW ((y-x)*Mo x y f);have w2:=kN ((y-x)*Mo x y f);have VS:0<(s:Rat)*(dEv f x+(y-x)*Mo x y f):=by
  rcases hs with rfl|rfl
  ·rcases eS (dEv f x) with ⟨k1,k2⟩|⟨k1,k2⟩|⟨k1,k2⟩
   ·rw[k2] at b1;cases b1
   ·rw[k2] at b1;cases b1
   ·have:(((1:Int):Rat))=1:=rfl;rw[this,ahl];rcases bC (dEv f x) with c|c<;>grind
  ·rcases eS (dEv f x) with ⟨k1,k2⟩|⟨k1,k2⟩|⟨k1,k2⟩
   ·have:(((-1:Int):Rat)) = -1:=rfl;rw[this];rcases bC (dEv f x) with c|c<;>grind
   ·rw[k2] at b1;cases b1
   ·rw[k2] at b1;cases b1
 have:=ai6 (show 0<y-x by grind) VS;grind
theorem VT{ε u v:Rat}{f:List Rat}{r:List (List Rat)}{s:Int}(hb:TP ε u v f s)(px:u≤v)(hp:Sx s (r.map (fun h=>(sg (evalL h u),sg (evalL h v))))):varS 0 (sg (evalL f u)::r.map (fun g=>sg (evalL g u)))=varS 0 (sg (evalL f v)::r.map (fun g=>sg (evalL g v))):=by
 have e:=hp.eq;rw[ahT,ahT] at e;have e:varS s (r.map (fun h=>sg (evalL h u)))=varS s (r.map (fun h=>sg (evalL h v))):=e;rw[(hb u afR px).1,(hb v px afR).1,varS,varS,e];split
 ·have e2:s=0:=by assumption
  rw[e2] at e;rw[e]
 ·rfl
theorem Ql{s a b:Int}{l m:List Int}(hs:s=1∨s = -1)(ha:a=0∨a=1∨a = -1)(hb:b=0∨b=1∨b = -1)(e:varS s l=varS s m):varS 0 (a::s::l)+(if b = -s then 1 else 0)=varS 0 (b::s::m)+(if a = -s then 1 else 0):=by rcases hs with rfl|rfl<;>rcases ha with rfl|rfl|rfl<;>rcases hb with rfl|rfl|rfl<;>simp[varS,e]<;>omega
theorem VU{R Q κ η ε:Rat}{f:List Rat}{n:Nat}(h2:ax f≠[])(hR:0≤R)(hQ:0≤Q)(hη:0<η)(hε:0<ε)(Qi:2*ε≤η)(Qj:Q*(2*ε)<η)(hN:(Q+1)^(n+1)*η≤κ)
  (hl:∀x,ab x≤R→Ji Q κ x (chainF (n+1) f (ax f))) {u v:Rat} (hu:ab u≤R) (hv:ab v≤R) (px:u≤v) (vj:lipA R (chainF (n+1) f (ax f))*(v-u)≤ε) (HK:sec f R*(v-u)<ε):Loc f (chainF (n+1) f (ax f)) ε u v:=by
 have hlen:=xy n (ax f) (aP (br (-1) (b8 f (ax f))));rw[kt h2] at hl vj ⊢;obtain⟨r,e⟩:=uX n (ax f) (aP (br (-1) (b8 f (ax f))));rw[e] at hl vj hlen ⊢;rw[afX] at hlen;have Jj:=Qk hR (f::ax f::r);have Gh:∀x,u≤x→x≤v→Ji Q κ x (f::ax f::r):=fun x h1 h2=>hl x (fF h1 h2 hu hv)
 rcases nh f hu hv px (Jj f (agA ..)) hε vj with ⟨s,hs,hb⟩|Ng
 ·left;refine⟨⟨s,hs,hb⟩,?_⟩;have:=Ha hu hv px hQ hη hε Qi Qj vj hN (n+1) (ax f::r) f s (by rw[afX];omega) (afy _) (fun h hh=>Jj h (ag9 _ hh)) hs hb Gh;exact VT hb px this
 ·right;rcases nh (ax f) hu hv px (Jj (ax f) (ag9 _ (agA ..))) hε vj with ⟨s,hs,hb⟩|VV
  ·refine⟨s,hs,Mq (δ:=0) hu hv hs hb hε HK,?_⟩;have hp:=Ha hu hv px hQ hη hε Qi Qj vj hN (n+1) r (ax f) s (by omega) (afy _) (fun h hh=>Jj h (ag9 _ (ag9 _ hh))) hs hb (fun x h1 h2=>by
    have:=Gh x h1 h2;cases r with
    |nil=>exact this
    |cons k r=>exact this.2)
   have e1:=hp.eq;rw[ahT,ahT] at e1;have e1:varS s (r.map (fun h=>sg (evalL h u)))=varS s (r.map (fun h=>sg (evalL h v))):=e1;show varS 0 (sg (evalL f u)::sg (evalL (ax f) u)::r.map (fun g=>sg (evalL g u)))+_=varS 0 (sg (evalL f v)::sg (evalL (ax f) v)::r.map (fun g=>sg (evalL g v)))+_;rw[(hb u afR px).1,(hb v px afR).1];exact Ql hs (ni _) (ni _) e1
  ·exfalso;have h3:=Ng u afR px;have h4:=VV u afR px;rcases Ji.max hQ hη r f (ax f) (n+1) (Gh u afR px) (by omega) hN with h|h<;>grind
theorem Jm{a:Rat}(h:0<a):∀n:Nat,0<a^n
 |0=>by rw[aik];decide
 |n+1=>by rw[ai4];exact ai6 (Jm h n) h
theorem oz{a b:Rat}(ha:0<a)(hb:0<b):0<a/b:=by
 refine Rat.not_le.1 fun h => ?_
 have h1:=ags (show 0 ≤ -(a/b) by grind) (ag8 hb);have h2:=afT (a:=a) (b:=b) (by grind);grind
theorem tC{f:List Rat}{R:Rat}(hz:aS f=false)(h2:ax f≠[])(hf:f≠[])(hc:vM f (ax f))(hR:0≤R):∃δ ε,0<δ∧0<ε∧∀u v,ab u≤R→ab v≤R→u≤v→v-u≤δ→Loc f (chainF f.length f (ax f)) ε u v:=by have dI:=mc hf;obtain⟨n,hn⟩:∃n,f.length=n+1:=⟨f.length-1,by have:=afC.2 hf;omega⟩;rw[hn];obtain⟨Q,κ,hQ,hκ,hl⟩:=DT hR (n+1) f (ax f) hz (bZ f) h2 hc (by omega);have hp:=Jm (show 0<Q+1 by grind) (n+1);have hη:=oz hκ hp;have aaS:=afT (a:=κ) (b:=(Q+1)^(n+1)) (by grind);generalize κ/(Q+1)^(n+1)=η at hη aaS;have hε:=oz hη (show 0<2*(Q+2) by grind);have Sy:=afT (a:=η) (b:=2*(Q+2)) (by grind);generalize η/(2*(Q+2))=ε at hε Sy;have acB:=ags hQ (ag8 hε);have hL:=uY hR (chainF (n+1) f (ax f));have hS:=nT hR f;have hδ:=oz hε (show 0<lipA R (chainF (n+1) f (ax f))+sec f R+1 by grind);have VW:=afT (a:=ε) (b:=lipA R (chainF (n+1) f (ax f))+sec f R+1) (by grind);generalize ε/(lipA R (chainF (n+1) f (ax f))+sec f R+1)=δ at hδ VW;refine⟨δ,ε,hδ,hε,fun u v hu hv px hw => ?_⟩;have w1:=afN hw hL;have w2:=afN hw hS;have w3:=ags hL (ag8 hδ);have w4:=ags hS (ag8 hδ);exact VU h2 hR hQ hη hε (by grind) (by grind) (by grind) hl hu hv px (by grind) (by grind)
theorem Hb{P:Rat→Rat→Prop}{a b δ:Rat}(hδ:0<δ)(fQ:a≤b)(hs:∀u v,a≤u→u≤v→v≤b→v-u≤δ→P u v)(ht:∀u v w,a≤u→u≤v→v≤w→w≤b→P u v→P v w→P u w):P a b:=by
 have key:∀(n:Nat) (c:Rat),a≤c→c≤b→c-a≤((n:Int):Rat)*δ→P a c:=by
  intro n
  induction n with
  |zero =>intro c h1 h2 h3;have:(((0:Nat):Int):Rat)=0:=rfl;rw[this,ago] at h3;exact hs a c afR h1 h2 (by grind)
  |succ n ih =>
   intro c h1 h2 h3;have e:(((n+1:Nat):Int):Rat)=((n:Int):Rat)+1:=by simp
   rw[e] at h3;by_cases h:c-δ≤a
   ·exact hs a c afR h1 h2 (by grind)
   ·have:=ih (c-δ) (by grind) (by grind) (by grind);exact ht a (c-δ) c afR (by grind) (by grind) h2 this (hs (c-δ) c (by grind) (by grind) h2 (by grind))
 have hx:=Rat.lt_floor_add_one ((b-a)/δ);have he:=afT (a:=b-a) (b:=δ) (by grind);have HH:0≤((b-a)/δ).floor:=by
  refine Rat.le_floor_iff.2 ?_;show(0:Rat)≤_;refine Rat.not_lt.1 fun h => ?_
  have:=ai6 (show 0 < -((b-a)/δ) by grind) hδ;grind
 obtain⟨n,hn⟩:∃n:Nat,((b-a)/δ).floor+1=(n:Int):=⟨(((b-a)/δ).floor+1).toNat,by omega⟩;rw[hn] at hx;refine key n b fQ afR ?_;have:=afF (ag8 hx) (ag8 hδ);grind
def xz(p:List Rat)(lo hi:Rat):Prop:=∃c,0<c∧∀x,lo≤x→x≤hi→c≤ab (evalL p x)
theorem xz.join{p:List Rat}{a b c:Rat}(h:xz p a b)(k:xz p b c):xz p a c:=by
 obtain⟨x,x1,x2⟩:=h;obtain⟨y,y1,y2⟩:=k;refine⟨EO x y,?_,fun z z1 z2 => ?_⟩
 ·unfold EO;split<;>assumption
 ·by_cases hz:z≤b
  ·exact agv (Am x y) (x2 z z1 hz)
  ·exact agv (An x y) (y2 z (by grind) z2)
theorem xz.ne{p:List Rat}{a b x:Rat}(h:xz p a b)(h1:a≤x)(h2:x≤b):evalL p x≠0:=by obtain⟨c,c1,c2⟩:=h;intro e;have:=c2 x h1 h2;rw[e,tB] at this;grind
theorem Loc.XX{f:List Rat}{G:List (List Rat)}{ε u v:Rat}(h:Loc f G ε u v)(px:u≤v):gi G v≤gi G u:=by
 rcases h with ⟨_,e⟩|⟨s,hs,hm,e⟩
 ·rw[e];exact ajr _
 ·by_cases hv:sg (evalL f v) = -s
  ·by_cases hu:sg (evalL f u) = -s
   ·rw[afI hv,afI hu] at e;omega
   ·exfalso;by_cases he:u=v
    ·rw[he] at hu;exact hu hv
    ·have:=hm u v afR (by grind) afR;rcases hs with rfl|rfl
     ·have e1:(((1:Int):Rat))=1:=rfl;rw[e1] at this;rcases eS (evalL f u) with ⟨k1,k2⟩|⟨k1,k2⟩|⟨k1,k2⟩<;>rcases eS (evalL f v) with ⟨m1,m2⟩|⟨m1,m2⟩|⟨m1,m2⟩<;>first|(exfalso;grind)|(exact hu k2)|(rw [m2] at hv;cases hv)
     ·have e1:(((-1:Int):Rat)) = -1:=rfl;rw[e1] at this;rcases eS (evalL f u) with ⟨k1,k2⟩|⟨k1,k2⟩|⟨k1,k2⟩<;>rcases eS (evalL f v) with ⟨m1,m2⟩|⟨m1,m2⟩|⟨m1,m2⟩<;>first|(exfalso;grind)|(exact hu k2)|(rw [m2] at hv;cases hv)
  ·rw[afG hv] at e;split at e<;>omega
theorem Loc.aaT{f:List Rat}{G:List (List Rat)}{ε u v:Rat}(h:Loc f G ε u v)(hε:0<ε)(px:u≤v)(hc:gi G u=gi G v)(h0:evalL f u≠0):evalL f v≠0∧xz f u v:=by
 rcases h with ⟨⟨s,hs,hb⟩,_⟩|⟨s,hs,hm,e⟩
 ·have ha:xz f u v:=⟨ε,hε,fun x x1 x2=>(hb x x1 x2).2⟩;exact⟨ha.ne px afR,ha⟩
 ·rw[hc] at e;have e:(sg (evalL f v) = -s↔sg (evalL f u) = -s):=by
   constructor
   ·intro h;rw[afI h] at e;refine afE fun k => ?_
    rw[afG k] at e;omega
   ·intro h;rw[afI h] at e;refine afE fun k => ?_
    rw[afG k] at e;omega
  have s1:(((1:Int):Rat))=1:=rfl;have s2:(((-1:Int):Rat)) = -1:=rfl;have mon:∀x y,u≤x→x≤y→y≤v→0≤(s:Rat)*(evalL f y-evalL f x):=by
   intro x y h1 h2 h3;by_cases VP:x=y
   ·rw[VP];grind
   ·exact ag8 (hm x y h1 (by grind) h3)
  have ha:xz f u v:=by
   by_cases sv:sg (evalL f u) = -s
   ·
    have EM:=e.2 sv;refine⟨ab (evalL f v),Ap ?_,fun x x1 x2 => ?_⟩
    ·intro h;rw[h] at EM;rcases hs with rfl|rfl
     ·cases EM
     ·cases EM
    ·have:=mon x v x1 x2 afR;rcases hs with rfl|rfl
     ·rw[s1] at this;rcases eS (evalL f v) with ⟨m1,m2⟩|⟨m1,m2⟩|⟨m1,m2⟩
      ·rcases bC (evalL f v) with c|c<;>rcases bC (evalL f x) with d|d<;>grind
      ·rw[m2] at EM;cases EM
      ·rw[m2] at EM;cases EM
     ·rw[s2] at this;rcases eS (evalL f v) with ⟨m1,m2⟩|⟨m1,m2⟩|⟨m1,m2⟩
      ·rw[m2] at EM;cases EM
      ·rw[m2] at EM;cases EM
      ·rcases bC (evalL f v) with c|c<;>rcases bC (evalL f x) with d|d<;>grind
   ·refine⟨ab (evalL f u),Ap h0,fun x x1 x2 => ?_⟩;have:=mon u x afR x1 x2;rcases hs with rfl|rfl
    ·rw[s1] at this;rcases eS (evalL f u) with ⟨m1,m2⟩|⟨m1,m2⟩|⟨m1,m2⟩
     ·exact absurd m2 sv
     ·exact absurd m1 h0
     ·rcases bC (evalL f u) with c|c<;>rcases bC (evalL f x) with d|d<;>grind
    ·rw[s2] at this;rcases eS (evalL f u) with ⟨m1,m2⟩|⟨m1,m2⟩|⟨m1,m2⟩
     ·rcases bC (evalL f u) with c|c<;>rcases bC (evalL f x) with d|d<;>grind
     ·exact absurd m1 h0
     ·exact absurd m2 sv
  exact⟨ha.ne px afR,ha⟩
theorem Loc.aG{f:List Rat}{G:List (List Rat)}{ε u v c R:Rat}(h:Loc f G ε u v)(px:u≤v)(hu:ab u≤R)(hv:ab v≤R)(hc:0<c)(ha:∀x,u≤x→x≤v→c≤ab (evalL f x))(hd:lip f R*(v-u)<c):gi G u=gi G v:=by
 rcases h with ⟨_,e⟩|⟨s,hs,hm,e⟩
 ·exact e
 ·have d:=G9 hv hu f;have e1:ab (v-u)=v-u:=by rcases bC (v-u) with h|h<;>grind
  rw[e1] at d;have d1:=uW (evalL f v-evalL f u);have d2:=kN (evalL f v-evalL f u);have a1:=ha u afR px;have a2:=ha v px afR;have es:sg (evalL f u)=sg (evalL f v):=by rcases eS (evalL f u) with ⟨k1,k2⟩|⟨k1,k2⟩|⟨k1,k2⟩<;>rcases eS (evalL f v) with ⟨m1,m2⟩|⟨m1,m2⟩|⟨m1,m2⟩<;>rcases bC (evalL f u) with c1|c1<;>rcases bC (evalL f v) with c2|c2<;>first|(exfalso;grind)|(rw [k2,m2];done)
  rw[es] at e;omega
section
variable {f:List Rat} {R:Rat}
theorem B6{a b:Rat} : ∃R,0≤R∧ab a≤R∧ab b≤R:=by
 refine⟨ab a+ab b,?_,?_,?_⟩
 ·have:=cG a;have:=cG b;grind
 ·have:=cG b;grind
 ·have:=cG a;grind
theorem me(h:ax f=[])(x:Rat):gi (chainF f.length f (ax f)) x=0:=by rw[h,nU];show varS 0 [sg (evalL f x)]=0;rcases ni (evalL f x) with e|e|e<;>rw[e]<;>rfl
theorem yN(hz:aS f=false)(hf:f≠[])(h:ax f=[]):∃c,f=[c]∧c≠0:=by
 match f,hf with
 |[c],_=>exact⟨c,rfl,cK hz (by simp)⟩
 |a::b::r,_ =>
  exfalso;have key:∀i,coef (gN 1 ((a::b::r).drop 1)) i=0:=by intro i;have e2:aP (gN 1 ((a::b::r).drop 1))=[]:=h;rw[←eR,e2,lH]
  have Kx:∀(q:List Rat) (i j:Nat),coef (gN i q) j=((i+j:Nat):Int)*coef q j:=by
   intro q
   induction q with
   |nil=>intro i j;show(0:Rat)=_*0;rw[ahE]
   |cons a q ih =>
    intro i j;cases j with
    |zero=>rfl
    |succ j=>rw[gN,fE,fE,ih (i+1) j,show i+1+j=i+(j+1) from by omega]
  have hk:=key r.length;rw[Kx] at hk;have ht:=cK hz (by simp);have e:bz (a::b::r)=coef ((a::b::r).drop 1) r.length:=by unfold bz;rw[show (a::b::r).length-1=r.length+1 from by simp];rfl
  rw[←e] at hk;rcases agG.1 hk with h|h
  ·have:=aiD.1 (show (((1+r.length:Nat):Int):Rat)=((0:Int):Rat) from h);omega
  ·exact ht h
theorem uZ(hz:aS f=false)(hf:f≠[])(hc:vM f (ax f)){a b:Rat}(fQ:a≤b):gi (chainF f.length f (ax f)) b≤gi (chainF f.length f (ax f)) a:=by
 by_cases h2:ax f=[]
 ·rw[me h2,me h2];exact ajr _
 ·obtain⟨R,hR,ha,hb⟩:=B6 (a:=a) (b:=b);obtain⟨δ,ε,hδ,hε,hl⟩:=tC hz h2 hf hc hR;exact Hb (P:=fun u v=>gi (chainF f.length f (ax f)) v≤gi (chainF f.length f (ax f)) u) hδ fQ
   (fun u v h1 h3 h4 h5=>(hl u v (fF h1 (by grind) ha hb) (fF (by grind) h4 ha hb) h3 h5).XX h3)
   (fun u v w _ _ _ _ h1 h3=>Int.le_trans h3 h1)
theorem Jn(hz:aS f=false)(hf:f≠[])(hc:vM f (ax f)){a b:Rat}(fQ:a≤b)(he:gi (chainF f.length f (ax f)) a=gi (chainF f.length f (ax f)) b)(h0:evalL f a≠0):xz f a b:=by
 by_cases h2:ax f=[]
 ·obtain⟨c,rfl,Fy⟩:=yN hz hf h2;exact⟨ab c,Ap Fy,fun x _ _=>by rw[gK];exact afR⟩
 ·obtain⟨R,hR,ha,hb⟩:=B6 (a:=a) (b:=b);obtain⟨δ,ε,hδ,hε,hl⟩:=tC hz h2 hf hc hR;have:=Hb (P:=fun u v=>gi (chainF f.length f (ax f)) v≤gi (chainF f.length f (ax f)) u∧(gi (chainF f.length f (ax f)) u=gi (chainF f.length f (ax f)) v→evalL f u≠0→evalL f v≠0∧xz f u v)) hδ fQ
   (fun u v h1 h3 h4 h5=>by have:=hl u v (fF h1 (by grind) ha hb) (fF (by grind) h4 ha hb) h3 h5;exact⟨this.XX h3,this.aaT hε h3⟩)
   (fun u v w _ _ _ _ h1 h3=>by refine⟨Int.le_trans h3.1 h1.1,fun e n => ?_⟩;have i1:=h1.1;have i2:=h3.1;obtain⟨m1,m2⟩:=h1.2 (by omega) n;obtain⟨m3,m4⟩:=h3.2 (by omega) m1;exact⟨m3,m2.join m4⟩)
  exact(this.2 he h0).2
theorem Qm(hz:aS f=false)(hf:f≠[])(hc:vM f (ax f)){a b:Rat}(fQ:a≤b)(h:xz f a b):gi (chainF f.length f (ax f)) a=gi (chainF f.length f (ax f)) b:=by
 by_cases h2:ax f=[]
 ·rw[me h2,me h2]
 ·obtain⟨R,hR,ha,hb⟩:=B6 (a:=a) (b:=b);obtain⟨δ,ε,hδ,hε,hl⟩:=tC hz h2 hf hc hR;obtain⟨c,c1,c2⟩:=h;have hL:=iA hR f;have aaU:=oz c1 (show 0<lip f R+1 by grind);have VW:=afT (a:=c) (b:=lip f R+1) (by grind);generalize c/(lip f R+1)=δ2 at aaU VW;exact Hb (P:=fun u v=>gi (chainF f.length f (ax f)) u=gi (chainF f.length f (ax f)) v) (δ:=EO δ δ2) (by unfold EO;split<;>assumption) fQ
   (fun u v h1 h3 h4 h5=>by have hu:=fF h1 (show u≤b by grind) ha hb;have hv:=fF (show a≤v by grind) h4 ha hb;have w1:=agv h5 (Am δ δ2);have w2:=agv h5 (An δ δ2);have w3:=afN w2 hL;exact(hl u v hu hv h3 w1).aG h3 hu hv c1 (fun x x1 x2=>c2 x (agv h1 x1) (agv x2 h4)) (by grind))
   (fun u v w _ _ _ _ h1 h3=>h1.trans h3)
end
theorem free_spec{p:List Rat}(hz:aS p=false)(h0:p≠[]):aS (bj p)=false∧bj p≠[]∧vM (bj p) (ax (bj p))∧Dv (bj p) p∧∃k,k≤p.length∧Dv p (iz (bj p) k):=by
 obtain⟨w,s⟩:=XU hz h0;have hm:=cR (dP p (eL p (ax p))).1;have fT:=Ao s.zf s.f0;have d1:=DQ s.zf;have d2:=Qd (dP p (eL p (ax p))).1;have e:bj p=b9 (dP p (eL p (ax p))).1:=rfl;rw[e];refine⟨hm,fT,?_,?_,?_⟩
 ·have hc:=s.free;obtain⟨u,v,h⟩:=hc;have ht:=cK s.zf s.f0;refine⟨br (bz (dP p (eL p (ax p))).1) u,br (bz (dP p (eL p (ax p))).1) v,fun x => ?_⟩;have h1:=h x;have hd:∀x,dEv (b9 (dP p (eL p (ax p))).1) x=1/bz (dP p (eL p (ax p))).1*dEv (dP p (eL p (ax p))).1 x:=by
   intro x;rw[sx (q:=br (1/bz (dP p (eL p (ax p))).1) (dP p (eL p (ax p))).1) (fun x=>by rw[jf,bh]) x,DS]
  rw[cX] at h1;rw[bh,bh,jf,cX,hd];have h2:=afT (a:=1) ht;grind
 ·refine d1.trans ⟨eL p (ax p),fun x=>by rw[s.pe];grind⟩
 ·have zB:=s.all;have Er:(eL p (ax p)).length+1≤p.length+1:=by
   have:=((vN p (ax p) hz (bZ p)).1.len (iV _ _) hz h0).2;omega
  have pw:∀k,Dv (iz (dP p (eL p (ax p))).1 k) (iz (b9 (dP p (eL p (ax p))).1) k):=by
   intro k
   induction k with
   |zero=>exact Dv.refl _
   |succ k ih =>
    obtain⟨a,ha⟩:=ih;obtain⟨b,hb⟩:=d2;exact⟨mulL a b,fun x=>by show evalL (mulL _ _) x=_*evalL (mulL _ _) x;rw[aN,aN,aN,ha,hb];grind⟩
  by_cases K3:ax p=[]
  ·
   obtain⟨c,rfl,Fy⟩:=yN hz h0 K3;refine⟨0,by simp,[1/c],fun x => ?_⟩;show evalL [1] x=_;rw[gK,gK,gK,afT Fy]
  ·have hgd:=((vN p (ax p) hz (bZ p)).2.len (iV _ _) (bZ p) K3).2;have hdl:=mc h0;exact⟨(eL p (ax p)).length+1,by omega,zB.trans (pw _)⟩
end Go.Proofs.YtcpnocgollpbhaaGreatDoor.Sym
namespace Go.Proofs.YtcpnocgollpbhaaGreatDoor.Sym
open Go Path cV
set_option linter.unusedVariables false
def WI(p:List Rat)(b:Rat):Prop:=∀c∈p,ab c+ab (bz p)≤b*ab (bz p)
theorem NO{a:Rat}{r:List Rat}(h:r≠[]):bz (a::r)=bz r:=by unfold bz;obtain⟨n,hn⟩:∃n,r.length=n+1:=⟨r.length-1,by have:=afC.2 h;omega⟩;rw[afX,hn];rfl
theorem vQ{s:Rat}(hs:s=1∨s = -1):∀n:Nat,s^n=1∨s^n = -1
 |0=>Or.inl (aik _)
 |n+1=>by have ih:=vQ hs n;rw[ai4];rcases ih with h|h<;>rcases hs with k|k<;>rw[h,k]<;>grind
theorem DU{T b s x:Rat}(hT:0<T)(hs:s=1∨s = -1)(hx:b≤x)(O3:0≤x):∀p:List Rat,p≠[]→0<bz p→(∀c∈p,ab c+T≤b*T)→bz p=T→T≤s^(p.length-1)*evalL p (s*x)
 |[],h,_,_,_=>absurd rfl h
 |[a],_,h1,_,h2=>by have e:bz [a]=a:=rfl;rw[gK,agt,ahR,aik,ahl,←e,h2];exact afR
 |a::c::r,_,h1,h2,h3=>by
  rw[NO (by simp)] at h1 h3;have ih:=DU hT hs hx O3 (c::r) (by simp) h1 (fun y hy=>h2 y (ag9 _ hy)) h3;have ha:=h2 a (agA ..);rw[afX,afX,ahU,ai4];rw[afX,ahU] at ih;have e:evalL (a::c::r) (s*x)=evalL (c::r) (s*x)*(s*x)+a:=rfl;rw[e];generalize evalL (c::r) (s*x)=E at ih ⊢;have hp:=vQ hs r.length;generalize s^r.length=P at ih hp ⊢;have h4:T*x≤P*E*x:=afF ih O3;have h5:T*b≤T*x:=afN hx (ag8 hT);have h6:=uW a;have h7:=kN a;have e2:P*s*(E*(s*x)+a)=(s*s)*(P*E*x)+P*s*a:=by grind
  have e3:s*s=1:=by rcases hs with rfl|rfl<;>decide +kernel
  rw[e2,e3];have h8:P*s=1∨P*s = -1:=by rcases hs with rfl|rfl<;>rcases hp with h|h<;>rw[h]<;>first|(left;decide +kernel)|(right;decide +kernel)
  rcases h8 with h|h<;>rw[h]<;>grind
theorem SA(p:List Rat):∀c∈br (-1) p,∃d∈p,ab c=ab d:=by
 induction p with
 |nil=>intro c hc;cases hc
 |cons a r ih =>
  intro c hc;rcases afY.1 hc with e|hc
  ·refine⟨a,agA ..,?_⟩;rw[e,←Aq a];congr 1;grind
  ·obtain⟨d,h1,h2⟩:=ih c hc;exact⟨d,ag9 _ h1,h2⟩
theorem SB{p:List Rat}{b:Rat}(hz:aS p=false)(h0:p≠[])(hc:WI p b)(hb:0≤b){y:Rat}(hy:b≤ab y):ab (bz p)≤ab (evalL p y):=by
 have ht:=cK hz h0;have key:∀q:List Rat,q≠[]→0<bz q→WI q b→bz q≤ab (evalL q y):=by
  intro q hq hT Y2;have e:ab (bz q)=bz q:=by rcases bC (bz q) with h|h<;>grind
  unfold WI at Y2;rw[e] at Y2;rcases bC y with ⟨h1,h2⟩|⟨h1,h2⟩
  ·have:=DU hT (Or.inl rfl) (show b≤y by grind) h1 q hq hT Y2 rfl;rw[ahl] at this;have h3:=vQ (Or.inl rfl:(1:Rat)=1∨(1:Rat) = -1) (q.length-1);have h4:=uW (evalL q y);have h5:=kN (evalL q y);rcases h3 with h|h<;>rw[h] at this<;>grind
  ·have:=DU hT (Or.inr rfl) (show b ≤ -y by grind) (by grind) q hq hT Y2 rfl;rw[show (-1:Rat) * -y=y from by grind] at this;have h3:=vQ (Or.inr rfl:(-1:Rat)=1∨(-1:Rat) = -1) (q.length-1);have h4:=uW (evalL q y);have h5:=kN (evalL q y);rcases h3 with h|h<;>rw[h] at this<;>grind
 rcases bC (bz p) with ⟨h1,h2⟩|⟨h1,h2⟩
 ·have:=key p h0 (by grind) hc;rw[h2];exact this
 ·have e:bz (br (-1) p) = - bz p:=by unfold bz;rw[kL,dD];grind
  have e3:ab (-bz p) = -bz p:=by rw[Aq,h2]
  have:=key (br (-1) p) (by cases p with|nil=>exact absurd rfl h0|cons a r=>intro h;cases h) (by rw[e];grind) (by intro c SD;obtain⟨d,d1,d2⟩:=SA p c SD;rw[e,Aq,d2];exact hc d d1)
  rw[e,bh] at this;rw[h2];have e2:(-1:Rat)*evalL p y = - evalL p y:=by grind
  rwa[e2,Aq] at this
theorem Jo{p:List Rat}{b:Rat}(hz:aS p=false)(h0:p≠[])(hc:WI p b)(hb:0≤b){u v:Rat}(h:∀x,u≤x→x≤v→b≤ab x):xz p u v :=
 ⟨ab (bz p),Ap (cK hz h0),fun x h1 h2=>SB hz h0 hc hb (h x h1 h2)⟩
def Ch(h:Nat)(p:List Rat):Prop:=∃D:Int,D≠0∧wl D≤h∧∀i,∃n:Int,coef p i*(D:Rat)=(n:Rat)∧wl n≤h
theorem rC{D:Int}(h:D≠0):(D:Rat)≠0:=fun e=>h (aiD.1 (by rw[e];rfl))
theorem DV{a b c:Rat}(hc:c≠0)(h:a*c=b*c):a=b:=by
 have:(a-b)*c=0:=by grind
 rcases agG.1 this with e|e
 ·grind
 ·exact absurd e hc
theorem py{x:Rat}{n D:Int}(hD:D≠0)(h:x*(D:Rat)=(n:Rat)):ht x≤max (wl n) (max (wl D) 1):=by
 have e:x=Rat.divInt n D:=by rw[agi];refine DV (rC hD) ?_;rw[h,afT (rC hD)]
 rw[e];exact vE n D
theorem Ch.mono{h k:Nat}{p:List Rat}(hp:Ch h p)(hk:h≤k):Ch k p:=by obtain⟨D,h1,h2,h3⟩:=hp;refine⟨D,h1,by omega,fun i => ?_⟩;obtain⟨n,a,b⟩:=h3 i;exact⟨n,a,by omega⟩
theorem Ch.ht{h:Nat}{p:List Rat}(hp:Ch h p)(i:Nat):ht (coef p i)≤max h 1:=by obtain⟨D,h1,h2,h3⟩:=hp;obtain⟨n,a,b⟩:=h3 i;have:=py h1 a;omega
theorem Ch.fl{h:Nat}{p:List Rat}(hp:Ch h p)(h1:1≤h):Fl h p:=lX (fun i=>by have:=hp.ht i;omega)
theorem Ch.congr{h:Nat}{p q:List Rat}(hp:Ch h p)(e:∀i,coef p i=coef q i):Ch h q:=by obtain⟨D,h1,h2,h3⟩:=hp;refine⟨D,h1,h2,fun i => ?_⟩;rw[←e i];exact h3 i
theorem Ch.trim{h:Nat}{p:List Rat}(hp:Ch h p):Ch h (aP p):=hp.congr (fun i=>(eR p i).symm)
theorem Ch.nil{h:Nat}(h1:1≤h):Ch h []:=⟨1,by decide,by rw[VL];exact h1,fun i=>⟨0,by rw[lH,ago];rfl,ag0 _⟩⟩
theorem Qn:wl 0=0:=rfl
theorem Ch.cons{h k:Nat}{a:Rat}{p:List Rat}(hp:Ch h p)(ha:Sym.ht a≤k):Ch (h+k) (a::p):=by
 obtain⟨D,h1,h2,h3⟩:=hp;have hd:=fC a;have hn:=eJ a;have LD:(a.den:Int)≠0:=by have:=a.den_nz;omega
 have aaV:a*((a.den:Int):Rat)=(a.num:Rat):=by
  have:a=Rat.divInt a.num a.den:=(ahs a).symm
  conv=>lhs;lhs;rw[this]
  rw[agi,afT (rC LD)]
 have hm:=dZ D a.den;refine⟨D*a.den,by intro e;rcases Int.mul_eq_zero.1 e with e|e;exact h1 e;exact LD e,by omega,fun i => ?_⟩;cases i with
 |zero =>refine⟨a.num*D,?_,by have:=dZ a.num D;omega⟩;rw[vH,ag2,ag2,←aaV];grind
 |succ i =>obtain⟨n,e1,e2⟩:=h3 i;refine⟨n*a.den,?_,by have:=dZ n a.den;omega⟩;rw[fE,ag2,ag2,←e1];grind
theorem Ch.Qo{k:Nat} : ∀{p:List Rat},Fl k p→Ch (p.length*k+1) p
 |[],_=>Ch.nil (by omega)
 |a::r,h=>by have:=(Ch.Qo (fun x hx=>h x (ag9 _ hx))).cons (h a (agA ..));rw[afX,age,agV];exact this.mono (by omega)
theorem Ch.K6{h:Nat}{p:List Rat}(hp:Ch h p)(ht:bz p≠0):Ch h (br (1/bz p) p):=by
 obtain⟨D,h1,h2,h3⟩:=hp;obtain⟨t,e1,e2⟩:=h3 (p.length-1);have e1:bz p*(D:Rat)=(t:Rat):=e1;have XW:t≠0:=by
  intro e;rw[e] at e1;rcases agG.1 e1 with e|e
  ·exact ht e
  ·exact rC h1 e
 refine⟨t,XW,e2,fun i => ?_⟩;obtain⟨n,g1,g2⟩:=h3 i;refine⟨n,?_,g2⟩;have:=afT (a:=1) ht;rw[dD,←g1,←e1];grind
theorem Ch.kR{h:Nat}{p:List Rat}(hp:Ch h p)(h1:1≤h)(hz:aS p=false):Ch h (b9 p):=by
 by_cases e:p=[]
 ·subst e;exact Ch.nil h1
 ·exact(hp.K6 (cK hz e)).trim
theorem Ch.step{h b:Nat}{rest q:List Rat}(hr:Ch h rest)(hq:Ch b q)(hz:bz q≠0):Ch (h+b+1) (nB rest q):=by
 refine Ch.trim ?_;obtain⟨D,h1,h2,h3⟩:=hr;obtain⟨E,g1,g2,g3⟩:=hq;obtain⟨u,u1,u2⟩:=g3 (q.length-1);obtain⟨t,t1,t2⟩:=h3 (rest.length-1);have u1:bz q*(E:Rat)=(u:Rat):=u1;have t1:bz rest*(D:Rat)=(t:Rat):=t1;have RH:u≠0:=by
  intro e;rw[e] at u1;rcases agG.1 u1 with e|e
  ·exact hz e
  ·exact rC g1 e
 have hc:=FL (rest:=rest) hz;have hm:=dZ D u;refine⟨D*u,by intro e;rcases Int.mul_eq_zero.1 e with e|e;exact h1 e;exact RH e,by omega,fun i => ?_⟩;obtain⟨n,e1,e2⟩:=h3 i;rw[gx,kr,dD];by_cases hi:i<rest.length-q.length
 ·rw[afI hi];refine⟨n*u,?_,by have:=dZ n u;omega⟩;rw[ag2,ag2,←e1];grind
 ·rw[afG hi];obtain⟨m,f1,f2⟩:=g3 (i-(rest.length-q.length));refine⟨n*u + -(t*m),?_,by have:=dZ n u;have:=dZ t m;have:=gn (t*m);have:=Ad (n*u) (-(t*m));omega⟩;rw[ag2,agM,ag2,agX,ag2,←e1,←f1,←t1,←u1,←hc];grind
theorem FQ{b:Nat}{q:List Rat}(hq:Ch b q)(hz:bz q≠0)(o5:q.length≠0):∀(n h:Nat) (out rest:List Rat),Ch h rest→Ch (h+(rest.length+1-q.length)*(b+1)) (oM n out rest q).2
 |0,h,out,rest,hr=>hr.mono (by omega)
 |n+1,h,out,rest,hr=>by
  rw[oM];cases hb:Nat.blt rest.length q.length with
  |true=>exact hr.mono (by omega)
  |false =>
   have hl:=vK.1 hb;have h1:=po hz o5 hl;have ih:=FQ hq hz o5 n (h+b+1) (aP (db out (fD (rest.length-q.length) [stepC rest q]))) (nB rest q) (hr.step hq hz);refine ih.mono ?_;have e:rest.length+1-q.length=(rest.length-q.length)+1:=by omega
   have h2:((nB rest q).length+1-q.length)*(b+1)≤(rest.length-q.length)*(b+1):=afw _ (by omega);rw[e,age,agV];omega
theorem Jp{b M:Nat}{q:List Rat}(hq:Ch b q)(sE:1≤b)(hz:bz q≠0)(o5:q.length≠0):∀(n h:Nat) (out rest:List Rat),1≤h→Ch h rest→h+(rest.length+1-q.length)*(b+1)≤M→(∀i,i+q.length≤rest.length→coef out i=0)→(∀i,ht (coef out i)≤M+b)→∀i,ht (coef (oM n out rest q).1 i)≤M+b
 |0,h,out,rest,_,_,_,_,ho=>ho
 |n+1,h,out,rest,h1,hr,hM,Fy,ho=>by
  rw[oM];cases hb:Nat.blt rest.length q.length with
  |true=>exact ho
  |false =>
   have hl:=vK.1 hb;have hs:=po hz o5 hl;have e:rest.length+1-q.length=(rest.length-q.length)+1:=by omega
   have h2:((nB rest q).length+1-q.length)*(b+1)≤(rest.length-q.length)*(b+1):=afw _ (by omega);rw[e,age,agV] at hM;have cc:∀i,coef (aP (db out (fD (rest.length-q.length) [stepC rest q]))) i=if i=rest.length-q.length then stepC rest q else coef out i:=by
    intro i;rw[eR,gx,kr];by_cases h3:i=rest.length-q.length
    ·rw[afI h3,afG (by omega),Fy i (by omega),h3,ahR,vH,aiw]
    ·rw[afG h3];split
     ·rw[agS]
     ·rw[cW (p:=[stepC rest q]) (by simp;omega),agS]
   refine Jp hq sE hz o5 n (h+b+1) _ (nB rest q) (by omega) (hr.step hq hz) (by omega) (fun i hi => ?_) (fun i => ?_)
   ·rw[cc,afG (by omega)];exact Fy i (by omega)
   ·rw[cc];split
    ·unfold stepC;have a1:=tv (bz rest) (bz q);have a2:=hr.ht (rest.length-1);have a3:=hq.ht (q.length-1);have a2:ht (bz rest)≤max h 1:=a2;have a3:ht (bz q)≤max b 1:=a3;omega
    ·exact ho i
theorem Ch.rest{h b:Nat}{p q:List Rat}(hp:Ch h p)(hq:Ch b q)(hz:aS q=false)(o5:q≠[]):Ch (h+(p.length+1-q.length)*(b+1)) (b8 p q):=by have:=FQ hq (cK hz o5) (by intro e;exact o5 (afr e)) (p.length+1) h [] (aP p) hp.trim;refine Ch.mono this ?_;have h1:=gT p;have:((aP p).length+1-q.length)*(b+1)≤(p.length+1-q.length)*(b+1):=afw _ (by omega);omega
theorem Mr{h b:Nat}{p q:List Rat}(hp:Ch h p)(hq:Ch b q)(h1:1≤h)(sE:1≤b)(hz:aS q=false)(o5:q≠[]):Fl (h+(p.length+1-q.length)*(b+1)+b) (dP p q).1:=by have hl:=gT p;have h2:((aP p).length+1-q.length)*(b+1)≤(p.length+1-q.length)*(b+1):=afw _ (by omega);exact lX (Jp hq sE (cK hz o5) (by intro e;exact o5 (afr e)) (p.length+1) h [] (aP p) h1 hp.trim (by omega) (fun i _=>rfl) (fun i=>afJ (ajj j9) (by omega)))
theorem Jq{p q:List Rat}(hz:aS q=false)(o5:q≠[]):(dP p q).1.length≤p.length+1-q.length:=by
 have key:∀(n:Nat) (out rest:List Rat),rest.length≤p.length→out.length≤p.length+1-q.length→(oM n out rest q).1.length≤p.length+1-q.length:=by
  intro n
  induction n with
  |zero=>intro out rest _ h;exact h
  |succ n ih =>
   intro out rest h1 h2;rw[oM];cases hb:Nat.blt rest.length q.length with
   |true=>exact h2
   |false =>have hl:=vK.1 hb;have hs:=po (cK hz o5) (by intro e;exact o5 (afr e)) hl;refine ih _ _ (by omega) ?_;have h3:=gT (db out (fD (rest.length-q.length) [stepC rest q]));rw[I9] at h3;unfold fD at h3;rw[afW,agy] at h3;simp only[List.length_cons,List.length_nil] at h3;unfold fD;omega
 exact key _ _ _ (gT p) (by simp)
def xB(a b:Nat):Nat→Nat
 |0=>a
 |1=>b
 |j+2=>xB a b j+2*(xB a b (j+1)+1)
theorem Hc(a b:Nat)(h:a≤b):∀j,xB a b j≤xB a b (j+1)
 |0=>h
 |j+1=>by rw[xB];omega
theorem dK(a b:Nat)(h:a≤b){i j:Nat}(AO:i≤j):xB a b i≤xB a b j:=by
 induction AO with
 |refl=>exact afy _
 |step _ ih=>exact afJ ih (Hc a b h _)
theorem u5(a b:Nat)(h:a≤b)(j:Nat):∀d,xB a b j+(d+2)*(xB a b (j+1)+1)≤xB a b (j+1+(d+1))
 |0=>afy _
 |d+1=>by
  have ih:=u5 a b h j d;have h1:=dK a b h (i:=j+1) (j:=j+1+d) (by omega);have e:xB a b (j+1+(d+1+1))=xB a b (j+1+d)+2*(xB a b (j+1+(d+1))+1):=rfl;rw[e];have e2:(d+1+2)*(xB a b (j+1)+1)=(d+2)*(xB a b (j+1)+1)+(xB a b (j+1)+1):=by rw[show d+1+2=(d+2)+1 from by omega,age,agV]
  rw[e2];omega
structure B7 (a b N i j:Nat) (p q:List Rat):Prop where
 hp:Ch (xB a b i) p
 hq:Ch (xB a b j) q
 lt:i<j
 len:q.length<p.length
 bound:j+p.length≤N+1
 zp:aS p=false
 zq:aS q=false
theorem B7.rest{a b N i j:Nat}{p q:List Rat}(e:B7 a b N i j p q)(fQ:a≤b)(o5:q≠[]):Ch (xB a b (j+(p.length-q.length))) (b8 p q)∧(b8 p q).length<q.length:=by have h1:=e.hp.rest e.hq e.zq o5;have hl:=(ma p e.zq o5).1;have hlen:=e.len;have dI:=e.lt;refine⟨h1.mono ?_,hl⟩;obtain⟨j',rfl⟩:∃j',j=j'+1:=⟨j-1,by omega⟩;obtain⟨d,hd⟩:∃d,p.length-q.length=d+1:=⟨p.length-q.length-1,by omega⟩;have h2:=dK a b fQ (i:=i) (j:=j') (by omega);have h3:=u5 a b fQ j' d;rw[hd,show p.length+1-q.length=d+2 from by omega];omega
theorem B7.next{a b N i j:Nat}{p q r:List Rat}(e:B7 a b N i j p q)(fQ:a≤b)(o5:q≠[])(hr:Ch (xB a b (j+(p.length-q.length))) r)(hl:r.length<q.length)(hz:aS r=false):B7 a b N j (j+(p.length-q.length)) q r:=by have:=e.len;have:=e.bound;exact⟨e.hq,hr,by omega,hl,by omega,e.zq,hz⟩
theorem B7.idx{a b N i j:Nat}{p q:List Rat}(e:B7 a b N i j p q):j≤N+1:=by have:=e.bound;omega
theorem Ms{a b N:Nat}(ha:1≤a)(fQ:a≤b):∀(n i j:Nat) (p q:List Rat),B7 a b N i j p q→Ch (xB a b (N+1)) (lY n p q)
 |0,i,j,p,q,e=>e.hp.mono (dK a b fQ (by have:=e.idx;have:=e.lt;omega))
 |n+1,i,j,p,q,e=>by
  rw[lY];by_cases h:q.length=0
  ·rw[beq_iff.2 h,afz];exact e.hp.mono (dK a b fQ (by have:=e.idx;have:=e.lt;omega))
  ·have fT:q≠[]:=fun e=>h (by rw[e];rfl)
   rw[iG.2 h,afP];obtain⟨h1,h2⟩:=e.rest fQ fT;have hz:=fX p q;refine Ms ha fQ n _ _ q _ (e.next fQ fT (h1.kR (afJ ha (dK a b fQ (i:=0) (ag0 _))) hz) (by rw[dx hz];exact h2) (cR _))
theorem Ch.derive{h:Nat}{p:List Rat}(hp:Ch h p)(hl:p.length≤1000):Ch (h+1) (ax p):=by
 refine Ch.trim ?_;have key:∀(q:List Rat) (i:Nat) (j:Nat),coef (gN i q) j=((i+j:Nat):Int)*coef q j:=by
  intro q
  induction q with
  |nil=>intro i j;show(0:Rat)=_*0;rw[ahE]
  |cons a r ih =>
   intro i j;cases j with
   |zero=>rfl
   |succ j =>rw[gN,fE,fE,ih (i+1) j,show i+1+j=i+(j+1) from by omega]
 have hd:∀j,coef (p.drop 1) j=coef p (j+1):=by
  intro j;cases p with
  |nil=>rfl
  |cons a r=>rfl
 obtain⟨D,h1,h2,h3⟩:=hp;refine⟨D,h1,by omega,fun i => ?_⟩;rw[key,hd];by_cases hi:i+1<p.length
 ·obtain⟨n,e1,e2⟩:=h3 (i+1);refine⟨((1+i:Nat):Int)*n,?_,?_⟩
  ·rw[ag2,←e1];grind
  ·have:=dZ ((1+i:Nat):Int) n;have:wl ((1+i:Nat):Int)≤1:=lE (by omega);omega
 ·rw[cW (by omega)];exact⟨0,by grind,ag0 _⟩
end Go.Proofs.YtcpnocgollpbhaaGreatDoor.Sym
