/- Lemmas for the statements of this seat. -/
import Derived.Test.YtneklnlpgfeplaaGreatG1
import Derived.Test.YtneklnlpgfeplaaGreatP1
import Derived.Test.YtneklnlpgfeplaaGreatP2
import Derived.Test.YtneklnlpgfeplaaGreatP3
namespace Go.Proofs.YtneklnlpgfeplaaGreat.Sym
open Go Path eJ Ct
set_option linter.unusedVariables false
set_option maxRecDepth 20000
namespace Ct
abbrev gR(g a b r:Rat):ck:=⟨bw g,bw a,bw r,bw (b*b)⟩
structure QO (g a b r:Rat):Prop where
 g1:ht g≤1
 a1:ht a≤1
 b1:ht b≤1
 r1:ht r≤1
 g0:0<g
 a0:0<a
 b0:0<b
 r0:0<r
theorem QO.b2{g a b r:Rat}(h:QO g a b r):ht (b*b)≤2∧0<b*b:=by have h1:=dY b b;have h2:=h.b1;exact⟨by omega,Rat.mul_pos h.b0 h.b0⟩
theorem tU{g a b r:Rat}(h:QO g a b r):Cp 36 [(gR g a b r).pv] .ar:=by
 have g1:=h.g1;have a1:=h.a1;have r1:=h.r1;have b2:=h.b2;refine dj.e0 _ ?_;refine dj.dp 0 _ (bw g) _ (by omega) rfl (QF.Valid g (by omega)) rfl (by omega) ?_;refine dj.dp 1 _ (bw a) _ (by omega) rfl (QF.Valid a (by omega)) rfl (by omega) ?_;refine dj.dp 2 _ (bw r) _ (by omega) rfl (QF.Valid r (by omega)) rfl (by omega) ?_;refine dj.dp 3 _ (bw (b*b)) _ (by omega) rfl (QF.Valid (b*b) (by omega)) rfl (by omega) ?_;have ca:kB a 0≠0:=fun e=>by have:=jy.1 e;have:=h.a0;grind
 have cr:kB r 0≠0:=fun e=>by have:=jy.1 e;have:=h.r0;grind
 exact dj.SN 4 _ _ _ _ _ (by omega) (QF.Sign g (by omega)) (ow.2 h.g0) (QF.Sign (b*b) (by omega)) (ow.2 b2.2) (QF.Sign a (by omega)) ca (QF.Sign r (by omega)) cr
theorem LD{p:QT×QT}(h:JC p):Cp 37 [(pR p).pv] (vB true):=uV.e0 (pR p) (vJ h.1) (vJ h.2)
theorem LF{p:QT×QT}(h:JC p):Cp 68 [(pR p).pv] (.bg [(⟨bw (gj p.2),bw (-gj p.1),bw (Cg p)⟩:GQ).pv,.ar]):=by have c1:=qv h.1;have c2:=qv h.2;have s1:=xQ h.1;have s2:=xQ h.2;have h1:=dY (gj p.1) (gj p.2);have h2:=dY (sinQ p.1) (sinQ p.2);exact qI.e0 (pR p) _ _ _ _ _ _ _ _ (NO h.1) (NO h.2) (QF.Neg _ (by omega)) (QF.Mul _ _ (by omega) (by omega)) (QF.Mul _ _ (by omega) (by omega)) (QF.Add _ _ (by omega) (by omega))
def FI(p:QT×QT)(g a b r:Rat):Rat:=gj p.2*(g/a) + -gj p.1*(g/r)+(g*g+(a*a+r*r)-b*b)/(2*(a*r))-Cg p
theorem LG{p:QT×QT}{g a b r:Rat}(ha:a≠0)(hr:r≠0):FI p g a b r*(2*(a*r))=errX (ll p) g a b r:=by
 have h2:(2:Rat)*(a*r)≠0:=fun e=>by
  rcases adF.1 e with h|h
  ·exact absurd h (by decide)
  ·rcases adF.1 h with h|h
   ·exact ha h
   ·exact hr h
 have e1:g/a*a=g:=aeW ha;have e2:g/r*r=g:=aeW hr;have e3:(g*g+(a*a+r*r)-b*b)/(2*(a*r))*(2*(a*r))=g*g+(a*a+r*r)-b*b:=aeW h2;unfold FI errX ll;generalize g/a=K1 at *;generalize g/r=K2 at *;generalize (g*g+(a*a+r*r)-b*b)/(2*(a*r))=K3 at *;generalize gj p.2=cq;generalize gj p.1=cp;generalize Cg p=d;simp only;grind
theorem Jj{p:QT×QT}{g a b r:Rat}(h:QO g a b r):FI p g a b r=0↔errX (ll p) g a b r=0:=by
 have ha:a≠0:=fun e=>by have:=h.a0;grind
 have hr:r≠0:=fun e=>by have:=h.r0;grind
 rw[←LG ha hr];constructor
 ·intro e;rw[e,Rat.zero_mul]
 ·intro e;rcases adF.1 e with h|h
  ·exact h
  ·exfalso;rcases adF.1 h with h|h
   ·exact absurd h (by decide)
   ·rcases adF.1 h with h|h
    ·exact ha h
    ·exact hr h
theorem NR{p:QT×QT}(hp:JC p){g a b r:Rat}(h:QO g a b r):ht (FI p g a b r)≤300∧Cp 38 [(gR g a b r).pv,(pR p).pv] (.bg [(bw (FI p g a b r)).pv,.ar]):=by
 have g1:=h.g1;have a1:=h.a1;have r1:=h.r1;have b2:=h.b2.1;have c1:=qv hp.1;have c2:=qv hp.2;have d1:=Lz hp;have k1:=xO g a;have k2:=xO g r;have m1:=dY g g;have m2:=dY a a;have m3:=dY r r;have m4:=iN (a*a) (r*r);have m5:=iN (g*g) (a*a+r*r);have m6:=Eb (g*g+(a*a+r*r)) (b*b);have m7:=dY a r;have m8:=dY 2 (a*r);rw[OP] at m8;have m9:=xO (g*g+(a*a+r*r)-b*b) (2*(a*r));have n1:=dY (gj p.2) (g/a);have n2:=dY (-gj p.1) (g/r);have n3:=qu (gj p.1);have n4:=iN (gj p.2*(g/a)) (-gj p.1*(g/r));have n5:=iN (gj p.2*(g/a) + -gj p.1*(g/r)) ((g*g+(a*a+r*r)-b*b)/(2*(a*r)));have n6:=Eb (gj p.2*(g/a) + -gj p.1*(g/r)+(g*g+(a*a+r*r)-b*b)/(2*(a*r))) (Cg p);have ha:a≠0:=fun e=>by have:=h.a0;grind
 have hr:r≠0:=fun e=>by have:=h.r0;grind
 have h2:(2:Rat)*(a*r)≠0:=fun e=>by
  rcases adF.1 e with h|h
  ·exact absurd h (by decide)
  ·rcases adF.1 h with h|h
   ·exact ha h
   ·exact hr h
 have t2:=OP;have sq:∀x:Rat,ht x≤1→Cp 109 [(bw x).pv] (bw (x*x)).pv:=fun x hx=>tB.e0 _ _ (QF.Mul x x (by omega) (by omega))
 have sqs:Cp 71 [(gR g a b r).pv] (bw (g*g+(a*a+r*r))).pv :=
  si.e0 (gR g a b r) _ _ _ _ _ (sq g g1) (sq a a1) (sq r r1) (QF.Add _ _ (by omega) (by omega)) (QF.Add _ _ (by omega) (by omega))
 have tw:Cp 72 [(gR g a b r).pv] (bw (2*(a*r))).pv:=uX.e0 (gR g a b r) _ _ _ YV (QF.Mul _ _ (by omega) (by omega)) (QF.Mul _ _ (by omega) (by omega));refine⟨by unfold FI;omega,?_⟩;exact uW.e1 (gR g a b r) (pR p) _ ⟨bw (gj p.2),bw (-gj p.1),bw (Cg p)⟩ _ _ _ _ _ _ _ _ _ _ _ (tU h) (LD hp) rfl (LF hp) (QF.Div g a (by omega) (by omega) ha) (QF.Div g r (by omega) (by omega) hr) sqs (QF.Sub _ _ (by omega) (by omega)) tw (QF.Div _ _ (by omega) (by omega) h2)
  (QF.Mul _ _ (by omega) (by omega)) (QF.Mul _ _ (by omega) (by omega)) (QF.Add _ _ (by omega) (by omega)) (QF.Add _ _ (by omega) (by omega)) (QF.Sub _ _ (by omega) (by omega))
theorem Fits{ps:List (QT×QT)}(hp:∀q∈ps,JC q)(hn:ps.length≤16){g a b r:Rat}(h:QO g a b r) :
  ∃ok:Bool,Cp 13 [(gR g a b r).pv,an bQ.cells (ps.map pR)] (.bg [vB ok,.ar])∧(ok=true↔∀q∈ps,errX (ll q) g a b r=0):=by
 have get:∀t,(ht:t<ps.length)→(ps.map pR)[t]? = some (pR ps[t]):=fun t ht=>by rw[abR,abJ ht];rfl
 have Tr:∀(n t:Nat),ps.length-t=n→t≤ps.length→∃ok:Bool,fE.bS (ps.map pR) t (gR g a b r) (.bg [vB ok,.ar])∧(ok=true↔∀q∈ps.drop t,errX (ll q) g a b r=0):=by
  intro n
  induction n with
  |zero =>intro t h1 h2;refine⟨true,fE.SM _ t _ (by simp;omega),?_⟩;rw[adZ (by omega)];simp
  |succ n ih =>
   intro t h1 h2;have cT:t<ps.length:=by omega
   obtain⟨e1,e2⟩:=NR (hp _ (acj cT)) h;have hz:=Jj (p:=ps[t]) h;have hS:=QF.Sign (FI ps[t] g a b r) (by omega);rw[acx cT];by_cases he:FI ps[t] g a b r=0
   ·obtain⟨ok,k1,k2⟩:=ih (t+1) (by omega) (by omega);refine⟨ok,fE.zf _ t _ _ _ _ (by simpa using cT) (get t cT) e2 hS (jy.2 he) (by omega) k1,?_⟩;rw[k2];constructor
    ·intro hq q hm;rcases ac0.1 hm with rfl|hm
     ·exact hz.1 he
     ·exact hq q hm
    ·exact fun hq q hm=>hq q (acA _ hm)
   ·refine⟨false,fE.yn _ t _ _ _ _ (by simpa using cT) (get t cT) e2 hS (fun e=>he (jy.1 e)),?_⟩;constructor
    ·intro e;cases e
    ·intro hq;exact absurd (hz.2 (hq _ (acO ..))) he
 have Ts:∀(n t:Nat) (res:PV),ps.length-t=n→t≤ps.length→fE.bS (ps.map pR) 0 (gR g a b r) res→fE.ay (ps.map pR) t (gR g a b r) res:=by
  intro n
  induction n with
  |zero=>intro t res h1 h2 hL;exact fE.im _ t _ (by simp;omega) hL
  |succ n ih =>
   intro t res h1 h2 hL;have cT:t<ps.length:=by omega
   exact fE.dp _ t _ _ _ (by simpa using cT) (get t cT) (LD (hp _ (acj cT))) rfl (by omega) (ih (t+1) res (by omega) (by omega) hL)
 obtain⟨ok,k1,k2⟩:=Tr _ 0 rfl (by omega);exact⟨ok,fE.e1 _ _ (tU h) (by rw[abS];exact hn) (Ts _ 0 _ rfl (by omega) k1),by rw[k2,adg]⟩
end Ct
end Go.Proofs.YtneklnlpgfeplaaGreat.Sym
namespace Go.Proofs.YtneklnlpgfeplaaGreat.Sym
open Go Path eJ
set_option linter.unusedVariables false
set_option maxRecDepth 20000
abbrev BG(l:Words):Prop:=l.length≤35184372088000
namespace UO
open Mx
theorem Valid(a:aR)(h:BG a.db):Cp 144 [a.pv] (vB a.valid):=by
 unfold aR.valid;rw[cP];by_cases h0:a.db.length=0
 ·simp only[h0,decide_true,cond_true];exact fP.e0 a h0
 ·simp only[h0,decide_false,cond_false];obtain⟨v,hv⟩:∃v,a.db[a.db.length-1]? = some v:=⟨_,abJ (by omega)⟩;have:=fP.e1 a (a.db.length-1) v h0 (by unfold bf;omega) (by omega) hv;have e:cn a.db=((v.toNat:Int) != 0):=by
   have h1:=me hv;by_cases h2:v.toNat=0
   ·have h3:((v.toNat:Int) != 0)=false:=by simp[h2]
    rw[h3];cases hc:cn a.db with
    |true=>exact absurd h2 (h1.1 hc)
    |false=>rfl
   ·have h3:((v.toNat:Int) != 0)=true:=by simp;omega
    rw[h3];exact h1.2 h2
  rw[e];exact this
theorem db(a:aR)(h:BG a.db):Cp 100 [a.pv] (af (words a.val.natAbs)):=by
 rw[zF];cases hv:a.valid with
 |false=>exact gB.e0 a a.valid (Valid a h) hv
 |true=>exact gB.e1 a a.valid (Valid a h) hv
theorem neg(a:aR)(h:BG a.db):Cp 102 [a.pv] (vB (decide (a.val<0))):=by
 rw[w8];cases hv:a.valid with
 |false=>exact gC.e1 a a.valid (Valid a h) hv
 |true=>rw[acZ];exact gC.e0 a a.valid (Valid a h) hv
theorem plus(a b:Words)(ha:a.length≤35184372088500)(hb:b.length≤35184372088500):Cp 143 [af a,af b] (af (words (nat a+nat b))):=by
 have loop:∀(j t carry:Nat) (site:Words),max a.length b.length+1-t=j→t≤max a.length b.length+1→site.length=t→carry≤1 →
   nat site+4294967296^t*carry=nat (a.take t)+nat (b.take t)→di.ay a b site carry t (af (words (nat a+nat b))):=by
  intro j
  induction j with
  |zero =>
   intro t carry site hj ht hs hc hinv;have zv:t=max a.length b.length+1:=by omega
   have Bl:nat site=nat a+nat b:=by
    rw[bA (by omega),bA (by omega)] at hinv;have h1:=ez a;have h2:=ez b;have h3:=jr (show a.length≤t-1 by omega);have h4:=jr (show b.length≤t-1 by omega);have h5:(4294967296:Nat)^t=4294967296^(t-1)*4294967296:=by rw[←acb];congr 1;omega
    have Qv:carry=0:=by
     cases carry with
     |zero=>rfl
     |succ c =>have h6:4294967296^t*1≤4294967296^t*(c+1):=ac2 _ (by omega);omega
    subst Qv;simpa using hinv
   have:=di.dp a b site carry t (words (nat site)) (by omega) (trim site (by omega));rwa[Bl] at this
  |succ j ih =>
   intro t carry site hj ht hs hc hinv;have h1:=jQ a t;have h2:=jQ b t;obtain⟨w,hw⟩:=kd ((wd a t+wd b t+carry)%4294967296) (by omega);have Jg:(2:Nat)^min 32 64=4294967296:=by decide
   refine di.eu a b site carry t _ _ (wd a t+wd b t) (wd a t+wd b t+carry) w ((wd a t+wd b t+carry)/4294967296) (by omega) (iO a t) (iO b t) (by omega) (by omega) hw.symm (by simp;omega) (by rw[Jg]) (by omega) ?_;refine ih (t+1) _ (site++[w]) (by omega) (by omega) (by simpa using hs) (by omega) ?_;rw[xb,hs,dR a t,dR b t,hw,acb,ace];have h6:4294967296^t*((wd a t+wd b t+carry)%4294967296)+4294967296^t*(4294967296*((wd a t+wd b t+carry)/4294967296))=4294967296^t*carry+4294967296^t*wd a t+4294967296^t*wd b t:=by
    rw[←ac6,←ac6,←ac6]
    congr 1
    omega
   omega
 exact di.e0 a b (by omega) (loop _ 0 0 _ rfl (by omega) rfl (by omega) (by simp[nat]))
theorem minus(a b:Words)(ha:a.length≤35184372088500)(Qw:nat b≤nat a):Cp 195 [af a,af b] (af (words (nat a-nat b))):=by
 have loop:∀(j t borrow:Nat) (site:Words),a.length-t=j→t≤a.length→site.length=t→borrow≤1 →
   nat site+nat (b.take t)=nat (a.take t)+4294967296^t*borrow→cY.ay a b site borrow t (af (words (nat a-nat b))):=by
  intro j
  induction j with
  |zero =>
   intro t borrow site hj ht hs hc hinv;have zv:t=a.length:=by omega
   have Bl:nat site=nat a-nat b:=by
    subst zv;rw[bA (l:=a) (by omega)] at hinv;have h1:=ez a;have h2:=ez site;rw[hs] at h2;have h3:nat (b.take a.length)=nat b:=by
     by_cases hl:b.length≤a.length
     ·exact bA hl
     ·have h4:=jg b a.length (by omega);have h5:nat (b.drop a.length)=0:=by
       refine acG fun hp => ?_
       have:=ac2 (4294967296^a.length) hp;omega
      rw[h5] at h4;omega
    have Hn:borrow=0:=by
     refine acG fun hp => ?_
     have:=ac2 (4294967296^a.length) hp;omega
    subst Hn;omega
   have:=cY.dp a b site borrow t (words (nat site)) (by omega) (trim site (by omega));rwa[Bl] at this
  |succ j ih =>
   intro t borrow site hj ht hs hc hinv;obtain⟨s,d,d1,x,z,nb,g1,g2,g3,g4,g5,g6,g7,g8,g9⟩:=rV (jQ a t) (jQ b t) hc;obtain⟨w,hw⟩:=kd x g8;refine cY.eu a b site borrow t _ s _ d d1 w z nb (by omega) (iO a t) g1 (iO b t) g2 g3 (by omega) (by simp;omega) g5 g6 (by omega) ?_;refine ih (t+1) nb (site++[w]) (by omega) (by omega) (by simpa using hs) g7 ?_;rw[xb,hs,dR a t,dR b t,hw,acb,ace];have h6:4294967296^t*x+4294967296^t*wd b t+4294967296^t*borrow=4294967296^t*wd a t+4294967296^t*(4294967296*nb):=by rw[←ac6,←ac6,←ac6,g9]
   omega
 exact cY.e0 a b (loop _ 0 0 _ rfl (by omega) rfl (by omega) (by simp[nat]))
theorem Ln(a b:Words)(len lZ:Nat)(hlen:len=a.length)(Lo:lZ=b.length)(ha:a.length≤35184372088501)(Qw:nat b≤nat a) :
  ∃U:Words,U.length=a.length∧nat U=nat a-nat b∧ag aV 141 [.row 100000 0 len 1,.row 100001 0 lZ 1] [(100000,ws a),(100001,ws b)] (.pv (.bg [])) [(100000,ws U),(100001,ws b)]:=by
 subst hlen;have loop:∀(j t borrow:Nat) (U:Words),a.length-t=j→t≤a.length→U.length=a.length→borrow≤1→(∀q,t≤q→wd U q=wd a q) →
   nat (U.take t)+nat (b.take t)=nat (a.take t)+4294967296^t*borrow →
   ∃V:Words,V.length=a.length∧nat V=nat a-nat b∧cX.ay a.length lZ borrow t U b [(100000,ws a),(100001,ws b)] (.pv (.bg [])) [(100000,ws V),(100001,ws b)]:=by
  intro j
  induction j with
  |zero =>
   intro t borrow U hj ht hl hb gP hinv;have zv:t=a.length:=by omega
   subst zv;exact⟨U,hl,FD hl Qw hinv,cX.dp _ _ borrow _ U b (sin:=[(100000,ws a),(100001,ws b)]) rfl rfl (abW _)⟩
  |succ j ih =>intro t borrow U hj ht hl hb gP hinv;obtain⟨s,d,d1,x,z,nb,g1,g2,g3,g4,g5,g6,g7,g8,g9⟩:=rV (jQ a t) (jQ b t) hb;obtain⟨w,hw⟩:=kd x g8;obtain⟨V,h1,h2,h3⟩:=ih (t+1) nb (U.set t w) (by omega) (by omega) (by simpa using hl) g7 (fun q hq=>by rw[uk (by omega)];exact gP q (by omega)) (C3 (by omega) hl hinv (by rw[hw];exact g9));refine⟨V,h1,h2,cX.eu _ _ borrow t U b U _ s b _ d d1 w z nb rfl (by omega) (atR U t a.length hl.symm) (by rw[gP t (abW t)];exact g1) (atR b t lZ Lo) g2 g3 (by omega) g5 g6 (by omega) (by omega) h3⟩
 obtain⟨V,h1,h2,h3⟩:=loop _ 0 0 a rfl (by omega) rfl (by omega) (fun _ _=>rfl) (by simp[nat]);exact⟨V,h1,h2,cX.e0 a a.length b lZ h3⟩
theorem Lp(a:Words)(len:Nat)(hlen:len=a.length)(ha:a.length≤35184372088501) :
  ag aV 139 [.row 100000 0 len 1] [(100000,ws a)] (.row 100000 0 (words (nat a/2)).length 1) [(100000,ws (words (nat a/2)))]:=by
 subst hlen;have e1:(2:Nat)^min 1 64=2:=by decide
 have loop:∀(j t:Nat) (U:Words),a.length-t=j→t≤a.length→U.length=a.length→(∀q,t≤q→wd U q=wd a q)→nat (U.take t)=(nat a/2)%4294967296^t →
   cW.ay a.length t U [(100000,ws a)] (.row 100000 0 (words (nat a/2)).length 1) [(100000,ws (words (nat a/2)))]:=by
  intro j
  induction j with
  |zero =>
   intro t U hj ht hl gP hinv;have zv:t=a.length:=by omega
   subst zv;rw[bA (by omega),acg (adx (acJ _ _) (ez a))] at hinv;have hc:=cut U (by omega);rw[hinv,hl] at hc;have:=cW.dp a.length a.length U (words (nat a/2)) (words (nat a/2)).length (sin:=[(100000,ws a)]) rfl rfl (abW _) hc;rw[acd (abW _)] at this;exact this
  |succ j ih =>intro t U hj ht hl gP hinv;have h1:=jQ a t;have h2:=jQ a (t+1);obtain⟨w,hw⟩:=kd ((wd a (t+1)*4294967296+wd a t)/2%4294967296) (adB _ (by omega));have hA:=atR U t a.length hl.symm;have hB:=atR U (t+1) a.length hl.symm;rw[gP t (abW t)] at hA;rw[gP (t+1) (by omega)] at hB;refine cW.eu a.length t U U _ _ U _ _ ((wd a (t+1)*4294967296+wd a t)/2) w rfl (by omega) hA (by rw[e1]) (by omega) hB rfl (C4 h1 h2) hw.symm (by omega) ?_;exact ih (t+1) (U.set t w) (by omega) (by omega) (by simpa using hl) (fun q hq=>by rw[uk (by omega)];exact gP q (by omega)) (C5 (by omega) hl hinv hw)
 exact cW.e0 a a.length (loop _ 0 a rfl (by omega) rfl (fun _ _=>rfl) (by simp[nat,Nat.mod_one]))
theorem rW(p:Nat)(hp:(words p).length≤35184372088501):ag aV 139 [.row 100000 0 (words p).length 1] [(100000,ws (words p))] (.row 100000 0 (words (p/2)).length 1) [(100000,ws (words (p/2)))]:=by have:=Lp (words p) _ rfl hp;rwa[aO] at this
theorem FF(p q:Nat)(hp:(words p).length≤35184372088501)(Mu:q≤p):∃U:Words,U.length=(words p).length ∧
  ag aV 141 [.row 100000 0 (words p).length 1,.row 100001 0 (words q).length 1] [(100000,ws (words p)),(100001,ws (words q))] (.pv (.bg [])) [(100000,ws U),(100001,ws (words q))] ∧
  ag aV 142 [.row 100000 0 (words p).length 1] [(100000,ws U)] (.row 100000 0 (words (p-q)).length 1) [(100000,ws (words (p-q)))]:=by
 obtain⟨U,h1,h2,h3⟩:=Ln (words p) (words q) _ _ rfl rfl hp (by rw[aO,aO];exact Mu);have hc:=cut U (by omega);rw[aO,aO] at h2;rw[h2,h1] at hc;exact⟨U,h1,h3,hc⟩
theorem gcd(a b:Words)(ha:a.length≤35184372088000)(hb:b.length≤35184372088000):Cp 99 [af a,af b] (af (words (Nat.gcd (nat a) (nat b)))):=by
 have t1:=Ih a (by omega);have t2:=Ih b (by omega);have la:=rS a;have lb:=rS b;generalize nat a=A at *;generalize nat b=B at *;by_cases hA:A=0
 ·subst hA;rw[aev];exact aQ.e0 a b _ _ _ _ t1 t2 (by rw[fw];rfl) rfl
 by_cases hB:B=0
 ·subst hB;rw[ady];exact aQ.e1 a b _ _ _ _ t1 t2 (by rw[Ne,dm];exact hA) (by rw[fw];rfl) rfl
 refine aQ.e2 a b _ _ _ _ t1 t2 (by rw[Ne,dm];exact hA) (by rw[Ne,dm];exact hB) ?_;have fin:∀(j m t64 t65:Nat),t64-t65=j→t64<9223372036854775808→(words (m*2^j)).length≤35184372088000→aQ.nv (words m) t64 t65 (af (words (m*2^j))):=by
  intro j
  induction j with
  |zero =>intro m t64 t65 hj _ _;rw[ae5,adk];exact aQ.P5 _ _ _ (by omega)
  |succ j ih =>
   intro m t64 t65 hj ht hl;have e:m*2^(j+1)=(m+m)*2^j:=by rw[acb,acv,←ace];omega
   have hm:(words m).length≤35184372088000:=by refine abZ (dg ?_) hl;have:=ac2 m (acU (j+1));omega
   have hp:=plus (words m) (words m) (by omega) (by omega);rw[aO] at hp;rw[e] at hl ⊢;exact aQ.P4 _ _ _ _ (by omega) hp (by omega) (ih (m+m) t64 (t65+1) (by omega) ht hl)
 have rounds:∀(s p q tw:Nat),p+q≤s→0<q→(words p).length≤35184372088000→(words q).length≤35184372088000→tw<9223372036854775808→(words (Nat.gcd p q*2^tw)).length≤35184372088000 →
   ((p%2=1∨q%2=1)→aQ.bS (words p).length (words q).length tw (words p) (words q) (af (words (Nat.gcd p q*2^tw)))) ∧
   (0<p→(p%2=1∨q%2=1)→aQ.kf (words p).length (words q).length tw (words p) (words q) (af (words (Nat.gcd p q*2^tw)))) ∧
   (p%2=1→aQ.wN (words p).length (words q).length tw (words p) (words q) (af (words (Nat.gcd p q*2^tw)))):=by
  intro s
  induction s with
  |zero=>intro p q tw h1 h2;omega
  |succ s ih =>
   intro p q tw hs hq lp lq Ht hl;have L5:p%2=1→aQ.wN (words p).length (words q).length tw (words p) (words q) (af (words (Nat.gcd p q*2^tw))):=by
    intro hp;obtain⟨v,z,g1,g2,g3,g4⟩:=nG hq;by_cases he:q%2=0
    ·have hg:=xc (p:=q) (q:=p) he hp;have:=(ih p (q/2) tw (by omega) (by omega) lp (abZ (dg (acJ q 2)) lq) Ht (by rw[adn,hg,adn];exact hl)).2.2 hp;rw[adn,hg,adn] at this;exact aQ.YD _ _ tw _ _ v z _ _ g1 g2 g3 (by omega) (rW q (by omega)) this
    ·have hc:=C2 (words p) (words q) _ _ rfl rfl (by omega) (by omega);rw[aO,aO] at hc;by_cases cT:p<q
     ·obtain⟨U,u1,u2,u3⟩:=FF q p (by omega) (by omega);have hg:Nat.gcd (q-p) p=Nat.gcd p q:=by rw[ae6 (by omega),adn]
      have:=(ih (q-p) p tw (by omega) (by omega) (abZ (dg (Nat.sub_le q p)) lq) lp Ht (by rw[hg];exact hl)).1 (by omega);rw[hg] at this;exact aQ.YE _ _ tw _ _ v z _ _ _ U _ _ _ g1 g2 g3 (by omega) hc (by unfold eM;split<;>(try split)<;>omega) u2 u3 this
     ·obtain⟨U,u1,u2,u3⟩:=FF p q (by omega) (by omega);have hg:Nat.gcd (p-q) q=Nat.gcd p q:=ae6 (by omega);have:=(ih (p-q) q tw (by omega) hq (abZ (dg (Nat.sub_le p q)) lp) lq Ht (by rw[hg];exact hl)).1 (by omega);rw[hg] at this;exact aQ.YF _ _ tw _ _ v z _ _ _ U _ _ _ g1 g2 g3 (by omega) hc (by unfold eM;split<;>(try split)<;>omega) u2 u3 this
   have L3:0<p→(p%2=1∨q%2=1)→aQ.kf (words p).length (words q).length tw (words p) (words q) (af (words (Nat.gcd p q*2^tw))):=by
    intro hp Lq;obtain⟨v,z,g1,g2,g3,g4⟩:=nG hp;by_cases he:p%2=0
    ·have hg:=xc (p:=p) (q:=q) he (by omega);have:=(ih (p/2) q tw (by omega) hq (abZ (dg (acJ p 2)) lp) lq Ht (by rw[hg];exact hl)).2.1 (by omega) (by omega);rw[hg] at this;exact aQ.RA _ _ tw _ _ v z _ _ g1 g2 g3 (by omega) (rW p (by omega)) this
    ·exact aQ.P2 _ _ tw _ _ v z g1 g2 g3 (by omega) (L5 (by omega))
   refine⟨fun Lq => ?_,L3,L5⟩;by_cases hp:p=0
   ·subst hp;rw[aev] at hl ⊢;exact aQ.zf _ _ tw _ _ (by rw[fw];simp) rfl (fin tw q tw 0 rfl Ht hl)
   ·exact aQ.yn _ _ tw _ _ (aeq (by rw[Ne,dm];exact hp)) (L3 (by omega) Lq)
 have first:∀(s p q tw:Nat),p+q≤s→0<p→0<q→(words p).length≤35184372088000→(words q).length≤35184372088000→(words (Nat.gcd p q*2^tw)).length≤35184372088000 →
   aQ.ay (words p).length (words q).length tw (words p) (words q) (af (words (Nat.gcd p q*2^tw))):=by
  intro s
  induction s with
  |zero=>intro p q tw h1 h2;omega
  |succ s ih =>
   intro p q tw hs hp hq lp lq hl;have Ht:tw+1<9223372036854775808:=by have h1:2^tw≤Nat.gcd p q*2^tw:=Nat.le_mul_of_pos_left _ (adU _ hp);have h2:=hX (Nat.gcd p q*2^tw);rw[OO] at h2;have h3:=(aeh (a:=2) (by omega)).1 (adx h1 h2);omega
   obtain⟨v,z,g1,g2,g3,g4⟩:=nG hp;by_cases he:p%2=0
   ·obtain⟨v',z',Kf,Ad,Kg,MN⟩:=nG hq;by_cases gi:q%2=0
    ·have hg:Nat.gcd (p/2) (q/2)*2^(tw+1)=Nat.gcd p q*2^tw:=by
      have h:=Nat.gcd_mul_left 2 (p/2) (q/2);rw[show 2*(p/2)=p from by omega,show 2*(q/2)=q from by omega] at h;rw[h,acb,acu 2,ace,acu 2]
     have:=ih (p/2) (q/2) (tw+1) (by omega) (by omega) (by omega) (abZ (dg (acJ p 2)) lp) (abZ (dg (acJ q 2)) lq) (by rw[hg];exact hl);rw[hg] at this;exact aQ.eu _ _ tw _ _ v z v' z' _ _ _ _ g1 g2 g3 (by omega) Kf Ad Kg (by omega) (rW p (by omega)) (rW q (by omega)) Ht this
    ·exact aQ.dp _ _ tw _ _ v z v' z' g1 g2 g3 (by omega) Kf Ad Kg (by omega) ((rounds (p+q) p q tw (abW _) hq lp lq (by omega) hl).1 (by omega))
   ·exact aQ.im _ _ tw _ _ v z g1 g2 g3 (by omega) ((rounds (p+q) p q tw (abW _) hq lp lq (by omega) hl).1 (by omega))
 have:=first (A+B) A B 0 (abW _) (by omega) (by omega) (by omega) (by omega) (by rw[ae5,adk];exact zG (by omega) (by omega))
 rwa[ae5,adk] at this
theorem Sign(a:aR)(h:BG a.db):Cp 54 [a.pv] (vI (qR a.val)):=by
 have hm:=db a h;by_cases h0:a.val=0
 ·rw[h0,Br];exact ew.e0 a _ hm (by rw[h0];rfl)
 ·have hg:=neg a h;have hl:(words a.val.natAbs).length≠0:=by rw[Ne,dm];omega
  by_cases hn:a.val<0
  ·rw[D6 hn];exact ew.e1 a _ _ hm hl hg (acf hn)
  ·rw[D7 (by omega)];exact ew.e2 a _ _ hm hl hg (aci hn)
theorem Neg(a:aR)(h:BG a.db):Cp 137 [a.pv] (Sym.whole (-a.val)).pv:=by
 have h3:=db a h;have h5:=neg a h;have la:=bI a;have hw:=form (!decide (a.val<0)) (words a.val.natAbs) (by have:(words a.val.natAbs).length≤a.db.length:=la;omega);have e:(bif !decide (a.val<0) then -(nat (words a.val.natAbs):Int) else (nat (words a.val.natAbs):Int)) = -a.val:=by
  rw[aO];by_cases h:a.val<0
  ·simp[h];omega
  ·simp[h];omega
 rw[e] at hw;exact lY.e0 a _ _ _ h5 h3 hw
theorem Add(a b:aR)(ha:BG a.db)(hb:BG b.db):Cp 136 [a.pv,b.pv] (Sym.whole (a.val+b.val)).pv:=by
 have h1:=db a ha;have h2:=db b hb;have h3:=neg a ha;have h4:=neg b hb;have la:(words a.val.natAbs).length≤a.db.length:=bI a;have lb:(words b.val.natAbs).length≤b.db.length:=bI b;by_cases hs:decide (a.val<0)=decide (b.val<0)
 ·have hp:=plus (words a.val.natAbs) (words b.val.natAbs) (by omega) (by omega);rw[aO,aO] at hp;have hl:=kZ (n:=a.val.natAbs+b.val.natAbs) (k:=max (words a.val.natAbs).length (words b.val.natAbs).length+1) (by
   have g1:=hX a.val.natAbs;have g2:=hX b.val.natAbs;have g3:=jr (adw (words a.val.natAbs).length (words b.val.natAbs).length);have g4:=jr (adm (words a.val.natAbs).length (words b.val.natAbs).length);rw[acb];omega)
  have hw:=form (decide (a.val<0)) (words (a.val.natAbs+b.val.natAbs)) (by omega);rw[aO] at hw;have e:(bif decide (a.val<0) then -((a.val.natAbs+b.val.natAbs:Nat):Int) else ((a.val.natAbs+b.val.natAbs:Nat):Int))=a.val+b.val:=by
   by_cases h:a.val<0
   ·have:b.val<0:=by simpa[h] using hs.symm
    simp[h];omega
   ·have:¬b.val<0:=by simpa[h] using hs.symm
    simp[h];omega
  rw[e] at hw;exact eQ.e0 a b _ _ _ _ _ _ _ h1 h2 h3 h4 hs h3 hp hw
 ·have hc:=compare (words a.val.natAbs) (words b.val.natAbs) (by omega) (by omega);rw[aO,aO] at hc;by_cases Aa:b.val.natAbs≤a.val.natAbs
  ·have hl:=minus (words a.val.natAbs) (words b.val.natAbs) (by omega) (by rw[aO,aO];exact Aa);rw[aO,aO] at hl;have hlen:=dg (show a.val.natAbs-b.val.natAbs≤a.val.natAbs by omega);have hw:=form (decide (a.val<0)) (words (a.val.natAbs-b.val.natAbs)) (by omega);rw[aO] at hw;have e:(bif decide (a.val<0) then -((a.val.natAbs-b.val.natAbs:Nat):Int) else ((a.val.natAbs-b.val.natAbs:Nat):Int))=a.val+b.val:=by
    by_cases h:a.val<0
    ·have:¬b.val<0:=by simpa[h] using hs
     simp[h];omega
    ·have:b.val<0:=by simpa[h] using hs
     simp[h];omega
   rw[e] at hw;exact eQ.e1 a b _ _ _ _ _ _ _ _ h1 h2 h3 h4 hs hc (by unfold eM;split<;>(try split)<;>omega) h3 hl hw
  ·have hl:=minus (words b.val.natAbs) (words a.val.natAbs) (by omega) (by rw[aO,aO];omega);rw[aO,aO] at hl;have hlen:=dg (show b.val.natAbs-a.val.natAbs≤b.val.natAbs by omega);have hw:=form (decide (b.val<0)) (words (b.val.natAbs-a.val.natAbs)) (by omega);rw[aO] at hw;have e:(bif decide (b.val<0) then -((b.val.natAbs-a.val.natAbs:Nat):Int) else ((b.val.natAbs-a.val.natAbs:Nat):Int))=a.val+b.val:=by
    by_cases h:b.val<0
    ·have:¬a.val<0:=by intro h';simp[h,h'] at hs
     simp[h];omega
    ·have:a.val<0:=by
      refine aco fun h' => ?_
      simp[h,h'] at hs
     simp[h];omega
   rw[e] at hw;exact eQ.e2 a b _ _ _ _ _ _ _ _ h1 h2 h3 h4 hs hc (by unfold eM;split<;>(try split)<;>omega) h4 hl hw
theorem Sub(a b:aR)(ha:BG a.db)(hb:BG b.db):Cp 97 [a.pv,b.pv] (Sym.whole (a.val-b.val)).pv:=by
 have h1:=Neg b hb;have h2:=Add a (Sym.whole (-b.val)) ha (by have:=bI b;show(words (-b.val).natAbs).length≤_;rw[adW];have:(words b.val.natAbs).length≤b.db.length:=this;omega)
 rw[bB,←aer] at h2;exact lX.e0 a b _ _ h1 h2
theorem Et(a b:aR)(ha:a.db.length<35184372088000)(hb:b.db.length<35184372088000):Cp 50 [a.pv,b.pv] (vI (eM a.val b.val)):=by
 have h1:=Sub a b (by omega) (by omega);have h2:=Sign (Sym.whole (a.val-b.val)) (by have g1:=D5 a.val (-b.val);have g2:=bI a;have g3:=bI b;rw[pj,←aer] at g1;show wl (a.val-b.val)≤_;omega)
 rw[bB] at h2;have e:qR (a.val-b.val)=eM a.val b.val:=by unfold qR eM;split<;>split<;>(try split)<;>(try split)<;>omega
 rw[←e];exact lV.e0 a b _ _ h1 h2
theorem Gcd(a b:aR)(ha:BG a.db)(hb:BG b.db):Cp 51 [a.pv,b.pv] (Sym.whole (Nat.gcd a.val.natAbs b.val.natAbs)).pv:=by
 have la:(words a.val.natAbs).length≤a.db.length:=bI a;have lb:(words b.val.natAbs).length≤b.db.length:=bI b;have hg:=gcd (words a.val.natAbs) (words b.val.natAbs) (by omega) (by omega);rw[aO,aO] at hg;have hl:(words (Nat.gcd a.val.natAbs b.val.natAbs)).length≤35184372088000:=by
  by_cases h:b.val.natAbs=0
  ·rw[h,ady];omega
  ·exact zG (by omega) (by omega)
 have hw:=form false (words (Nat.gcd a.val.natAbs b.val.natAbs)) (by omega);rw[aO] at hw;exact lW.e0 a b _ _ _ _ (db a ha) (db b hb) hg hw
end UO
namespace UP
open Xa
theorem plain(m:Words)(h:m.length≤35184372087808):Cp 49 [af m] (vB (!m.isEmpty&&cn m)):=by
 rw[cP];by_cases h0:m.length=0
 ·rw[acf h0,adp,ad3];exact fQ.e1 m (by omega)
 ·rw[aci h0,ad2,acZ];obtain⟨v,hv⟩:∃v,m[m.length-1]? = some v:=⟨_,abJ (by omega)⟩;have:=fQ.e0 m (m.length-1) v (by omega) (by unfold bf;omega) (by omega) hv;have e:cn m=((v.toNat:Int) != 0):=by
   have h1:=me hv;by_cases h2:v.toNat=0
   ·have h3:((v.toNat:Int) != 0)=false:=by simp[h2]
    rw[h3];cases hc:cn m with
    |true=>exact absurd h2 (h1.1 hc)
    |false=>rfl
   ·have h3:((v.toNat:Int) != 0)=true:=by simp;omega
    rw[h3];exact h1.2 h2
  rw[e];exact this
theorem BD{m:Words}(h:m.length≤35184372087808)(h0:m.length≠0):Cp 49 [af m] (vB (cn m)):=by have:=plain m h;rwa[cP,aci h0,ad2,acZ] at this
theorem BE{m:Words}(h0:m.length=0):Cp 49 [af m] (vB false):=by have:=plain m (by omega);rwa[cP,acf h0,adp,ad3] at this
theorem Valid(a:aq)(h:a.num.length≤35184372087808∧a.den.length≤35184372087808):Cp 19 [a.pv] (vB a.valid):=by
 obtain⟨l1,l2⟩:=h;by_cases h1:a.num.length=0
 ·by_cases h2:a.den.length=0
  ·rw[Bv h1 h2];exact bR.e0 a h1 h2
  ·rw[Bw h1 h2];exact bR.e3 a _ h1 h2 (BE h1) rfl
 ·have p1:=BD l1 h1;by_cases h2:a.den.length=0
  ·rw[By h1 h2];cases hc1:cn a.num with
   |false=>exact bR.e6 a _ h1 p1 hc1
   |true=>exact bR.e5 a _ _ h1 p1 hc1 (BE h2) rfl
  ·have p2:=BD l2 h2;rw[Bz h1 h2];cases hc1:cn a.num with
   |false=>rw[ad3];exact bR.e6 a _ h1 p1 hc1
   |true =>
    rw[acZ];cases F3:cn a.den with
    |false=>rw[ad3];exact bR.e5 a _ _ h1 p1 hc1 p2 F3
    |true =>have hg:=UO.Gcd ⟨false,a.num⟩ ⟨false,a.den⟩ (show a.num.length≤_ by omega) (show a.den.length≤_ by omega);rw[qT h1 hc1,qT h2 F3,abY,abY] at hg;have gl:=BB (a:=(nat a.num:Int)) (b:=(nat a.den:Int)) (k:=35184372087808) (by show(words _).length≤_;rw[abY,eH hc1];exact l1) (by show(words _).length≤_;rw[abY,eH F3];exact l2);rw[abY,abY] at gl;have hc:=UO.Et (Sym.whole (Nat.gcd (nat a.num) (nat a.den):Nat)) (Sym.whole 1) (show wl _<_ by omega) (show wl 1<_ by decide);rw[bB,bB] at hc;rw[acZ,←Ed];exact bR.e4 a _ _ _ _ _ h1 p1 hc1 p2 F3 hg one hc
theorem qa(a:aq)(h:a.num.length≤35184372087808∧a.den.length≤35184372087808):Cp 53 [a.pv] (.bg [(Sym.whole a.val.num).pv,(Sym.whole (a.val.den:Int)).pv]):=by
 have hv:=Valid a h;cases hc:a.valid with
 |false=>rw[zH hc];exact ec.e0 a _ _ hv hc one
 |true =>
  by_cases h0:a.num.length=0
  ·rw[uo (abT h0)];exact ec.e1 a _ _ hv hc h0 one
  ·obtain⟨e1,e2⟩:=BA hc h0;rw[e1,e2];exact ec.e2 a _ hv hc h0
theorem Sign(a:aq)(h:a.num.length≤35184372087808∧a.den.length≤35184372087808):Cp 21 [a.pv] (vI (kB a.val 0)):=by have hp:=qa a h;have hh:=kS h.1 h.2 (by omega);have h1:=iM a.val;have hs:=UO.Sign (Sym.whole a.val.num) (show wl _≤_ by omega);rw[bB,xP] at hs;exact kP.e0 a _ _ _ hp hs
end UP
abbrev pq(q:List Rat):PV:=ae (q.map bw)
theorem Tt(q:List Rat):(q.map bw).length=q.length:=abS ..
theorem cQ{k m:Nat}{q:List Rat}(h:Fl k q)(hk:k≤m):Fl m q:=fun x hx=>abZ (h x hx) hk
def BH(v:aq):Bool := !v.neg&&v.num.isEmpty&&v.den.isEmpty
def QQ(a:List aq):Nat→List aq
 |0=>if (a.take 1).all BH then [] else a.take 1
 |k+1=>if ((a.take (2^(k+1))).drop (2^k)).all BH then QQ a k else a.take (2^(k+1))
theorem FJ{α:Type}{p:α→Bool}{l:List α}{t:Nat}{v:α}(h:l[t]? = some v):(l.drop t).all p=(p v&&(l.drop (t+1)).all p):=by rw[drop_cons h,aei]
namespace C9
theorem Da{k:Nat}(h:k≤10):1*2^k<9223372036854775808:=by have:2^k≤2^10:=ad8 (by omega) h;omega
theorem level{a:List aq}{k:Nat}(hk:k≤10)(h:a.length=2^k):Cp 179 [ae a] (vI (k:Int)):=by
 have loop:∀d t:Nat,t+d=k→jN.ay a t (vI (k:Int)):=by
  intro d
  induction d with
  |zero =>
   intro t ht;have:t=k:=by omega
   subst this;exact jN.im a t (by omega) (Da hk) (by omega) (by omega)
  |succ d ih =>intro t ht;have:2^t<2^k:=Nat.pow_lt_pow_right (by omega) (by omega);exact jN.eu a t (by omega) (Da (by omega)) (by omega) (by omega) (ih (t+1) (by omega))
 exact jN.e0 a (loop k 0 (by omega))
theorem Jk:Cp 179 [ae []] (vI (-1)) :=
 jN.e0 [] (jN.dp [] 0 (by omega) (by decide) (by decide) (by decide))
theorem empty(a:List aq)(hl:a.length≤1000):Cp 181 [ae a] (vB (a.all BH)):=by
 have loop:∀d t:Nat,a.length-t=d→iq.ay a t (vB ((a.drop t).all BH)):=by
  intro d
  induction d with
  |zero =>intro t hd;rw[acF (by omega)];exact iq.G5 a t (by omega)
  |succ d ih =>
   intro t hd;obtain⟨v,hv⟩:∃v,a[t]? = some v:=⟨_,abJ (by omega)⟩;rw[FJ hv];unfold BH;by_cases h1:v.neg=true
   ·rw[h1];exact iq.eu a t v (by omega) hv h1
   ·rw[ad4] at h1;rw[h1];by_cases h2:v.num=[]
    ·rw[h2];by_cases h3:v.den=[]
     ·rw[h3];exact iq.ym a t v (by omega) hv h1 (by rw[h2];simp) (by rw[h3];simp) (by omega) (ih (t+1) (by omega))
     ·rw[show v.den.isEmpty=false from by cases hh:v.den<;>simp_all];exact iq.im a t v (by omega) hv h1 (by rw[h2];simp) (aee.2 h3)
    ·rw[show v.num.isEmpty=false from by cases hh:v.num<;>simp_all];exact iq.dp a t v (by omega) hv h1 (aee.2 h2)
 have:=loop _ 0 rfl;rw[adg] at this;exact iq.e0 a this
theorem copied(a:List aq)(hl:a.length≤1000)(hf:NL 1073741824 a):Cp 180 [ae a] (ae a):=by
 have loop:∀d t:Nat,a.length-t=d→t≤a.length→l7.ay (a.take t) a t (ae a):=by
  intro d
  induction d with
  |zero =>intro t hd ht;rw[show a.take t=a from acd (by omega)];exact l7.dp a a t (by omega)
  |succ d ih =>intro t hd ht;obtain⟨v,hv⟩:∃v,a[t]? = some v:=⟨_,abJ (by omega)⟩;have:=ih (t+1) (by omega) (by omega);rw[ado,hv] at this;have f:=hf v (ac5 hv);exact l7.eu _ a t v (by omega) hv (by rw[ae1];have:=f.1;omega) (by rw[ae1];have:=f.2;omega) (by rw[acr,ac8,List.length_singleton];omega) (by omega) this
 exact l7.e0 a (loop _ 0 rfl (by omega))
theorem Jl:Cp 122 [ae []] (ae []) :=
 gE.e3 [] (-1) Jk (by decide) (gE.SN [] 0 [] (by omega) (by omega) (by decide) (copied [] (by decide) (by intro x h;cases h)))
theorem tV{a:List aq}{k:Nat}(hk:k≤5)(h:a.length=2^k)(hf:NL 1073741824 a):Cp 122 [ae a] (ae (QQ a k)):=by
 have tk:∀n,NL 1073741824 (a.take n):=fun n x hx=>hf x (List.mem_of_mem_take hx)
 have b5:2^k≤2^5:=ad8 (by omega) hk;have loop:∀t:Nat,t≤k→gE.ay a (2^t) (ae (QQ a t)):=by
  intro t
  induction t with
  |zero =>
   intro _;have p0:0<2^k:=acU _;have e:=empty (a.take 1) (by rw[ac8];omega);unfold QQ;by_cases hb:(a.take 1).all BH=true
   ·rw[ac7 hb];exact gE.G5 a 1 _ (by omega) rfl (by omega) e hb
   ·rw[ac3 hb];exact gE.Mv a 1 _ _ (by omega) rfl (by omega) e (by rwa[ad4] at hb) (by omega) (copied _ (by rw[ac8];omega) (tk 1))
  |succ t ih =>
   intro ht;have le:2^(t+1)≤2^k:=ad8 (by omega) ht;have p0:0<2^t:=acU _;have hh:2^(t+1)/2=2^t:=by rw[acb];omega
   have h2:1<2^(t+1):=by rw[acb];omega
   have e:=empty ((a.take (2^(t+1))).drop (2^t)) (by rw[aed,ac8];omega);unfold QQ;by_cases hb:((a.take (2^(t+1))).drop (2^t)).all BH=true
   ·rw[ac7 hb];exact gE.eu a _ _ h2 (by omega) (by omega) (by omega) (by rw[hh];exact e) hb (by rw[hh];exact ih (by omega))
   ·rw[ac3 hb];exact gE.ym a _ _ _ h2 (by omega) (by omega) (by omega) (by rw[hh];exact e) (by rwa[ad4] at hb) (by omega) (copied _ (by rw[ac8];omega) (tk _))
 have:=loop k (abW _);rw[←h] at this;have p0:0<2^k:=acU _;exact gE.e2 a (k:Int) (level (by omega) h) (by omega) (by omega) (by omega) this
end C9
def ox(q:List Rat):Bool:=q.all (fun x=>decide (x=0))
def wideL(q:List Rat)(n:Nat):List Rat:=q.take n++List.replicate (n-q.length) 0
def nH(p q:List Rat):List Rat:=List.zipWith (·+·) (wideL p (max p.length q.length)) (wideL q (max p.length q.length))
theorem jh(q:List Rat)(n:Nat):(wideL q n).length=n:=by unfold wideL;rw[acr,ac8,ae3];omega
theorem xa{α:Type}{l1 l2:List α}{v w:α}{t:Nat}(h:l1.length=t):(l1++v::l2).set t w=(l1++[w])++l2:=by subst h;simp
namespace C9
theorem zero(q:List Rat)(hl:q.length≤1000)(hf:Fl 68719476736 q):Cp 274 [pq q] (vB (ox q)):=by
 have loop:∀d t:Nat,q.length-t=d→mT.ay (q.map bw) t (vB (ox (q.drop t))):=by
  intro d
  induction d with
  |zero =>intro t hd;rw[acF (by omega)];exact mT.im _ t (by rw[abS];omega)
  |succ d ih =>
   intro t hd;obtain⟨v,hv⟩:∃v,q[t]? = some v:=⟨_,abJ (by omega)⟩;have Hp:(q.map bw)[t]? = some (bw v):=by rw[abR,hv];rfl
   have s:=QF.Sign v (hf v (ac5 hv));unfold ox;rw[FJ hv];by_cases h0:v=0
   ·rw[acf h0];exact mT.dp _ t _ _ (by rw[abS];omega) Hp s (jy.2 h0) (by omega) (ih (t+1) (by omega))
   ·rw[aci h0];exact mT.eu _ t _ _ (by rw[abS];omega) Hp s (fun e=>h0 (jy.1 e))
 have:=loop _ 0 rfl;rw[adg] at this;exact mT.e0 _ this
theorem minus(q:List Rat)(hl:q.length≤1000)(hf:Fl 68719476736 q):Cp 204 [pq q] (pq (q.map (- ·))):=by
 have loop:∀d t:Nat,q.length-t=d→t≤q.length→ny.ay (q.map bw) t (((q.take t).map (- ·)).map bw++List.replicate d (⟨false,[],[]⟩:aq)) (pq (q.map (- ·))):=by
  intro d
  induction d with
  |zero =>intro t hd ht;rw[show q.take t=q from acd (by omega),List.replicate_zero,aem];exact ny.dp _ t _ (by rw[abS];omega) (by simp)
  |succ d ih =>
   intro t hd ht;obtain⟨v,hv⟩:∃v,q[t]? = some v:=⟨_,abJ (by omega)⟩;have Hp:(q.map bw)[t]? = some (bw v):=by rw[abR,hv];rfl
   have s:=QF.Neg v (hf v (ac5 hv));have:=ih (t+1) (by omega) (by omega);rw[ado,hv] at this;refine ny.eu _ t _ _ _ (by rw[abS];omega) Hp s (by simp;omega) (by omega) ?_;rw[List.replicate_succ,xa (by simp;omega)];simpa using this
 have:=loop _ 0 rfl (by omega);refine ny.e0 _ (by rw[abS];omega) ?_;rw[abS];simpa using this
theorem Eg(q:List Rat)(n:Nat):(q.map bw).take (min (q.map bw).length n)++(List.replicate n (⟨false,[],[]⟩:aq)).drop (min (q.map bw).length n)=(wideL q n).map bw:=by
 unfold wideL;rw[adu,adA,List.map_replicate,qS,abS,List.drop_replicate];by_cases h:q.length≤n
 ·rw[acQ h,acd (by simp),acd (by simp;omega)]
 ·rw[Nat.min_eq_right (by omega),aeQ,show n-q.length=0 from by omega]
theorem wide(q:List Rat)(n:Nat)(hn:n≤1000):Cp 271 [pq q,vI (n:Int)] (pq (wideL q n)):=by have:=Ba.e0 (q.map bw) (n:Int) n rfl (by omega) (by rw[ae3];omega) (by rw[Eg,abS,jh]);rwa[Eg] at this
theorem OQ(q:List Rat)(n:Nat)(hn:n≤1000):ag aV 271 [.pv (pq q),.pv (vI (n:Int))] [] (.row 0 0 n 3) [(0,(.pure ((((wideL q n).map bw):List aq).map aq.cells).flatten))]:=by have:=yr.e0 (q.map bw) (n:Int) n rfl (by omega) (by rw[ae3];omega);rwa[Eg,acd (by rw[abS,jh];omega)] at this
end C9
theorem ur{H:Nat}{q:List Rat}(n:Nat)(h:Fl H q)(h1:1≤H):Fl H (wideL q n):=fun x hx=>by
 unfold wideL at hx;rcases acs.1 hx with hx|hx
 ·exact h x (List.mem_of_mem_take hx)
 ·rw[(List.mem_replicate.1 hx).2];exact abZ (show ht 0≤1 by decide) h1
theorem Eh(x:Rat):BH (bw x)=decide (x=0):=by
 by_cases h:x=0
 ·subst h;rfl
 ·rw[aci h];refine acX.2 fun e=>h ?_
  apply Ij;rw[qS];unfold BH at e;rcases hm:bw x with ⟨a,b,c⟩
  rw[hm] at e;simp at e;obtain⟨⟨rfl,rfl⟩,rfl⟩:=e;rfl
namespace C9
theorem plus(p q:List Rat)(hp:p.length≤1000)(hq:q.length≤1000)(fp:Fl 68719476736 p)(fq:Fl 68719476736 q):Cp 242 [pq p,pq q] (pq (nH p q)):=by
 unfold nH;have ln:max (p.map bw).length (q.map bw).length=max p.length q.length:=by rw[abS,abS]
 generalize hn:max p.length q.length=n at *;have wx:=OQ p n (by omega);have w:=wide q n (by omega);have hA:=jh p n;have hB:=jh q n;have fA:=ur n fp (by omega);have fB:=ur n fq (by omega);generalize wideL p n=A at *;generalize wideL q n=B at *;have loop:∀d t:Nat,n-t=d→t≤n→o7.ay n (B.map bw) t ((List.zipWith (·+·) (A.take t) (B.take t)++A.drop t).map bw) (pq (List.zipWith (·+·) A B)):=by
  intro d
  induction d with
  |zero =>intro t hd ht;rw[show A.take t=A from acd (by omega),show B.take t=B from acd (by omega),acF (by omega),aem];exact o7.dp n _ t _ (by omega) (by simp;omega)
  |succ d ih =>
   intro t hd ht;obtain⟨v,hv⟩:∃v,A[t]? = some v:=⟨_,abJ (by omega)⟩;obtain⟨u,hu⟩:∃v,B[t]? = some v:=⟨_,abJ (by omega)⟩;have hl:(List.zipWith (·+·) (A.take t) (B.take t)).length=t:=by simp;omega
   have:=ih (t+1) (by omega) (by omega);rw[ado,ado,hv,hu] at this;refine o7.eu n _ t _ (bw v) (bw u) (bw (v+u)) (by omega) ?_ (by rw[abR,hu];rfl) (QF.Add v u (fA v (ac5 hv)) (fB u (ac5 hu))) (by simp;omega) (by omega) ?_
   ·rw[abR,acS (by omega),hl,aeQ,acq,ad0,hv];rfl
   ·rw[drop_cons hv,adu,acI,xa (by rw[abS];exact hl)];rw[List.zipWith_append (by simp;omega)] at this;simpa using this
 have:=loop _ 0 rfl (by omega);refine o7.e0 _ _ (A.map bw) n (B.map bw) (by rw[ln];exact wx) (by rw[ln];exact w) ?_;simpa using this
theorem number(t:aU)(q:List Rat)(hf:Fl 68719476736 q)(ht:t.roots.length≤10)(hl:q=[]∨∃k,k≤t.roots.length∧q.length=2^k):Cp 126 [t.pv,pq q] .ar:=by
 have hlen:q.length≤1024:=by
  rcases hl with rfl|⟨k,h1,h2⟩
  ·simp
  ·have:2^k≤2^10:=ad8 (by omega) (by omega);omega
 have loop:∀d t:Nat,q.length-t=d→j8.ay (q.map bw) t .ar:=by
  intro d
  induction d with
  |zero =>intro t hd;exact j8.im _ t (by rw[abS];omega)
  |succ d ih =>
   intro t hd;obtain⟨v,hv⟩:∃v,q[t]? = some v:=⟨_,abJ (by omega)⟩;have Hp:(q.map bw)[t]? = some (bw v):=by rw[abR,hv];rfl
   exact j8.dp _ t _ _ (by rw[abS];omega) Hp (QF.Valid v (hf v (ac5 hv))) rfl (by omega) (ih (t+1) (by omega))
 rcases hl with rfl|⟨k,h1,h2⟩
 ·exact j8.e3 t _ (by simp) (loop _ 0 rfl)
 ·have p0:0<2^k:=acU _;exact j8.e2 t _ (k:Int) (by rw[abS];omega) (level (by omega) (by rw[abS];exact h2)) (by omega) (by omega) (loop _ 0 rfl)
def Db(q:List Rat):List Rat:=if ox q then [] else q
theorem Ei(q:List Rat)(hl:q.length≤1)(hf:Fl 1073741824 q):Cp 122 [pq q] (pq (Db q)):=by
 match q,hl with
 |[],_=>exact Jl
 |[x],_ =>
  have:=tV (a:=[bw x]) (k:=0) (by omega) rfl (fun y hy=>by have:=adJ.1 hy;subst this;have:=eK (hf x (by simp));exact⟨abZ this.1 (by omega),abZ this.2 (by omega)⟩)
  unfold QQ at this;unfold Db ox;rw[show ([bw x]:List aq).take 1=[bw x] from rfl] at this;by_cases h:x=0
  ·rw[ac7 (by simp[h])];rwa[ac7 (by simp[Eh,h])] at this
  ·rw[ac3 (by simp[h])];rwa[ac3 (by simp[Eh,h])] at this
def en(p q:List Rat):List Rat:=if ox p||ox q then [] else [p.headD 0*q.headD 0]
theorem mV(t:aU)(p q:List Rat)(hp:p.length≤1)(hq:q.length≤1)(fp:Fl 68719476736 p)(fq:Fl 68719476736 q):Cp 243 [t.pv,pq p,pq q] (pq (en p q)):=by
 have zp:=zero p (by omega) fp;have zq:=zero q (by omega) fq;unfold en;by_cases h:p.length<q.length
 ·have jl:p=[]:=abT (by omega);subst jl;rw[show ox []=true from rfl,aeX,ac7 rfl];by_cases hz:ox q=true
  ·exact eC.e0 t _ _ _ (by simpa using h) zq hz
  ·exact eC.e1 t _ _ _ _ (by simpa using h) zq (by rwa[Bool.not_eq_true] at hz) zp rfl
 ·by_cases hz:ox p=true
  ·rw[hz,aeX,ac7 rfl];exact eC.e5 t _ _ _ (by simpa using h) zp hz
  ·rw[ad4] at hz;rw[hz,aen];by_cases hy:ox q=true
   ·rw[ac7 hy];exact eC.e6 t _ _ _ _ (by simpa using h) zp hz zq hy
   ·rw[ac3 hy];rw[ad4] at hy;rcases p with _|⟨x,p⟩
    ·cases hz
    rcases q with _|⟨y,q⟩
    ·cases hy
    have e1:p=[]:=abT (by rw[acL] at hp;omega);have e2:q=[]:=abT (by rw[acL] at hq;omega);subst e1 e2;have m:=QF.Mul x y (fp x (by simp)) (fq y (by simp));exact eC.e7 t [bw x] [bw y] _ _ (bw x) (bw y) (bw (x*y)) (by simp) zp hz zq hy (by simp) (by simp) (by simp) m
end C9
open C9
def tw:Option Rat→aU
 |none=>⟨[]⟩
 |some d=>⟨[[bw d]]⟩
def zi(t:Option Rat)(q:List Rat):Bool:=decide (q.length≤1)||(t.isSome&&decide (q.length=2))
theorem gU{t:Option Rat}{q:List Rat}(h:zi t q=true):q.length≤2:=by unfold zi at h;simp at h;omega
theorem oC{t:Option Rat}{q:List Rat}(h:zi t q=true):q.length≤1∨∃d x y,t=some d∧q=[x,y]:=by
 unfold zi at h;simp at h;rcases h with h|⟨h1,h2⟩
 ·exact .inl h
 ·obtain⟨d,rfl⟩:=abP.1 h1
  match q,h2 with
  |[x,y],_=>exact .inr ⟨d,x,y,rfl,rfl⟩
def po(q:List Rat):List Rat:=match q with
 |[x,y]=>if y=0 then Db [x] else [x,y]
 |q=>Db q
def mf(d:Rat)(p q:List Rat):List Rat :=
 if p.length≤1∧q.length≤1 then en p q
 else if ox p||ox q then []
 else if q.length≤1 then wideL (en (p.take 1) q) 1++wideL (en (p.drop 1) q) 1
 else if p.length≤1 then wideL (en (q.take 1) p) 1++wideL (en (q.drop 1) p) 1
 else wideL (nH (en (p.take 1) (q.take 1)) (en (en (p.drop 1) (q.drop 1)) [d])) 1++wideL (nH (en (p.take 1) (q.drop 1)) (en (p.drop 1) (q.take 1))) 1
def vL(d:Rat)(a:List Rat):List Rat:=nH (en (a.take 1) (a.take 1)) ((en (en (a.drop 1) (a.drop 1)) [d]).map (- ·))
def vd(q:List Rat):Int:=kB (q.headD 0) 0
def Xg(d:Rat)(b:List Rat):Int :=
 if vd (b.take 1)=vd (b.drop 1) then vd (b.take 1) else if vd (b.drop 1)=0 then vd (b.take 1) else if vd (b.take 1)=0 then vd (b.drop 1) else vd (b.take 1)*vd (vL d b)
def QR(d:Rat)(a:List Rat):Int:=if (po a).length≤1 then vd (po a) else Xg d (po a)
theorem QS{H:Nat}{p q:List Rat}(hp:Fl H p)(hq:Fl H q):Fl H (p++q):=fun x hx=>(acs.1 hx).elim (hp x) (hq x)
theorem LH{H:Nat}{q:List Rat}(h:Fl H q):Fl H (Db q):=by
 unfold Db;split
 ·intro x hx;cases hx
 ·exact h
theorem QU{H:Nat}{q:List Rat}(h:Fl H q):Fl H (po q):=by
 unfold po;split
 ·rename_i x y;split
  ·exact LH (fun z hz=>h z (by simp at hz;simp[hz]))
  ·exact h
 ·exact LH h
theorem Ir{q:List Rat} : (Db q).length≤q.length:=by
 unfold Db;split
 ·exact adz _
 ·exact abW _
theorem qc{H K:Nat}{p q:List Rat}(hp:Fl H p)(hq:Fl K q):Fl (H+K) (en p q):=by
 unfold en;split
 ·intro x hx;cases hx
 ·rename_i hz;intro x hx;rw[adJ] at hx;subst hx;rcases p with _|⟨a,p⟩
  ·exact absurd rfl hz
  rcases q with _|⟨b,q⟩
  ·simp[ox] at hz
  have:=dY a b;have:=hp a (by simp);have:=hq b (by simp);show ht (a*b)≤_;omega
theorem mg{p q:List Rat} : (en p q).length≤1:=by unfold en;split<;>simp
theorem xR{H:Nat}{q:List Rat}(h:Fl H q):Fl H (q.map (- ·)):=fun x hx=>by obtain⟨y,hy,rfl⟩:=aca.1 hx;rw[qu];exact h y hy
theorem pr{H K:Nat}{p q:List Rat}(hp:Fl H p)(hq:Fl K q)(h1:1≤H)(h2:1≤K):Fl (H+K+1) (nH p q):=fun x hx=>by
 unfold nH at hx;rw[acR] at hx;obtain⟨i,hi⟩:=hx;rw[List.getElem?_zipWith] at hi;split at hi
 ·rename_i u v hu hv;injection hi with hi
  subst hi;have a:=ur (max p.length q.length) hp h1 u (ac5 hu);have b:=ur (max p.length q.length) hq h2 v (ac5 hv);have:=iN u v;omega
 ·cases hi
theorem xf(p q:List Rat):(nH p q).length=max p.length q.length:=by unfold nH;rw[List.length_zipWith,jh,jh,Nat.min_self]
theorem gg{H:Nat}{q:List Rat}(h:Fl H q)(h1:H≤1000000):Fl 68719476736 q:=fun x hx=>abZ (h x hx) (by omega)
theorem BI{p q:Rat}(h:q<p):kB p q=1:=by unfold kB;rw[ac3 (by grind),ac3 (by grind)]
theorem LI(p q:Rat):kB p q=1∨kB p q=0∨kB p q = -1:=by
 unfold kB;split
 ·exact .inr (.inr rfl)
 ·split
  ·exact .inr (.inl rfl)
  ·exact .inl rfl
namespace gQ
open C9
variable {t:Option Rat}
theorem tV{q:List Rat}(l:q.length≤2)(f:Fl 1000000 q):Cp 122 [pq q] (pq (po q)):=by
 by_cases h:q.length≤1
 ·have:=Ei q h (fun x hx=>abZ (f x hx) (by omega));have e:po q=Db q:=by
   unfold po;split
   ·simp at h
   ·rfl
  rwa[e]
 ·obtain⟨x,y,rfl⟩:∃x y,q=[x,y]:=by
   rcases q with _|⟨x,_|⟨y,_|⟨z,q⟩⟩⟩
   ·exact absurd (adz _) h
   ·exact absurd (abW _) h
   ·exact⟨x,y,rfl⟩
   ·simp at l
  ·have:=C9.tV (a:=[bw x,bw y]) (k:=1) (by omega) rfl (fun z hz=>by
    have hz:z=bw x∨z=bw y:=by simpa using hz
    have fx:=eK (f x (by simp));have fy:=eK (f y (by simp));rcases hz with rfl|rfl
    ·exact⟨abZ fx.1 (by omega),abZ fx.2 (by omega)⟩
    ·exact⟨abZ fy.1 (by omega),abZ fy.2 (by omega)⟩)
   have e:QQ [bw x,bw y] 1=(po [x,y]).map bw:=by
    show(if ([bw y]:List aq).all BH then (if ([bw x]:List aq).all BH then [] else [bw x]) else [bw x,bw y])=_;unfold po Db ox;simp only[List.all_cons,List.all_nil,Bool.and_true,Eh,decide_eq_true_eq];by_cases hy:y=0
    ·rw[ac7 hy];simp only[if_pos hy];by_cases hx:x=0
     ·rw[ac7 hx,ac7 hx];rfl
     ·rw[ac3 hx,ac3 hx];rfl
    ·rw[ac3 hy];simp only[if_neg hy];rfl
   rwa[e] at this
theorem Is(m s:List Rat)(n:Nat)(hn:n≤1000):Cp 275 [pq m,pq s,vI (n:Int)] (pq (wideL m n++wideL s n)):=by have:=Bb.e0 (m.map bw) (s.map bw) (n:Int) ((wideL m n).map bw) n ((wideL s n).map bw) (OQ m n hn) (wide s n hn) (by rw[abS,jh]) (by rw[acr,abS,abS,jh,jh];omega);unfold pq;rwa[adu]
theorem BJ{H:Nat} : Fl H ([]:List Rat):=fun x h=>by cases h
theorem times{p q:List Rat}(lp:zi t p=true)(lq:zi t q=true)(fp:Fl 10000 p)(fq:Fl 10000 q)(ft:Fl 1000 t.toList):Cp 243 [(tw t).pv,pq p,pq q] (pq (mf (t.getD 0) p q))∧Fl 50000 (mf (t.getD 0) p q)∧zi t (mf (t.getD 0) p q)=true:=by
 have UQ:=gg fp (by omega);have UR:=gg fq (by omega);have zp:=zero p (by have:=gU lp;omega) UQ;have zq:=zero q (by have:=gU lq;omega) UR;have fm {a b:List Rat} (ha:Fl 10000 a) (hb:Fl 10000 b):Fl 20000 (en a b):=qc ha hb;have fu {a:List Rat} (h:Fl 20000 a):Fl 50000 a:=cQ h (by omega);have l1 {a:List Rat} (h:a.length≤1):zi t a=true:=by unfold zi;rw[acf h];rfl
 have ap {a b:List Rat} {d:Rat} (ha:Fl 50000 a) (hb:Fl 50000 b):Fl 50000 (wideL a 1++wideL b 1)∧zi (some d) (wideL a 1++wideL b 1)=true :=
  ⟨QS (ur 1 ha (by omega)) (ur 1 hb (by omega)),by unfold zi;simp[jh]⟩
 rcases oC lp with hp|⟨d,x,y,rfl,rfl⟩
 ·rcases oC lq with hq|⟨d,u,v,rfl,rfl⟩
  ·rw[show mf (t.getD 0) p q=en p q from by unfold mf;rw[ac7 ⟨hp,hq⟩]];exact⟨mV _ p q hp hq UQ UR,fu (fm fp fq),l1 mg⟩
  ·
   show eN aV _ _ (pq (mf d p [u,v]))∧Fl _ (mf d p [u,v])∧zi _ (mf d p [u,v])=true;have hm:(p.map bw).length<(([u,v]:List Rat).map bw).length:=by simp;omega
   have hh:(([u,v]:List Rat).map bw).length/2=1:=by simp
   by_cases hz:ox [u,v]=true
   ·rw[show mf d p [u,v]=[] from by unfold mf;rw[ac3 (by simp),hz,Bool.or_true,ac7 rfl]];exact⟨eC.e0 _ _ _ _ hm zq hz,BJ,rfl⟩
   rw[ad4] at hz;by_cases hy:ox p=true
   ·rw[show mf d p [u,v]=[] from by unfold mf;rw[ac3 (by simp),hy,aeX,ac7 rfl]];exact⟨eC.e1 _ _ _ _ _ hm zq hz zp hy,BJ,rfl⟩
   rw[ad4] at hy;rw[show mf d p [u,v]=wideL (en [u] p) 1++wideL (en [v] p) 1 from by unfold mf;rw[hz,hy,ac3 (by simp),aen,ac3 aeY,ac3 (by simp),ac7 hp];rfl];have f1:Fl 10000 [u]:=fun z hz=>fq z (by simp at hz;simp[hz])
   have f2:Fl 10000 [v]:=fun z hz=>fq z (by simp at hz;simp[hz])
   have m1:=mV (tw (some d)) [u] p (by simp) hp (gg f1 (by omega)) UQ;have m2:=mV (tw (some d)) [v] p (by simp) hp (gg f2 (by omega)) UQ;exact⟨eC.e3 _ _ _ _ _ ((en [u] p).map bw) ((en [v] p).map bw) _ hm zq hz zp hy (by simp) (by simp) (by simp) (by simp) (by rw[hh,Tt];exact hp) (by rw[hh];exact m1) (by rw[hh];exact m2) (by rw[hh];exact Is _ _ 1 (by omega)),ap (fu (fm f1 fp)) (fu (fm f2 fp))⟩
 ·have hA:([x,y]:List Rat).length=2:=rfl;show eN aV _ _ (pq (mf d [x,y] q))∧Fl _ (mf d [x,y] q)∧zi _ (mf d [x,y] q)=true;have lq2:=gU lq;have hm:(q.map bw).length≤(([x,y]:List Rat).map bw).length:=by simp;omega
  have hh:(([x,y]:List Rat).map bw).length/2=1:=by simp
  by_cases hz:ox [x,y]=true
  ·rw[show mf d [x,y] q=[] from by unfold mf;rw[ac3 (by simp),hz,aeX,ac7 rfl]];exact⟨eC.e5 _ _ _ _ hm zp hz,BJ,rfl⟩
  rw[ad4] at hz;by_cases hy:ox q=true
  ·rw[show mf d [x,y] q=[] from by unfold mf;rw[ac3 (by simp),hy,Bool.or_true,ac7 rfl]];exact⟨eC.e6 _ _ _ _ _ hm zp hz zq hy,BJ,rfl⟩
  rw[ad4] at hy;have f1:Fl 10000 [x]:=fun z hz=>fp z (by simp at hz;simp[hz])
  have f2:Fl 10000 [y]:=fun z hz=>fp z (by simp at hz;simp[hz])
  have fd:Fl 1000 [d]:=ft;rcases oC lq with hq|⟨d',u,v,h',rfl⟩
  ·rw[show mf d [x,y] q=wideL (en [x] q) 1++wideL (en [y] q) 1 from by unfold mf;rw[hz,hy,ac3 (by simp),aen,ac3 aeY,ac7 hq];rfl];have m1:=mV (tw (some d)) [x] q (by simp) hq (gg f1 (by omega)) UR;have m2:=mV (tw (some d)) [y] q (by simp) hq (gg f2 (by omega)) UR;exact⟨eC.e8 _ _ _ _ _ ((en [x] q).map bw) ((en [y] q).map bw) _ hm zp hz zq hy (by simp) (by simp) (by simp) (by simp) (by rw[hh,Tt];exact hq) (by rw[hh];exact m1) (by rw[hh];exact m2) (by rw[hh];exact Is _ _ 1 (by omega)),ap (fu (fm f1 fq)) (fu (fm f2 fq))⟩
  ·injection h' with h'
   subst h';rw[show mf d [x,y] [u,v]=wideL (nH (en [x] [u]) (en (en [y] [v]) [d])) 1++wideL (nH (en [x] [v]) (en [y] [u])) 1 from by unfold mf;rw[hz,hy,ac3 (by simp),aen,ac3 aeY,ac3 (by simp),ac3 (by simp)];rfl];have g1:Fl 10000 [u]:=fun z hz=>fq z (by simp at hz;simp[hz])
   have g2:Fl 10000 [v]:=fun z hz=>fq z (by simp at hz;simp[hz])
   have i1:=mV (tw (some d)) [x] [u] (by simp) (by simp) (gg f1 (by omega)) (gg g1 (by omega));have i2:=mV (tw (some d)) [y] [v] (by simp) (by simp) (gg f2 (by omega)) (gg g2 (by omega));have i3:=mV (tw (some d)) _ [d] (mg (p:=[y]) (q:=[v])) (by simp) (gg (fm f2 g2) (by omega)) (gg fd (by omega));have YY:Fl 21000 (en (en [y] [v]) [d]):=qc (fm f2 g2) fd;have YZ:=fm f1 g1;have j1:=plus _ _ (by have:=mg (p:=[x]) (q:=[u]);omega) (by have:=mg (p:=en [y] [v]) (q:=[d]);omega) (gg YZ (by omega)) (gg YY (by omega));have k1:=mV (tw (some d)) [x] [v] (by simp) (by simp) (gg f1 (by omega)) (gg g2 (by omega));have k2:=mV (tw (some d)) [y] [u] (by simp) (by simp) (gg f2 (by omega)) (gg g1 (by omega));have j2:=plus _ _ (by have:=mg (p:=[x]) (q:=[v]);omega) (by have:=mg (p:=[y]) (q:=[u]);omega) (gg (fm f1 g2) (by omega)) (gg (fm f2 g1) (by omega));have lv:Cp 179 [ae [bw x,bw y]] (vI ((1:Nat):Int)):=level (a:=[bw x,bw y]) (k:=1) (by omega) rfl;exact⟨eC.e9 _ _ _ _ _ _ 0 [bw d] ((en [x] [u]).map bw) ((en [y] [v]).map bw) ((en (en [y] [v]) [d]).map bw) ((nH (en [x] [u]) (en (en [y] [v]) [d])).map bw) ((en [x] [v]).map bw) ((en [y] [u]).map bw) ((nH (en [x] [v]) (en [y] [u])).map bw) _ hm zp hz zq hy (by simp) (by simp) (by simp) (by simp) (by simp) (by simp) (by simp) lv (by unfold bf;decide) (by decide) rfl (by rw[hh];exact i1) (by rw[hh];exact i2) i3 j1 (by rw[hh];exact k1) (by rw[hh];exact k2) j2 (by rw[hh];exact Is _ _ 1 (by omega)),
    ap (cQ (pr YZ YY (by omega) (by omega)) (by omega)) (cQ (pr (fm f1 g2) (fm f2 g1) (by omega) (by omega)) (by omega))⟩
theorem number{q:List Rat}(l:zi t q=true)(f:Fl 10000 q):Cp 126 [(tw t).pv,pq q] .ar:=by
 refine C9.number (tw t) q (gg f (by omega)) (by cases t<;>simp[tw]) ?_;rcases oC l with h|⟨d,x,y,rfl,rfl⟩
 ·rcases q with _|⟨x,q⟩
  ·exact .inl rfl
  ·exact .inr ⟨0,adz _,by rw[acL] at h ⊢;omega⟩
 ·exact .inr ⟨1,by simp[tw],rfl⟩
theorem Dc{q:List Rat}(l:q.length≤1)(f:Fl 10000000 q):Cp 127 [(tw t).pv,pq q] (vI (vd q)):=by
 have s:=Ei q l (cQ f (by omega));by_cases hz:ox q=true
 ·have e:Db q=[]:=by unfold Db;rw[ac7 hz]
  have e2:vd q=0:=by
   rcases q with _|⟨x,q⟩
   ·rfl
   ·simp[ox] at hz;unfold vd;exact jy.2 hz.1
  rw[e] at s;rw[e2];exact iD.e0 _ _ [] s rfl
 ·rw[ad4] at hz;have e:Db q=q:=by unfold Db;rw[hz];rfl
  rw[e] at s;rcases q with _|⟨x,q⟩
  ·cases hz
  ·have:q=[]:=abT (by rw[acL] at l;omega);subst this;exact iD.e1 _ _ [bw x] (bw x) _ s (by simp) (by simp) (by simp) (QF.Sign x (by have:=f x (by simp);omega))
theorem norm{d x y:Rat}(f:Fl 1000000 [x,y])(ft:Fl 1000 [d]):Cp 184 [(tw (some d)).pv,pq [x,y]] (pq (vL d [x,y]))∧Fl 5000000 (vL d [x,y])∧(vL d [x,y]).length≤1:=by
 have f1:Fl 1000000 [x]:=fun z hz=>f z (by simp at hz;simp[hz])
 have f2:Fl 1000000 [y]:=fun z hz=>f z (by simp at hz;simp[hz])
 have up {H:Nat} {q:List Rat} (h:Fl H q) (h1:H≤10000000):Fl 68719476736 q:=cQ h (by omega);have fx:Fl 2000000 (en [x] [x]):=qc f1 f1;have fy:Fl 2000000 (en [y] [y]):=qc f2 f2;have fd:Fl 2001000 (en (en [y] [y]) [d]):=qc fy ft;have lx:=mg (p:=[x]) (q:=[x]);have ly:=mg (p:=[y]) (q:=[y]);have ld:=mg (p:=en [y] [y]) (q:=[d]);have i1:=mV (tw (some d)) [x] [x] (by simp) (by simp) (up f1 (by omega)) (up f1 (by omega));have i2:=mV (tw (some d)) [y] [y] (by simp) (by simp) (up f2 (by omega)) (up f2 (by omega));have i3:=mV (tw (some d)) _ [d] ly (by simp) (up fy (by omega)) (up ft (by omega));have i4:=minus (en (en [y] [y]) [d]) (by omega) (up fd (by omega));have i5:=plus (en [x] [x]) ((en (en [y] [y]) [d]).map (- ·)) (by omega) (by rw[abS];omega) (up fx (by omega)) (up (xR fd) (by omega));have lv:Cp 179 [ae [bw x,bw y]] (vI ((1:Nat):Int)):=level (a:=[bw x,bw y]) (k:=1) (by omega) rfl;have hh:(([x,y]:List Rat).map bw).length/2=1:=by simp
 refine⟨A7.e0 _ _ ((en [x] [x]).map bw) ((en [y] [y]).map bw) _ 0 [bw d] ((en (en [y] [y]) [d]).map bw) _ _ (by simp) (by simp) (by simp) (by rw[hh];exact i1) (by rw[hh];exact i2) lv (by unfold bf;decide) (by decide) rfl i3 i4 i5,cQ (pr fx (xR fd) (by omega) (by omega)) (by omega),?_⟩;show(nH (en [x] [x]) ((en (en [y] [y]) [d]).map (- ·))).length≤1;rw[xf,abS];omega
def Ch:Option Rat→Bool
 |none=>true
 |some d=>decide (0<d)&&decide (ht d≤1000)
theorem xS(h:Ch t=true):Fl 1000 t.toList:=by
 cases t with
 |none=>exact BJ
 |some d =>
  unfold Ch at h;simp at h;intro x hx;have:x=d:=by simpa using hx
  rw[this];exact h.2
theorem sign(k:Ch t=true){q:List Rat}(l:zi t q=true)(f:Fl 100000 q):Cp 127 [(tw t).pv,pq q] (vI (QR (t.getD 0) q)):=by
 by_cases h1:(po q).length≤1
 ·
  unfold QR;rw[ac7 h1];have s:=tV (gU l) (cQ f (by omega));have g:=QU f;generalize po q=b at s h1 g;rcases b with _|⟨x,b⟩
  ·exact iD.e0 _ _ [] s rfl
  ·have:b=[]:=abT (by rw[acL] at h1;omega);subst this;exact iD.e1 _ _ [bw x] (bw x) _ s (by simp) (by simp) (by simp) (QF.Sign x (by have:=g x (by simp);omega))
 ·unfold QR;rw[ac3 h1];rcases oC l with h|⟨d,x,y,rfl,rfl⟩
  ·exfalso;apply h1;rw[show po q=Db q from by
    unfold po;split
    ·simp at h
    ·rfl]
   exact abZ Ir h
  have s:=tV (gU l) (cQ f (by omega));have e:po [x,y]=[x,y]:=by
   unfold po at h1 ⊢;by_cases hy:y=0
   ·simp only[if_pos hy] at h1;exact absurd (abZ Ir (by simp)) h1
   ·simp only[if_neg hy]
  rw[e] at s ⊢;show eN aV _ _ (vI (Xg d [x,y]));have ft:=xS k;have hd:0<d:=by unfold Ch at k;simp at k;exact k.1
  have f1:Fl 10000000 [x]:=fun z hz=>abZ (f z (by simp at hz;simp[hz])) (by omega)
  have f2:Fl 10000000 [y]:=fun z hz=>abZ (f z (by simp at hz;simp[hz])) (by omega)
  have cx:=Dc (t:=some d) (q:=[x]) (by simp) f1;have cy:=Dc (t:=some d) (q:=[y]) (by simp) f2;have cd:=Dc (t:=some d) (q:=[d]) (by simp) (cQ ft (by omega));have ed:vd [d]=1:=BI hd;obtain⟨n1,n2,n3⟩:=norm (d:=d) (x:=x) (y:=y) (cQ f (by omega)) ft;have cn:=Dc (t:=some d) n3 (cQ n2 (by omega));have lv:Cp 179 [ae [bw x,bw y]] (vI ((1:Nat):Int)):=level (a:=[bw x,bw y]) (k:=1) (by omega) rfl;have hh:(([x,y]:List Rat).map bw).length/2=1:=by simp
  have rg:∀q:List Rat,vd q=1∨vd q=0∨vd q = -1:=fun q=>LI _ _
  unfold Xg;show eN aV _ _ (vI (if vd [x]=vd [y] then vd [x] else if vd [y]=0 then vd [x] else if vd [x]=0 then vd [y] else vd [x]*vd (vL d [x,y])));by_cases c1:vd [x]=vd [y]
  ·rw[ac7 c1];exact iD.e3 _ _ _ _ _ _ 0 [bw d] _ s (by simp) (by simp) (by simp) (by simp) (by rw[hh];exact cx) (by simp) (by rw[hh];exact cy) lv (by unfold bf;decide) (by decide) rfl cd (by rw[ed];decide) c1
  rw[ac3 c1];by_cases c2:vd [y]=0
  ·rw[ac7 c2];exact iD.e4 _ _ _ _ _ _ 0 [bw d] _ s (by simp) (by simp) (by simp) (by simp) (by rw[hh];exact cx) (by simp) (by rw[hh];exact cy) lv (by unfold bf;decide) (by decide) rfl cd (by rw[ed];decide) c1 c2
  rw[ac3 c2];by_cases c3:vd [x]=0
  ·rw[ac7 c3];exact iD.e5 _ _ _ _ _ _ 0 [bw d] _ s (by simp) (by simp) (by simp) (by simp) (by rw[hh];exact cx) (by simp) (by rw[hh];exact cy) lv (by unfold bf;decide) (by decide) rfl cd (by rw[ed];decide) c1 c2 c3
  rw[ac3 c3];exact iD.e6 _ _ _ _ _ _ 0 [bw d] _ _ _ s (by simp) (by simp) (by simp) (by simp) (by rw[hh];exact cx) (by simp) (by rw[hh];exact cy) lv (by unfold bf;decide) (by decide) rfl cd (by rw[ed];decide) c1 c2 c3 n1 cn (by unfold bf;rcases rg [x] with e|e|e<;>rcases rg (vL d [x,y]) with e'|e'|e'<;>rw[e,e']<;>decide)
theorem check(k:Ch t=true):Cp 86 [(tw t).pv] .ar:=by
 cases t with
 |none=>exact kY.e1 _ (by decide) (kY.G5 _ 0 (by decide))
 |some d =>
  have ft:=xS k;have n:=number (t:=none) (q:=[d]) rfl (cQ ft (by omega));have s:=Dc (t:=none) (q:=[d]) (by simp) (cQ ft (by omega));have hd:0<d:=by unfold Ch at k;simp at k;exact k.1
  have ed:vd [d]=1:=BI hd;rw[ed] at s;exact kY.e1 _ (by simp[tw]) (kY.im _ 0 [bw d] 1 (by simp[tw]) rfl (by omega) (by decide) rfl (by omega) n s (by omega) (by omega) (kY.G5 _ 1 (by simp[tw])))
def jS(t:Option Rat)(l:List (List Rat)):Bool:=Ch t&&l.all fun q=>zi t q&&q.all fun x=>decide (ht x≤1000)
theorem oy{l:List (List Rat)}(h:jS t l=true):Ch t=true:=by unfold jS at h;rw[abK] at h;exact h.1
theorem gh{l:List (List Rat)}(h:jS t l=true)(i:Nat){q:List Rat}(hq:l[i]? = some q:=by rfl):zi t q=true∧Fl 1000 q:=by unfold jS at h;rw[abK] at h;have:=abX.1 h.2 q (ac5 hq);rw[abK] at this;exact⟨this.1,fun x hx=>adM (abX.1 this.2 x hx)⟩
theorem rZ{l:List (List Rat)}(h:jS t l=true)(hl:l.length≤1000):Cp 185 [(tw t).pv,an lR (l.map fun q=>q.map bw)] .ar:=by
 have loop:∀d i:Nat,l.length-i=d→l8.ay (l.map fun q=>q.map bw) i (tw t) .ar:=by
  intro d
  induction d with
  |zero=>intro i hd;exact l8.im _ i _ (by rw[abS];omega)
  |succ d ih =>intro i hd;obtain⟨q,hq⟩:∃q,l[i]? = some q:=⟨_,abJ (by omega)⟩;obtain⟨h1,h2⟩:=gh h i hq;exact l8.eu _ i _ (q.map bw) (by rw[abS];omega) (by rw[abR,hq];rfl) (number h1 (cQ h2 (by omega))) (by omega) (ih (i+1) (by omega))
 exact l8.e0 _ _ (check (oy h)) (loop _ 0 rfl)
end gQ
end Go.Proofs.YtneklnlpgfeplaaGreat.Sym
namespace Go.Proofs.YtneklnlpgfeplaaGreat.Sym
open Go Path eJ C9
set_option linter.unusedVariables false
def Hz(p q:List Rat):List Rat:=po (nH p q)
def xg(p q:List Rat):List Rat:=po (nH p (q.map (- ·)))
def Tu(p:List Rat):List Rat:=po (p.map (- ·))
def nI(t:Option Rat)(p q:List Rat):List Rat:=po (mf (t.getD 0) p q)
def LJ(x:Rat):List Rat:=Db [x]
def HA(t:Option Rat)(b:List Rat):List Rat :=
 if b.length≤1 then [1/b.headD 0] else mf (t.getD 0) (wideL (b.take 1) 1++wideL ((b.drop 1).map (- ·)) 1) [1/(vL (t.getD 0) b).headD 0]
def LK(t:Option Rat)(p q:List Rat):List Rat:=po (mf (t.getD 0) p (HA t (po q)))
def HB(t:Option Rat)(p:List Rat):Int:=QR (t.getD 0) p
def Jm(t:Option Rat)(p q:List Rat):Int:=QR (t.getD 0) (nH p (q.map (- ·)))
theorem HD{t:Option Rat}{p q:List Rat}(hp:zi t p=true)(hq:zi t q=true)(r:List Rat)(h:r.length=max p.length q.length):zi t r=true:=by
 unfold zi at *;simp at *;rcases hp with hp|hp<;>rcases hq with hq|hq
 ·left;omega
 ·by_cases h2:r.length≤1
  ·exact .inl h2
  ·exact .inr ⟨hq.1,by omega⟩
 ·by_cases h2:r.length≤1
  ·exact .inl h2
  ·exact .inr ⟨hp.1,by omega⟩
 ·exact .inr ⟨hp.1,by omega⟩
namespace gQ
variable {t:Option Rat}
theorem NS{q:List Rat}(h:zi t q=true):zi t (q.map (- ·))=true:=by unfold zi at *;rw[abS];exact h
theorem ct{l m:List (List Rat)}(h:jS t l=true)(hs:∀q∈m,q∈l):jS t m=true:=by unfold jS at *;rw[abK,abX] at *;exact⟨h.1,fun q hq=>h.2 q (hs q hq)⟩
theorem Add{p q:List Rat}(h:jS t [p,q]=true):Cp 269 [(tw t).pv,pq p,pq q] (.bg [pq (Hz p q),.ar]):=by obtain⟨lp,fp⟩:=gh h 0;obtain⟨lq,fq⟩:=gh h 1;have l2:=gU lp;have l3:=gU lq;exact CR.e0 _ _ _ _ _ (rZ h (by simp)) (plus p q (by omega) (by omega) (gg fp (by omega)) (gg fq (by omega))) (tV (by rw[xf];omega) (cQ (pr fp fq (by omega) (by omega)) (by omega)))
theorem Sub{p q:List Rat}(h:jS t [p,q]=true):Cp 265 [(tw t).pv,pq p,pq q] (.bg [pq (xg p q),.ar]):=by obtain⟨lp,fp⟩:=gh h 0;obtain⟨lq,fq⟩:=gh h 1;have l2:=gU lp;have l3:=gU lq;have fn:=xR fq;exact CQ.e0 _ _ _ _ _ _ (rZ h (by simp)) (minus q (by omega) (gg fq (by omega))) (plus p _ (by omega) (by rw[List.length_map];omega) (gg fp (by omega)) (gg fn (by omega))) (tV (by rw[xf,abS];omega) (cQ (pr fp fn (by omega) (by omega)) (by omega)))
theorem Neg{p:List Rat}(h:jS t [p]=true):Cp 156 [(tw t).pv,pq p] (.bg [pq (Tu p),.ar]):=by obtain⟨lp,fp⟩:=gh h 0;have l2:=gU lp;exact CO.e0 _ _ _ _ (rZ h (by simp)) (minus p (by omega) (gg fp (by omega))) (tV (by rw[List.length_map];omega) (cQ (xR fp) (by omega)))
theorem Mul{p q:List Rat}(h:jS t [p,q]=true):Cp 270 [(tw t).pv,pq p,pq q] (.bg [pq (nI t p q),.ar]):=by obtain⟨lp,fp⟩:=gh h 0;obtain⟨lq,fq⟩:=gh h 1;obtain⟨a,b,c⟩:=times lp lq (cQ fp (by omega)) (cQ fq (by omega)) (xS (oy h));exact CS.e0 _ _ _ _ _ (rZ h (by simp)) a (tV (gU c) (cQ b (by omega)))
theorem Sign{p:List Rat}(h:jS t [p]=true):Cp 193 [(tw t).pv,pq p] (.bg [vI (HB t p),.ar]):=by obtain⟨lp,fp⟩:=gh h 0;exact A8.e0 _ _ _ (rZ h (by simp)) (sign (oy h) lp (cQ fp (by omega)))
theorem Valid{p:List Rat}(h:jS t [p]=true):Cp 128 [(tw t).pv,pq p] (vB true):=yq.e0 _ _ (rZ h (by simp))
theorem Et{p q:List Rat}(h:jS t [p,q]=true):Cp 188 [(tw t).pv,pq p,pq q] (.bg [vI (Jm t p q),.ar]):=by
 obtain⟨lp,fp⟩:=gh h 0;obtain⟨lq,fq⟩:=gh h 1;have l2:=gU lp;have l3:=gU lq;have fn:=xR fq;exact CP.e0 _ _ _ _ _ _ (rZ h (by simp)) (minus q (by omega) (gg fq (by omega))) (plus p _ (by omega) (by rw[List.length_map];omega) (gg fp (by omega)) (gg fn (by omega)))
  (sign (oy h) (HD lp (NS lq) _ (xf _ _)) (cQ (pr fp fn (by omega) (by omega)) (by omega)))
theorem Of {x : Rat} (h : ht x ≤ 1000) : Cp 81 [(bw x).pv] (pq (LJ x)) :=
  Fk.e0 _ _ _ (QF.NM x (by omega)) (Ei [x] (by simp) (fun y hy => by have : y = x := by simpa using hy
                                                                     subst this; omega))
theorem NT{q:List Rat}(h:jS t [q,po q]=true)(h0:(if (po q).length≤1 then (po q).headD 0 else (vL (t.getD 0) (po q)).headD 0)≠0):Cp 273 [(tw t).pv,pq q] (pq (HA t (po q))):=by
 obtain⟨lq,fq⟩:=gh h 0;obtain⟨lb,fb⟩:=gh h 1;have ft:=xS (oy h);have s:=tV (gU lq) (cQ fq (by omega));have o1:=BW.Of 1 (by unfold bf;omega);have inv1:∀{m:List Rat} {k:List Rat},m.length≤1→m.headD 0≠0→Fl 1000000 m→Cp 122 [pq k] (pq m)→Cp 273 [(tw t).pv,pq k] (pq [1/m.headD 0])∧m≠[]:=by
  intro m k l hm f s;rcases m with _|⟨x,m⟩
  ·exact absurd rfl hm
  ·have:m=[]:=abT (by rw[acL] at l;omega);subst this;have hx:=f x (by simp);exact⟨qq.e0 _ _ [bw x] (bw 1) (bw x) (bw (1/x)) s (by simp) o1 (by simp) (QF.Div 1 x (by decide +kernel) (by omega) hm),by simp⟩
 unfold HA;by_cases hl:(po q).length≤1
 ·rw[ac7 hl] at h0 ⊢;exact(inv1 hl h0 (cQ fb (by omega)) s).1
 ·rw[ac3 hl] at h0 ⊢;rcases oC lb with h'|⟨d,x,y,rfl,hb⟩
  ·exact absurd h' hl
  rw[hb] at s h0 fb ⊢;have h0:(vL d [x,y]).headD 0≠0:=h0;obtain⟨n1,n2,n3⟩:=norm (d:=d) (x:=x) (y:=y) (cQ fb (by omega)) ft;have Y0:Fl 9000 (vL d [x,y]):=by
   have f1:Fl 1000 [x]:=fun z hz=>fb z (by simp at hz;simp[hz])
   have f2:Fl 1000 [y]:=fun z hz=>fb z (by simp at hz;simp[hz])
   exact cQ (pr (qc f1 f1) (xR (qc (qc f2 f2) ft)) (by omega) (by omega)) (by omega)
  have sg:=Dc (t:=some d) n3 (cQ n2 (by omega));show eN aV _ _ (pq (mf d (wideL [x] 1++wideL [-y] 1) [1/(vL d [x,y]).headD 0]));generalize hm:vL d [x,y]=m at *;have hz:ox m=false:=by
   rcases m with _|⟨z,m⟩
   ·exact absurd rfl h0
   ·unfold ox;have h0:z≠0:=h0;rw[aei,aci h0,ad3]
  have sm:=Ei m n3 (cQ n2 (by omega));rw[show Db m=m from by unfold Db;rw[hz];rfl] at sm;obtain⟨j1,j2⟩:=inv1 n3 h0 (cQ Y0 (by omega)) sm;have f2:Fl 1000 [y]:=fun z hz=>fb z (by simp at hz;simp[hz])
  have mn:=minus [y] (by simp) (gg f2 (by omega));have jn:=Is [x] [-y] 1 (by omega);have hx:∀z,z=x∨z=y→ht z≤1000:=fun z hz=>fb z (by simpa using hz)
  have tm:=times (t:=some d) (p:=wideL [x] 1++wideL [-y] 1) (q:=[1/m.headD 0]) rfl rfl (by
   intro z hz;have hz:z=x∨z = -y:=by simpa[wideL] using hz
   rcases hz with rfl|rfl
   ·have:=hx _ (.inl rfl);omega
   ·rw[qu];have:=hx y (.inr rfl);omega) (by
   intro z hz;have hz:z=1/m.headD 0:=by simpa using hz
   subst hz;rcases m with _|⟨z,m⟩
   ·exact absurd rfl j2
   ·have a:=xO 1 z;have b:=Y0 z (by simp);have c:ht 1=1:=by decide +kernel
    show ht (1/z)≤_;omega) ft
  have hh:(([x,y]:List Rat).map bw).length/2=1:=by simp
  have e0:vd m≠0:=fun e=>h0 (jy.1 e)
  exact qq.e2 _ _ _ (m.map bw) _ ([-y].map bw) ((wideL [x] 1++wideL [-y] 1).map bw) ([1/m.headD 0].map bw) _ s (by simp) (by simp) n1 sg e0 (by simp) (by simp) (by rw[hh];exact mn) (by rw[hh];exact jn) j1 tm.1
theorem Div{p q:List Rat}(h:jS t [p,q,po q,HA t (po q)]=true)(h0:(if (po q).length≤1 then (po q).headD 0 else (vL (t.getD 0) (po q)).headD 0)≠0)(h1:HB t q≠0):Cp 240 [(tw t).pv,pq p,pq q] (.bg [pq (LK t p q),.ar]):=by obtain⟨lp,fp⟩:=gh h 0;obtain⟨lq,fq⟩:=gh h 1;obtain⟨li,fi⟩:=gh h 3;have h2:jS t [p,q]=true:=ct h (by simp);have h3:jS t [q,po q]=true:=ct h (by simp);obtain⟨a,b,c⟩:=times lp li (cQ fp (by omega)) (cQ fi (by omega)) (xS (oy h));exact CT.e1 _ _ _ _ _ _ _ (rZ h2 (by simp)) (sign (oy h) lq (cQ fq (by omega))) h1 (NT h3 h0) a (tV (gU c) (cQ b (by omega)))
theorem QV{d:Rat}(h:Ch (some d)=true):Cp 172 [(tw none).pv,pq [d]] (.bg [(tw (some d)).pv,pq [0,1],.ar]):=by
 have ft:=xS h;have hd:0<d:=by unfold Ch at h;simp at h;exact h.1
 have n:jS none [[d]]=true:=by unfold jS zi;simp;exact⟨rfl,ft d (by simp)⟩
 have s:=sign (t:=none) rfl (q:=[d]) rfl (cQ ft (by omega));have es:QR ((none:Option Rat).getD 0) [d]=1:=by
  have e:po [d]=[d]:=by show Db [d]=[d];unfold Db ox;rw[ac3 (by simp;grind)]
  unfold QR;rw[e,ac7 (by simp)];exact BI hd
 rw[es] at s;have cp:=C9.copied [bw d] (by simp) (Lw (q:=[d]) (cQ ft (by omega)));have wd:=C9.wide [d] 1 (by omega);have l:=A9.e0 (tw none) [bw d] [bw d] _ (rZ n (by simp)) cp (by simp[tw]) (by simp[tw]) (by show eN aV _ [pq [d],vI (((1*2^0):Nat):Int)] _;exact wd)
 have o1:=BW.Of 1 (by unfold bf;omega);have rt:=Bc.e0 (0:Int) 0 0 (bw 1) rfl (by omega) (by omega) (by omega) rfl (by omega) (by omega) o1 (by omega) (by simp) (by simp);refine rO.e2 _ _ _ 1 l s (by omega) (by simp[tw]) ?_;exact rO.dp _ (tw none) 0 [] _ (by simp[tw]) (by simp) rt
end gQ
end Go.Proofs.YtneklnlpgfeplaaGreat.Sym
namespace Go.Proofs.YtneklnlpgfeplaaGreat.Sym
open Go Path eJ C9
open gQ (jS)
set_option linter.unusedVariables false
abbrev Pt:=List Rat×List Rat
def Pt.p(p:Pt):bp:=⟨p.1.map bw,p.2.map bw⟩
def Dd(p q:Pt):Pt:=(xg p.1 q.1,xg p.2 q.2)
def It(p q:Pt):Pt:=(Hz p.1 q.1,Hz p.2 q.2)
def LL(t:Option Rat)(p q:Pt):List Rat:=Hz (nI t p.1 q.1) (nI t p.2 q.2)
def HE(t:Option Rat)(p q:Pt):List Rat:=xg (nI t p.1 q.2) (nI t p.2 q.1)
def De(t:Option Rat)(c s:List Rat)(p:Pt):Pt:=(xg (nI t c p.1) (nI t s p.2),Hz (nI t s p.1) (nI t c p.2))
def OR(t:Option Rat)(p q:Pt):List Rat:=LL t (Dd q p) (Dd q p)
def JD(x y:Rat):Pt:=(LJ x,LJ y)
def lL(p q:Pt):List (List Rat):=[p.1,p.2,q.1,q.2]
def dL(t:Option Rat)(p q:Pt):List (List Rat):=[p.1,p.2,q.1,q.2,nI t p.1 q.1,nI t p.2 q.2]
def cL(t:Option Rat)(p q:Pt):List (List Rat):=[p.1,p.2,q.1,q.2,nI t p.1 q.2,nI t p.2 q.1]
def tL(t:Option Rat)(c s:List Rat)(p:Pt):List (List Rat):=[c,s,p.1,p.2,nI t c p.1,nI t s p.2,nI t s p.1,nI t c p.2]
def Xh(t:Option Rat)(p q:Pt):List (List Rat):=lL p q++dL t (Dd q p) (Dd q p)
structure Pl where
 cos:List Rat
 sin:List Rat
 x:List Rat
 y:List Rat
def Pl.p(b:Pl):aw:=⟨b.cos.map bw,b.sin.map bw,b.x.map bw,b.y.map bw⟩
def US(t:Option Rat)(b:Pl)(x y:Rat):Pt:=It (De t b.cos b.sin (JD x y)) (b.x,b.y)
def NU(t:Option Rat)(b:Pl)(x y:Rat):List (List Rat):=tL t b.cos b.sin (JD x y)++lL (De t b.cos b.sin (JD x y)) (b.x,b.y)++[[x],[y]]
abbrev S0(t:aU):aY:=[(100000,(.lit [(.pv (an lR t.roots)),(.pv .ar)]))]
namespace FK
variable {t:Option Rat}
theorem check{l:List (List Rat)}(h:jS t l=true)(hl:l.length≤1000):Cp 236 [(tw t).pv,an lR (l.map fun q=>q.map bw)] .ar:=by
 have loop:∀d i:Nat,l.length-i=d→nz.ay (l.map fun q=>q.map bw) i (tw t) .ar:=by
  intro d
  induction d with
  |zero=>intro i hd;exact nz.dp _ i _ (by rw[abS];omega)
  |succ d ih =>intro i hd;obtain⟨q,hq⟩:∃q,l[i]? = some q:=⟨_,abJ (by omega)⟩;exact nz.eu _ i _ (q.map bw) _ (by rw[abS];omega) (by rw[abR,hq];rfl) (gQ.Neg (gQ.ct h (by intro x hx;rw[adJ.1 hx];exact ac5 hq))) (by omega) (ih (i+1) (by omega))
 exact nz.e0 _ _ (gQ.check (gQ.oy h)) (loop _ 0 rfl)
theorem FL{l:List Pt}(h:jS t (l.flatMap fun p=>[p.1,p.2])=true)(hl:l.length≤100):Cp 190 [(tw t).pv,an bp.cells (l.map Pt.p)] .ar:=by
 have len:∀l:List Pt,(l.flatMap fun p=>[p.1,p.2]).length=2*l.length:=fun l=>by
  induction l with
  |nil=>rfl
  |cons p l ih=>rw[List.flatMap_cons,acr,ih,acL];simp;omega
 have c:=check h (by rw[len];omega);have loop:∀d i:Nat,l.length-i=d→i≤l.length→jO.ay (((l.take i).flatMap fun p=>[p.1,p.2]).map fun q=>q.map bw) (l.map Pt.p) i (tw t) .ar:=by
  intro d
  induction d with
  |zero =>intro i hd hi;rw[acd (by omega)];exact jO.dp _ _ i _ (by rw[abS];omega) c
  |succ d ih =>intro i hd hi;obtain⟨q,hq⟩:∃q,l[i]? = some q:=⟨_,abJ (by omega)⟩;have:=ih (i+1) (by omega) (by omega);rw[ado,hq] at this;refine jO.eu _ _ i _ (Pt.p q) (by rw[abS];omega) (by rw[abR,hq];rfl) (by rw[acr,abS,len,ac8];simp;omega) (by omega) ?_;simpa[Pt.p] using this
 exact jO.e0 _ _ (loop _ 0 rfl (adz _))
theorem Of{x y:Rat}(hx:ht x≤1000)(hy:ht y≤1000):Cp 159 [(bw x).pv,(bw y).pv] (JD x y).p.pv:=Fp.e0 _ _ _ _ (gQ.Of hx) (gQ.Of hy)
section
variable {p q:List Rat}
theorem aW(x:List Rat):ag aV 272 [.ptr 100000 0,.pv (pq x),.pv .ar] (S0 (tw t)) (.pv (pq x)) (S0 (tw t)):=tF.e0 _ _
theorem add(h:jS t [p,q]=true):ag aV 244 [.ptr 100000 0,.pv (pq p),.pv (pq q)] (S0 (tw t)) (.pv (pq (Hz p q))) (S0 (tw t)):=u4.e0 _ _ _ _ _ (gQ.Add h) (aW _)
theorem sub(h:jS t [p,q]=true):ag aV 264 [.ptr 100000 0,.pv (pq p),.pv (pq q)] (S0 (tw t)) (.pv (pq (xg p q))) (S0 (tw t)):=u5.e0 _ _ _ _ _ (gQ.Sub h) (aW _)
theorem mul(h:jS t [p,q]=true):ag aV 238 [.ptr 100000 0,.pv (pq p),.pv (pq q)] (S0 (tw t)) (.pv (pq (nI t p q))) (S0 (tw t)):=uZ.e0 _ _ _ _ _ (gQ.Mul h) (aW _)
end
variable {p q r:Pt}
theorem less(h:jS t (lL p q)=true):ag aV 239 [.ptr 100000 0,.pv p.p.pv,.pv q.p.pv] (S0 (tw t)) (.pv (Dd p q).p.pv) (S0 (tw t)) :=
 tE.e0 _ p.p q.p _ _ (sub (gQ.ct h (by simp[lL]))) (sub (gQ.ct h (by simp[lL])))
theorem dot(h:jS t (dL t p q)=true):ag aV 187 [.ptr 100000 0,.pv p.p.pv,.pv q.p.pv] (S0 (tw t)) (.pv (pq (LL t p q))) (S0 (tw t)) :=
 uY.e0 _ p.p q.p _ _ _ (mul (gQ.ct h (by simp[dL]))) (mul (gQ.ct h (by simp[dL]))) (add (gQ.ct h (by simp[dL])))
theorem Tv(h:jS t (cL t p q)=true):ag aV 246 [.ptr 100000 0,.pv p.p.pv,.pv q.p.pv] (S0 (tw t)) (.pv (pq (HE t p q))) (S0 (tw t)) :=
 sj.e0 _ p.p q.p _ _ _ (mul (gQ.ct h (by simp[cL]))) (mul (gQ.ct h (by simp[cL]))) (sub (gQ.ct h (by simp[cL])))
theorem Tw(h:jS t (lL p q)=true):Cp 190 [(tw t).pv,an bp.cells [p.p,q.p]] .ar:=FL (l:=[p,q]) (gQ.ct h (by simp[lL])) (by simp)
theorem Add(h:jS t (lL p q)=true):Cp 245 [(tw t).pv,p.p.pv,q.p.pv] (.bg [(It p q).p.pv,.ar]) :=
 CV.e0 _ _ _ _ _ _ (Tw h) (add (gQ.ct h (by simp[lL]))) (add (gQ.ct h (by simp[lL]))) (nU.e0 _ (It p q).p)
theorem Y1(h:jS t (dL t p q)=true):Cp 129 [(tw t).pv,p.p.pv,q.p.pv] (.bg [pq (LL t p q),.ar]) :=
 CU.e0 _ _ _ _ (tC.e0 _ _ _ _ _ (Tw (gQ.ct h (by simp[lL,dL]))) (dot h) (ng.e0 _ _))
theorem Tx(h:jS t (cL t p q)=true):Cp 208 [(tw t).pv,p.p.pv,q.p.pv] (.bg [pq (HE t p q),.ar]) :=
 yu.e0 _ _ _ _ (tD.e0 _ _ _ _ _ (Tw (gQ.ct h (by simp[lL,cL]))) (Tv h) (ng.e0 _ _))
theorem Ty(h:jS t (Xh t p q)=true):Cp 267 [(tw t).pv,p.p.pv,q.p.pv] (.bg [pq (OR t p q),.ar]) :=
 yw.e0 _ _ _ _ _ _ (Tw (gQ.ct h (by simp[lL,Xh]))) (less (gQ.ct h (by simp[lL,Xh]))) (dot (gQ.ct h (fun x hx=>acD _ hx))) (ng.e0 _ _)
theorem Check(h:jS t [p.1,p.2]=true):Cp 228 [(tw t).pv,p.p.pv] .ar:=yv.e0 _ _ (FL (l:=[p]) (gQ.ct h (by simp)) (by simp))
theorem Tz{c s:List Rat}(h:jS t (tL t c s p)=true):Cp 209 [(tw t).pv,pq c,pq s,p.p.pv] (.bg [(De t c s p).p.pv,.ar]) :=
 Be.e0 _ _ _ p.p _ _ _ _ _ _ _ (check (l:=[c,s,p.1,p.2]) (gQ.ct h (by simp[tL])) (by simp)) (mul (gQ.ct h (by simp[tL]))) (mul (gQ.ct h (by simp[tL]))) (sub (gQ.ct h (by simp[tL])))
  (mul (gQ.ct h (by simp[tL]))) (mul (gQ.ct h (by simp[tL]))) (add (gQ.ct h (by simp[tL]))) (nU.e0 _ (De t c s p).p)
theorem BK{x:Rat}{l:List (List Rat)}(h:jS t l=true)(hx:[x]∈l):ht x≤1000:=by obtain⟨i,hi⟩:=acR.1 hx;exact(gQ.gh h i hi).2 x (by simp)
theorem At{b:Pl}{x y:Rat}(h:jS t (NU t b x y)=true):Cp 189 [(tw t).pv,b.p.pv,(bw x).pv,(bw y).pv] (.bg [(US t b x y).p.pv,.ar]) :=
 Fq.e0 _ b.p _ _ (JD x y).p _ _ (check (l:=[b.cos,b.sin,b.x,b.y]) (gQ.ct h (by simp[NU,tL,lL])) (by simp)) (Of (BK h (by simp[NU])) (BK h (by simp[NU]))) (Tz (gQ.ct h (by simp[NU];intros;simp[*])))
  (Add (p:=De t b.cos b.sin (JD x y)) (q:=(b.x,b.y)) (gQ.ct h (by simp[NU];intros;simp[*])))
theorem Xi(h:jS t (lL p q)=true)(h1:Jm t p.1 q.1=0)(h2:Jm t p.2 q.2=0):Cp 132 [(tw t).pv,p.p.pv,q.p.pv] (.bg [vB true,.ar]) :=
 Bd.e0 _ _ _ _ _ (Tw h) (gQ.Et (gQ.ct h (by simp[lL]))) (gQ.Et (gQ.ct h (by simp[lL]))) h1 h2
end FK
end Go.Proofs.YtneklnlpgfeplaaGreat.Sym
namespace Go.Proofs.YtneklnlpgfeplaaGreat.Sym
open Go Path eJ C9
open gQ (jS)
set_option linter.unusedVariables false
structure Ci where
 c:Pt
 r:List Rat
def Ci.p(c:Ci):cC:=⟨c.c.p,c.r.map bw⟩
namespace BX
variable {t:Option Rat} {p q r:List Rat}
theorem aW(x:List Rat):ag aV 230 [.ptr 100000 0,.pv (pq x),.pv .ar] (S0 (tw t)) (.pv (pq x)) (S0 (tw t)):=sl.e0 _ _
theorem add(h:(jS t [p,q]&&Hz p q==r)=true):ag aV 224 [.ptr 100000 0,.pv (pq p),.pv (pq q)] (S0 (tw t)) (.pv (pq r)) (S0 (tw t)):=by rw[abK,ad6] at h;rw[←h.2];exact tJ.e0 _ _ _ _ _ (gQ.Add h.1) (aW _)
theorem sub(h:(jS t [p,q]&&xg p q==r)=true):ag aV 220 [.ptr 100000 0,.pv (pq p),.pv (pq q)] (S0 (tw t)) (.pv (pq r)) (S0 (tw t)):=by rw[abK,ad6] at h;rw[←h.2];exact tH.e0 _ _ _ _ _ (gQ.Sub h.1) (aW _)
theorem mul(h:(jS t [p,q]&&nI t p q==r)=true):ag aV 231 [.ptr 100000 0,.pv (pq p),.pv (pq q)] (S0 (tw t)) (.pv (pq r)) (S0 (tw t)):=by rw[abK,ad6] at h;rw[←h.2];exact tK.e0 _ _ _ _ _ (gQ.Mul h.1) (aW _)
theorem div(h:(jS t [p,q,po q,HA t (po q)]&&LK t p q==r&&(if (po q).length≤1 then (po q).headD 0 else (vL (t.getD 0) (po q)).headD 0) != 0&&HB t q != 0)=true):ag aV 223 [.ptr 100000 0,.pv (pq p),.pv (pq q)] (S0 (tw t)) (.pv (pq r)) (S0 (tw t)):=by simp only[Bool.and_eq_true,beq_iff_eq,bne_iff_ne] at h;rw[←h.1.1.2];exact tI.e0 _ _ _ _ _ (gQ.Div h.1.1.1 h.1.2 h.2) (aW _)
theorem times{n:Int}(hn:bf n)(h:(decide (ht (n:Rat)≤1000)&&jS t [LJ (n:Rat),p]&&nI t (LJ (n:Rat)) p==r)=true):ag aV 221 [.ptr 100000 0,.pv (vI n),.pv (pq p)] (S0 (tw t)) (.pv (pq r)) (S0 (tw t)):=by rw[abK,abK,acW] at h;exact qJ.e0 _ n _ _ _ _ (BW.Of n hn) (gQ.Of h.1.1) (mul (by rw[abK];exact⟨h.1.2,h.2⟩))
theorem sign{s:Int}(h:(jS t [p]&&HB t p==s)=true):ag aV 217 [.ptr 100000 0,.pv (pq p)] (S0 (tw t)) (.pv (vI s)) (S0 (tw t)):=by rw[abK,ad6] at h;rw[←h.2];exact sk.e0 _ _ _ (gQ.Sign h.1)
theorem along{p v r:Pt}{k:List Rat}(h:(jS t [k,v.1,v.2,p.1,p.2,nI t k v.1,nI t k v.2]&&It p (nI t k v.1,nI t k v.2)==r)=true):ag aV 222 [.ptr 100000 0,.pv p.p.pv,.pv (pq k),.pv v.p.pv] (S0 (tw t)) (.pv r.p.pv) (S0 (tw t)):=by rw[abK,ad6] at h;rw[←h.2];have s {l:List (List Rat)} (hs:∀q∈l,q∈[k,v.1,v.2,p.1,p.2,nI t k v.1,nI t k v.2]):=gQ.ct h.1 hs;exact qK.e0 _ p.p _ v.p _ _ _ _ (mul (by rw[abK,ad6];exact⟨s (by simp),rfl⟩)) (add (by rw[Bool.and_eq_true,beq_iff_eq];exact⟨s (by simp),rfl⟩)) (mul (by rw[Bool.and_eq_true,beq_iff_eq];exact⟨s (by simp),rfl⟩)) (add (by rw[Bool.and_eq_true,beq_iff_eq];exact⟨s (by simp),rfl⟩))
theorem Xj{d:Rat}(h:ht d≤1000):ag aV 268 [.ptr 100000 0] (S0 (tw (some d))) (.pv (tw (some d)).pv) (S0 (tw (some d))):=by
 have a:=QF.NM d (by omega);have:=hH.e0 (tw (some d)) (hH.eu (tw (some d)) 0 [] [bw d] rfl (by simp[tw]) rfl (hH.yn [] (tw (some d)) 0 [bw d] 0 [] (bw d) (bw d) rfl (by simp) rfl a (by simp) (by omega)
  (hH.zf [bw d] (tw (some d)) 0 [bw d] 1 [] rfl (by simp) (by simp) (by omega) (hH.dp (tw (some d)) 1 [[bw d]] rfl rfl (by simp[tw])))))
 exact ag.pE (pre:=[(2,(.lit [(.pv (an lR [[bw d]]))]))]) (post:=S0 (tw (some d))) this rfl rfl
theorem check{t:Option Rat}{a b:Ci}(h:(jS t [a.c.1,a.c.2,a.r,b.c.1,b.c.2,b.r]&&decide (0≤HB t a.r)&&decide (0≤HB t b.r))=true):Cp 215 [(tw t).pv,an cC.cells [a.p,b.p]] .ar:=by
 simp only[Bool.and_eq_true,decide_eq_true_eq] at h;have s {l:List (List Rat)} (hs:∀q∈l,q∈[a.c.1,a.c.2,a.r,b.c.1,b.c.2,b.r]):=gQ.ct h.1.1 hs;have cc:∀c:Ci,jS t [c.c.1,c.c.2,c.r]=true→Cp 227 [(tw t).pv,c.p.pv] .ar:=fun c hc =>qL.e0 _ c.p _ (FK.Check (gQ.ct hc (by simp))) (gQ.Neg (gQ.ct hc (by simp)))
 have rd:=nA.e0 (tw t) [a.p,b.p] (nA.dp _ 0 _ a.p _ (by simp) rfl (gQ.Sign (s (by simp))) h.1.2 (by omega) (nA.dp _ 1 _ b.p _ (by simp) rfl (gQ.Sign (s (by simp))) h.2 (by omega) (nA.im _ 2 _ (by simp))));exact o8.e0 _ _ (gQ.check (gQ.oy h.1.1)) (o8.eu _ 0 _ a.p (by simp) rfl (cc a (s (by simp))) (by omega) (o8.eu _ 1 _ b.p (by simp) rfl (cc b (s (by simp))) (by omega) (o8.dp _ 2 _ (by simp) rd)))
def cA:Ci:=⟨([],[1]),[9]⟩
def cB:Ci:=⟨([4],[]),[9]⟩
def m1:Pt:=([2,1/34],[1/2,2/17])
def m2:Pt:=([2, -1/34],[1/2, -2/17])
abbrev T1:Option Rat:=some 323
theorem NV:Cp 164 [(tw none).pv,cA.p.pv,cB.p.pv] (.bg [(⟨tw T1,[m1.p,m2.p]⟩:sD).pv,.ar]):=by
 have d:Cp 267 [(tw none).pv,cA.p.nS.pv,cB.p.nS.pv] (.bg [pq [17],.ar]):=by have:=FK.Ty (t:=none) (p:=cA.c) (q:=cB.c) (by decide +kernel);rwa[show OR none cA.c cB.c=[17] from by decide +kernel] at this
 have rad:ag aV 216 [.ptr 100000 0,.pv cA.p.pv,.pv cB.p.pv] (S0 (tw none)) (.pv (.bg [pq [323],pq [17]])) (S0 (tw none)) :=
  n8.e0 _ cA.p cB.p _ _ _ _ _ _ _ _ d (aW _) (add (p:=[9]) (r:=[26]) (by decide +kernel)) (sub (q:=[9]) (r:=[17]) (by decide +kernel)) (mul (p:=[9]) (r:=[153]) (by decide +kernel)) (times (n:=4) (r:=[612]) (by unfold bf;decide) (by decide +kernel)) (mul (r:=[289]) (by decide +kernel)) (sub (by decide +kernel))
 refine wW.e3 (tw none) cA.p cB.p _ _ 1 1 _ _ _ _ _ _ (Pt.p ([2],[1/2])) (tw T1) _ _ _ m1.p _ m2.p _ (check (by decide +kernel)) rad (sign (by decide +kernel)) (by decide) (sign (by decide +kernel)) (by decide)
  (sub (p:=[4]) (q:=[]) (r:=[4]) (by decide +kernel)) (sub (p:=[]) (q:=[1]) (r:=[-1]) (by decide +kernel)) (times (n:=2) (r:=[34]) (by unfold bf;decide) (by decide +kernel)) (add (p:=[9]) (r:=[26]) (by decide +kernel)) (sub (q:=[9]) (r:=[17]) (by decide +kernel)) (div (r:=[1/2]) (by decide +kernel))
  (along (t:=none) (k:=[1/2]) (p:=([],[1])) (v:=([4],[-1])) (r:=([2],[1/2])) (by decide +kernel)) (by decide)
  (pV.e0 _ _ _ _ (gQ.QV (d:=323) (by decide +kernel))) (div (t:=T1) (p:=[0,1]) (r:=[0,1/34]) (by decide +kernel)) (times (t:=T1) (n := -1) (p:=[-1]) (r:=[1]) (by unfold bf;decide) (by decide +kernel))
  (along (t:=T1) (k:=[0,1/34]) (p:=([2],[1/2])) (v:=([1],[4])) (r:=m1) (by decide +kernel)) (times (t:=T1) (n := -1) (r:=[0, -1/34]) (by unfold bf;decide) (by decide +kernel)) (along (t:=T1) (k:=[0, -1/34]) (p:=([2],[1/2])) (v:=([1],[4])) (r:=m2) (by decide +kernel))
  (tG.e0 _ _ _ (Xj (by decide +kernel)))
end BX
end Go.Proofs.YtneklnlpgfeplaaGreat.Sym
namespace Go.Proofs.YtneklnlpgfeplaaGreat.Sym
open Go Path eJ C9
open gQ (jS)
set_option linter.unusedVariables false
abbrev SV(l:aM)(g:aC)(a:aF):aY:=[(100000,(.lit [(.pv (.str l.name)),(.pv (an aK.cells l.ai)),(.pv (an az.cells l.au)),(.pv (an ax.cells l.aB)),eI g.kind,(.pv (an aj g.ai)),(.pv (an aj g.au)),eI g.bC,(.pv (an lR a.bh.roots)),(.pv (an aw.cells a.ai)),(.pv (an aj a.bq)),(.pv .ar)]))]
def Xk(t:Option Rat)(n:List Rat):Bool:=(if (po n).length≤1 then (po n).headD 0 else (vL (t.getD 0) (po n)).headD 0) != 0&&HB t n != 0
def nK(u:Rat×Rat):cw:=⟨bw u.1,bw u.2⟩
namespace My
variable {t:Option Rat}
section
variable {p q r:List Rat}
theorem aW(x:List Rat):ag aV 173 [.ptr 100000 0,.pv (pq x),.pv .ar] (S0 (tw t)) (.pv (pq x)) (S0 (tw t)):=su.e0 _ _
theorem sub(h:jS t [p,q]=true):ag aV 210 [.ptr 100000 0,.pv (pq p),.pv (pq q)] (S0 (tw t)) (.pv (pq (xg p q))) (S0 (tw t)):=tO.e0 _ _ _ _ _ (gQ.Sub h) (aW _)
theorem div(h:jS t [p,q,po q,HA t (po q)]=true)(h1:Xk t q=true):ag aV 177 [.ptr 100000 0,.pv (pq p),.pv (pq q)] (S0 (tw t)) (.pv (pq (LK t p q))) (S0 (tw t)):=by unfold Xk at h1;rw[abK,bne_iff_ne,bne_iff_ne] at h1;exact tM.e0 _ _ _ _ _ (gQ.Div h h1.1 h1.2) (aW _)
end
theorem TA{u:Rat×Rat}{l:List (List Rat)}(h:jS t l=true)(h1:[u.1]∈l)(h2:[u.2]∈l)(h3:[u.1*u.1]∈l)(h4:[u.2*u.2]∈l):Cp 214 [(nK u).pv,(nK u).pv] (bw (u.1*u.1+u.2*u.2)).pv:=by have a:=FK.BK h h1;have b:=FK.BK h h2;have c:=FK.BK h h3;have d:=FK.BK h h4;exact Fs.e0 (nK u) (nK u) _ _ _ (QF.Mul u.1 u.1 (by omega) (by omega)) (QF.Mul u.2 u.2 (by omega) (by omega)) (QF.Add _ _ (by omega) (by omega))
theorem body{u p:Rat×Rat}{w a:Pt}(v:Pt)(n d e c s:List Rat)(q:Pt)(b:Pl)(hv:JD u.1 u.2=v)(hn:LJ (u.1*u.1+u.2*u.2)=n)(hd:LL t v w=d)(he:HE t v w=e)(hc:LK t d n=c)(hs:LK t e n=s)(hq:De t c s (JD p.1 p.2)=q)
  (h:(jS t (dL t v w++(cL t v w++([d,n,po n,HA t (po n),e]++(tL t c s (JD p.1 p.2)++[a.1,a.2,q.1,q.2,[u.1],[u.2],[p.1],[p.2],[u.1*u.1],[u.2*u.2],[u.1*u.1+u.2*u.2]]))))&&Xk t n&&(b.cos==c&&b.sin==s&&b.x==xg a.1 q.1&&b.y==xg a.2 q.2))=true) :
  ag aV 158 [.ptr 100000 0,.pv (nK u).pv,.pv w.p.pv,.pv (nK p).pv,.pv a.p.pv] (S0 (tw t)) (.pv b.p.pv) (S0 (tw t)):=by
 simp only[Bool.and_eq_true,beq_iff_eq] at h;obtain⟨⟨h,h1⟩,⟨⟨e1,e2⟩,e3⟩,e4⟩:=h;rw[show b.p=⟨c.map bw,s.map bw,(xg a.1 q.1).map bw,(xg a.2 q.2).map bw⟩ from by unfold Pl.p;rw[e1,e2,e3,e4]];have S {l:List (List Rat)} (hs:∀q∈l,q∈_):=gQ.ct (m:=l) h hs;have m {x:Rat} (hx:[x]∈_):ht x≤1000:=FK.BK h hx;have sq:Cp 207 [(nK u).pv] (pq n):=by rw[←hn];exact tN.e0 _ _ _ (TA h (by simp) (by simp) (by simp) (by simp)) (gQ.Of (m (by simp)))
 have k1:=FK.Y1 (p:=v) (q:=w) (S (fun x hx=>acH _ hx));have k2:=FK.Tx (p:=v) (q:=w) (S (fun x hx=>acD _ (acH _ hx)));have k3:=FK.Tz (c:=c) (s:=s) (p:=JD p.1 p.2) (S (fun x hx=>acD _ (acD _ (acD _ (acH _ hx)))));rw[hd] at k1;rw[he] at k2;rw[hq] at k3;have o1:=FK.Of (x:=u.1) (y:=u.2) (m (by simp)) (m (by simp));rw[hv] at o1;have d1:=div (p:=d) (q:=n) (S (by simp)) h1;have d2:=div (p:=e) (q:=n) (S (by simp)) h1;rw[hc] at d1;rw[hs] at d2;exact so.e0 _ (nK u) w.p (nK p) a.p v.p _ _ _ _ _ _ _ (JD p.1 p.2).p q.p q.p _ _ o1 sq k1 (aW _) d1 k2 (aW _) d2
  (FK.Of (m (by simp)) (m (by simp))) k3 (qN.e0 _ _) (sub (S (by simp))) (sub (S (by simp)))
theorem Y2{b:Pl}{x y:Rat}{r:Pt}(h:(jS t (NU t b x y)&&US t b x y==r)=true):Cp 189 [(tw t).pv,b.p.pv,(bw x).pv,(bw y).pv] (.bg [r.p.pv,.ar]):=by rw[abK,ad6] at h;rw[←h.2];exact FK.At h.1
theorem QW:Cp 160 [(tw none).pv] (tw none).pv:=jP.e0 _ (jP.dp _ 0 [] (by simp[tw]))
theorem QX{d:Rat}(h:ht d≤1000):Cp 160 [(tw (some d)).pv] (tw (some d)).pv :=
 jP.e0 _ (jP.eu _ 0 [] [bw d] (by simp[tw]) rfl (jP.yn [] _ 0 [bw d] 0 [] (bw d) (bw d) (by simp) rfl (QF.NM d (by omega)) (by simp) (by omega) (jP.zf [bw d] _ 0 [bw d] 1 [] (by simp) (by simp) (by omega) (jP.dp _ 1 _ (by simp[tw])))))
end My
abbrev oz:aq:=⟨false,[],[]⟩
def lk:aM:=⟨(ByteArray.mk #[102,111,117,114,98,97,114]),[(⟨(ByteArray.mk #[102,114,97,109,101]),[⟨(ByteArray.mk #[79]),oz,oz⟩,⟨(ByteArray.mk #[81]),bw 4,oz⟩]⟩:aK),(⟨(ByteArray.mk #[99,114,97,110,107]),[⟨(ByteArray.mk #[79]),oz,oz⟩,⟨(ByteArray.mk #[65]),bw 1,oz⟩]⟩:aK),
 (⟨(ByteArray.mk #[99,111,117,112,108,101,114]),[⟨(ByteArray.mk #[65]),oz,oz⟩,⟨(ByteArray.mk #[66]),bw 3,oz⟩,⟨(ByteArray.mk #[80]),oz,oz⟩]⟩:aK),(⟨(ByteArray.mk #[114,111,99,107,101,114]),[⟨(ByteArray.mk #[81]),oz,oz⟩,⟨(ByteArray.mk #[66]),bw 3,oz⟩]⟩:aK)],
 [(⟨(ByteArray.mk #[111]),0,1,0,0,0,0⟩:az),(⟨(ByteArray.mk #[97]),0,2,0,1,1,0⟩:az),(⟨(ByteArray.mk #[98]),0,3,1,2,1,0⟩:az),(⟨(ByteArray.mk #[113]),0,3,0,0,1,0⟩:az)],[(⟨(ByteArray.mk #[100]),1⟩:ax)]⟩
def dU:aC:=⟨0,[1],[0],0⟩
def eL:aC:=⟨1,[2,3],[1,3,2],0⟩
def xt:bn:=⟨bw 1,false⟩
def bF:Pl:=⟨[1],[],[],[]⟩
def bK:Pl:=⟨[],[1],[],[]⟩
def RG:Pl:=⟨[2/3,1/102],[-1/6,2/51],[],[1]⟩
def RH:Pl:=⟨[-2/3,1/102],[1/6,2/51],[4],[]⟩
def JE:Pl:=⟨[2/3, -1/102],[-1/6, -2/51],[],[1]⟩
def JF:Pl:=⟨[-2/3, -1/102],[1/6, -2/51],[4],[]⟩
def bZ:Pl:=⟨[],[],[],[]⟩
def BL:aF:=⟨tw none,[bF.p,bZ.p,bZ.p,bZ.p],[]⟩
def tW:aF:=⟨tw none,[bF.p,bK.p,bZ.p,bZ.p],[1]⟩
def NW:bl:=⟨tw none,[bK.p],1⟩
def OS:bl:=⟨tw BX.T1,[RG.p,RH.p],1⟩
def OU:bl:=⟨tw BX.T1,[JE.p,JF.p], -1⟩
namespace My
theorem mark{g:aC}{a:aF}(i k:Nat)(v:aK)(m:cR)(h1:lk.ai[i]? = some v)(h2:v.points[k]? = some m):ag aV 205 [.ptr 100000 0,.pv (vI (i:Int)),.pv (vI (k:Int))] (SV lk g a) (.pv (⟨m.x,m.y⟩:cw).pv) (SV lk g a):=qO.e0 lk g a i k i v k m rfl h1 rfl h2
theorem cos:Cp 134 [xt.pv] (.bg [(bw 0).pv,.ar])∧Cp 135 [xt.pv] (.bg [(bw 1).pv,.ar]):=by have o1:=BW.Of 1 (by unfold bf;omega);have m:=QF.Mul 1 1 (by decide +kernel) (by decide +kernel);have a:=QF.Add 1 (1*1) (by decide +kernel) (by decide +kernel);have s:=QF.Sub 1 (1*1) (by decide +kernel) (by decide +kernel);have a2:=QF.Add 1 1 (by decide +kernel) (by decide +kernel);have d1:=QF.Div (1-1*1) (1+1*1) (by decide +kernel) (by decide +kernel) (by decide +kernel);have d2:=QF.Div (1+1) (1+1*1) (by decide +kernel) (by decide +kernel) (by decide +kernel);rw[show ((1:Rat)-1*1)/(1+1*1)=0 from by decide +kernel] at d1;rw[show ((1:Rat)+1)/(1+1*1)=1 from by decide +kernel] at d2;have v:=QF.Valid 1 (by decide +kernel);have k:Cp 25 [xt.pv] .ar:=oZ.e3 xt _ v rfl rfl;have d:=l6.e1 xt _ _ _ _ _ _ _ rfl o1 m a s (qH.e0 _ _ _ d1) a2 (qH.e0 _ _ _ d2);exact⟨A5.e0 _ _ _ k d,A6.e0 _ _ _ k d⟩
end My
end Go.Proofs.YtneklnlpgfeplaaGreat.Sym
namespace Go.Proofs.YtneklnlpgfeplaaGreat.Sym
open Go Path eJ C9
open gQ (jS)
open BX (T1)
set_option linter.unusedVariables false
namespace My
theorem place{g:aC}{a:aF}{t:Option Rat}(ht:a.bh=tw t)(i k:Nat)(v:aK)(n:ByteArray)(x y:Rat)(b:Pl)(r:Pt)(h1:lk.ai[i]? = some v)(h2:v.points[k]? = some ⟨n,bw x,bw y⟩)(h3:a.ai[i]? = some b.p)(h:(jS t (NU t b x y)&&US t b x y==r)=true) :
  ag aV 206 [.ptr 100000 0,.pv (vI (i:Int)),.pv (vI (k:Int))] (SV lk g a) (.pv r.p.pv) (SV lk g a) :=
 pX.e0 lk g a i k (⟨bw x,bw y⟩:cw) i b.p r.p (mark i k v _ h1 h2) rfl h3 (by rw[ht];exact Y2 h)
theorem Xl:ag aV 157 [.ptr 100000 0,.pv (vI 0),.pv (vI 1)] (SV lk dU BL) (.pv (.bg [(nK (0,0)).pv,(Pt.p ([],[])).pv])) (SV lk dU BL) :=
 kE.e0 lk dU BL 0 1 0 0 0 ⟨(ByteArray.mk #[111]),0,1,0,0,0,0⟩ (nK (0,0)) (Pt.p ([],[])) rfl rfl rfl rfl rfl (mark 1 0 _ _ rfl rfl) (place (t:=none) rfl 0 0 _ _ 0 0 bF ([],[]) rfl rfl rfl (by decide +kernel))
theorem bC:ag aV 117 [.ptr 100000 0,.pv xt.pv] (SV lk dU BL) (.pv (.bg [an bl.cells [NW],.ar])) (SV lk dU BL):=by have o1:=BW.Of 1 (by unfold bf;omega);have b:=body (t:=none) (u:=(1,0)) (p:=(0,0)) (w:=([],[1])) (a:=([],[])) ([1],[]) [1] [] [1] [] [1] ([],[]) bK (by decide +kernel) (by decide +kernel) (by decide +kernel) (by decide +kernel) (by decide +kernel) (by decide +kernel) (by decide +kernel) (by decide +kernel);have of:=FK.Of (x:=0) (y:=1) (by decide +kernel) (by decide +kernel);rw[show JD 0 1=([],[1]) from by decide +kernel] at of;exact pc.e0 lk dU BL xt (bw 0) (bw 1) 1 (nK (0,0)) (Pt.p ([],[])) (bw 1) (Pt.p ([],[1])) bK.p (tw none) cos.1 cos.2 rfl Xl o1 of b QW
def hA:fG:=⟨nK (0,0),Pt.p ([],[1]),nK (3,0)⟩
def hB:fG:=⟨nK (0,0),Pt.p ([4],[]),nK (3,0)⟩
theorem Xm:ag aV 157 [.ptr 100000 0,.pv (vI 0),.pv (vI 2)] (SV lk eL tW) (.pv (.bg [(nK (0,0)).pv,(Pt.p ([],[1])).pv])) (SV lk eL tW) :=
 kE.e0 lk eL tW 0 2 0 1 1 ⟨(ByteArray.mk #[97]),0,2,0,1,1,0⟩ (nK (0,0)) (Pt.p ([],[1])) rfl rfl rfl rfl rfl (mark 2 0 _ _ rfl rfl) (place (t:=none) rfl 1 1 _ _ 1 0 bK ([],[1]) rfl rfl rfl (by decide +kernel))
theorem Xn:ag aV 157 [.ptr 100000 0,.pv (vI 1),.pv (vI 3)] (SV lk eL tW) (.pv (.bg [(nK (0,0)).pv,(Pt.p ([4],[])).pv])) (SV lk eL tW) :=
 kE.e0 lk eL tW 1 3 1 3 3 ⟨(ByteArray.mk #[113]),0,3,0,0,1,0⟩ (nK (0,0)) (Pt.p ([4],[])) rfl rfl rfl rfl rfl (mark 3 0 _ _ rfl rfl) (place (t:=none) rfl 0 1 _ _ 4 0 bF ([4],[]) rfl rfl rfl (by decide +kernel))
theorem rrr:ag aV 161 [.ptr 100000 0] (SV lk eL tW) (.pv (.bg [hA.pv,hB.pv])) (SV lk eL tW) :=
 ss.e0 lk eL tW 2 3 (nK (0,0)) _ (nK (0,0)) _ (nK (3,0)) (nK (3,0)) rfl rfl Xm Xn
  (nW.e1 lk eL tW 2 2 2 ⟨(ByteArray.mk #[98]),0,3,1,2,1,0⟩ (nK (3,0)) rfl rfl rfl (by decide) (mark 2 1 _ _ rfl rfl))
  (nW.e0 lk eL tW 3 2 2 ⟨(ByteArray.mk #[98]),0,3,1,2,1,0⟩ (nK (3,0)) rfl rfl rfl rfl (mark 3 1 _ _ rfl rfl))
theorem Ej:Cp 163 [(nK (3,0)).pv,(nK (0,0)).pv] (nK (3,0)).pv:=by have a:=QF.Sub 3 0 (by decide +kernel) (by decide +kernel);have b:=QF.Sub 0 0 (by decide +kernel) (by decide +kernel);rw[show (3:Rat)-0=3 from by decide +kernel] at a;rw[show (0:Rat)-0=0 from by decide +kernel] at b;exact CX.e0 (nK (3,0)) (nK (0,0)) _ _ a b
theorem OV:Cp 214 [(nK (3,0)).pv,(nK (3,0)).pv] (bw 9).pv:=by have:=TA (u:=(3,0)) (t:=none) (l:=[[3],[0],[9]]) (by decide +kernel) (by simp) (by simp) (by rw[show (3:Rat)*3=9 from by decide +kernel];simp) (by rw[show (0:Rat)*0=0 from by decide +kernel];simp);rwa[show (3:Rat)*3+0*0=9 from by decide +kernel] at this
theorem TB(a:Pt):Cp 165 [(⟨nK (0,0),a.p,nK (3,0)⟩:fG).pv] (Ci.p ⟨a,[9]⟩).pv:=by have s:Cp 207 [(nK (3,0)).pv] (pq (LJ 9)):=tN.e0 _ _ _ OV (gQ.Of (by decide +kernel));rw[show LJ 9=[9] from by decide +kernel] at s;exact qM.e0 ⟨nK (0,0),a.p,nK (3,0)⟩ _ _ Ej s
theorem TC:Cp 162 [an cw.cells [nK (3,0),nK (3,0)]] (vB false):=by have g:=QF.Sign 9 (by decide +kernel);rw[show kB 9 0=1 from by decide +kernel] at g;have z:=yx.e0 (nK (3,0)) _ _ OV g;exact CW.e0 _ _ (kg.e0 _ _ (eS.e0 _ (eS.dp _ 0 (nK (3,0)) _ (by simp) rfl z rfl (by omega) (eS.dp _ 1 (nK (3,0)) _ (by simp) rfl z rfl (by omega) (eS.im _ 2 (by simp))))))
theorem put{t:Option Rat}{c a:Pt}{w:Pt}{b:Pl}(h:(jS t [c.1,c.2,a.1,a.2]&&Dd c a==w)=true)(hb:ag aV 158 [.ptr 100000 0,.pv (nK (3,0)).pv,.pv w.p.pv,.pv (nK (0,0)).pv,.pv a.p.pv] (S0 (tw t)) (.pv b.p.pv) (S0 (tw t))){bs:List fG}{d:List bl}{ps:List bp}{g i:Nat}{j:aU}{k:List aw}{l:Int}(h1:i<bs.length)(h2:bs[i]? = some ⟨nK (0,0),a.p,nK (3,0)⟩)(hk:k.length≤10)(hi:i≤10){r:PV}
  (hL:fW.bS bs d ⟨tw t,ps⟩ g (i+1) c.p j (k++[b.p]) l r):fW.bS bs d ⟨tw t,ps⟩ g i c.p j k l r:=by
 rw[abK,ad6] at h;obtain⟨h,e⟩:=h;have s1:=sub (p:=c.1) (q:=a.1) (gQ.ct h (by simp));have s2:=sub (p:=c.2) (q:=a.2) (gQ.ct h (by simp));rw[show xg c.1 a.1=w.1 from aeI Prod.fst e] at s1;rw[show xg c.2 a.2=w.2 from aeI Prod.snd e] at s2;exact fW.yn bs d ⟨tw t,ps⟩ g i c.p j k l ⟨nK (0,0),a.p,nK (3,0)⟩ _ _ (nK (3,0)) b.p h1 h2 s1 s2 Ej hb (by rw[acr];simp;omega) (by omega) hL
theorem km:Cp 166 [(⟨tw T1,[BX.m1.p,BX.m2.p]⟩:sD).pv,an fG.cells [hA,hB]] (.bg [an bl.cells [OS,OU],.ar]):=by have k:=QX (d:=323) (by decide +kernel);have m0:Cp 178 [vI ((0:Nat):Int),vI ((2:Nat):Int)] (vI 1):=xI.e1 0 2 (by decide) (by unfold bf;decide) (by unfold bf;decide);have m1:Cp 178 [vI ((1:Nat):Int),vI ((2:Nat):Int)] (vI (-1)):=xI.e1 1 2 (by decide) (by unfold bf;decide) (by unfold bf;decide);refine fW.e0 _ _ (fW.eu _ [] _ 0 BX.m1.p _ _ (by simp) rfl k m0 ?_);refine put (t:=T1) (c:=BX.m1) (a:=([],[1])) (w:=([2,1/34],[-1/2,2/17])) (b:=RG) (by decide +kernel) (body ([3],[]) [9] [6,3/34] [-3/2,6/17] [2/3,1/102] [-1/6,2/51] ([],[]) RG (by decide +kernel) (by decide +kernel) (by decide +kernel) (by decide +kernel) (by decide +kernel) (by decide +kernel) (by decide +kernel) (by decide +kernel)) (by simp) rfl (by simp) (by omega) ?_;refine put (t:=T1) (c:=BX.m1) (a:=([4],[])) (w:=([-2,1/34],[1/2,2/17])) (b:=RH) (by decide +kernel) (body ([3],[]) [9] [-6,3/34] [3/2,6/17] [-2/3,1/102] [1/6,2/51] ([],[]) RH (by decide +kernel) (by decide +kernel) (by decide +kernel) (by decide +kernel) (by decide +kernel) (by decide +kernel) (by decide +kernel) (by decide +kernel)) (by simp) rfl (by simp) (by omega) ?_;refine fW.zf _ [] _ 0 2 _ _ _ _ (by simp) (by simp) (by omega) ?_;refine fW.eu _ _ _ 1 BX.m2.p _ _ (by simp) rfl k m1 ?_;refine put (t:=T1) (c:=BX.m2) (a:=([],[1])) (w:=([2, -1/34],[-1/2, -2/17])) (b:=JE) (by decide +kernel) (body ([3],[]) [9] [6, -3/34] [-3/2, -6/17] [2/3, -1/102] [-1/6, -2/51] ([],[]) JE (by decide +kernel) (by decide +kernel) (by decide +kernel) (by decide +kernel) (by decide +kernel) (by decide +kernel) (by decide +kernel) (by decide +kernel)) (by simp) rfl (by simp) (by omega) ?_;refine put (t:=T1) (c:=BX.m2) (a:=([4],[])) (w:=([-2, -1/34],[1/2, -2/17])) (b:=JF) (by decide +kernel) (body ([3],[]) [9] [-6, -3/34] [3/2, -6/17] [-2/3, -1/102] [1/6, -2/51] ([],[]) JF (by decide +kernel) (by decide +kernel) (by decide +kernel) (by decide +kernel) (by decide +kernel) (by decide +kernel) (by decide +kernel) (by decide +kernel)) (by simp) rfl (by simp) (by omega) ?_;refine fW.zf _ _ _ 1 2 _ _ _ _ (by simp) (by simp) (by omega) ?_;exact fW.dp _ _ _ 2 (by simp)
theorem LM:ag aV 118 [.ptr 100000 0] (SV lk eL tW) (.pv (.bg [an bl.cells [OS,OU],.ar])) (SV lk eL tW) :=
 nB.e1 lk eL tW hA hB (nK (3,0)) (nK (3,0)) false BX.cA.p BX.cB.p ⟨tw T1,[BX.m1.p,BX.m2.p]⟩ [OS,OU] rrr Ej Ej TC rfl (TB _) (TB _) BX.NV km
end My
theorem yD{β:Type}{L:Nat→β→Prop}{r:β}(n:Nat)(step:∀i,i<n→L (i+1) r→L i r)(stop:L n r):L 0 r:=by
 have:∀d i,i+d=n→L i r:=fun d=>by
  induction d with
  |zero=>intro i h;rw[ad0] at h;rw[h];exact stop
  |succ d ih=>intro i h;exact step i (by omega) (ih (i+1) (by omega))
 exact this n 0 (by omega)
def NX(c:Nat):Bool:=decide (97≤c∧c≤122)||decide (65≤c∧c≤90)
def HF(s:ByteArray):Bool:=decide (1≤s.size∧s.size≤24)&&s.data.toList.all fun b=>NX b.toNat
namespace UT
theorem LN{c:Nat}(h:NX c=true):Cp 182 [.int .u8 (c:Int)] (vB true):=by
 unfold NX at h;simp at h;by_cases h1:97≤c
 ·exact rP.e0 c h1 (by omega)
 ·have:=rP.e3 c (by omega) (by omega);rwa[acf (show (c:Int)≤90 by omega)] at this
theorem Name{s:ByteArray}(h:HF s=true):Cp 82 [.str s] (vB true):=by
 unfold HF at h;rw[abK,acW,abX] at h;obtain⟨⟨h1,h2⟩,h3⟩:=h;have sz:s.data.toList.length=s.size:=by rw[adb];rfl
 have iO:∀i,i<s.size→∃b:Nat,(s.data.toList[i]?).map (fun b=>(b.toNat:Int))=some (b:Int)∧NX b=true:=fun i hi=>by have e:=abJ (l:=s.data.toList) (i:=i) (by omega);exact⟨(s.data.toList[i]'(by omega)).toNat,by rw[e];rfl,h3 _ (acj _)⟩
 have ne:s≠ByteArray.mk #[]:=fun e=>by rw[e] at h1;exact absurd h1 (by decide)
 obtain⟨b0,e0,l0⟩:=iO 0 (by omega);have w:Cp 123 [.str s] (vI (s.size:Int)):=by
  refine pd.e2 s b0 true ne e0 (LN l0) rfl ?_;have:=yD (L:=fun i r=>pd.ay s (i+1) r) (r:=vI (s.size:Int)) (s.size-1) (fun i hi hL=>by
   obtain⟨b,e,l⟩:=iO (i+1) (by omega);exact pd.eu s (i+1) b true (by omega) e (Bh.e0 b true (LN l) rfl) rfl (by omega) hL) (by
   rw[show s.size-1+1=s.size by omega];exact pd.im s s.size (abW _))
  exact this
 have:=Bf.e0 s (s.size:Int) w (by omega) rfl;rwa[acf (show (s.size:Int)≤24 by omega)] at this
theorem pw{α β:Type}{f:α→β}{l:List α}(h:l.Pairwise (fun a b=>f a≠f b)){i g:Nat}{v u:α}(hi:l[i]? = some v)(hg:(l.take i)[g]? = some u):f u≠f v:=by obtain⟨a,b⟩:=abL.1 hi;obtain⟨c,d⟩:=abL.1 hg;rw[ac8] at c;rw[List.getElem_take] at d;have:=List.pairwise_iff_getElem.1 h g i (by omega) (by omega) (by omega);rwa[b,d] at this
theorem ai{l:List aK}(hn:l.length≤100)(hd:l.Pairwise (fun a b=>a.name≠b.name))(h:∀v∈l,HF v.name=true∧v.points.length≤8∧v.points.Pairwise (fun a b=>a.name≠b.name)∧∀p∈v.points,HF p.name=true∧Cp 30 [p.x.pv] (vB true)∧Cp 30 [p.y.pv] (vB true)):Cp 83 [an aK.cells l] .ar:=by
 refine dH.e0 l (yD (L:=fun i r=>dH.ay l i r) l.length (fun i hi hL => ?_) (dH.im l _ (abW _)));have hv:=abJ hi;obtain⟨h1,h2,h3,h4⟩:=h _ (acj hi);generalize l[i]=v at hv h1 h2 h3 h4;have lt:(l.take i).length=i:=by rw[ac8];omega
 refine dH.dp l i v true hi hv (Name h1) rfl (by omega) (yD (L:=fun g r=>dH.bS l i (l.take i) (l.take i).length g v r) (l.take i).length (fun g hg hL => ?_) ?_)
 ·exact dH.zf l i _ _ g v _ hg (abJ hg) (pw hd hv (abJ hg)) (by omega) hL
 ·refine dH.SM l i _ _ _ v (abW _) h2 (yD (L:=fun c r=>dH.kf l i v c r) v.points.length (fun c hc hL => ?_) (dH.Wu l i v _ (abW _) (by omega) hL));have hp:=abJ hc;obtain⟨p1,p2,p3⟩:=h4 _ (acj hc);generalize v.points[c]=p at hp p1 p2 p3;have lt:(v.points.take c).length=c:=by rw[ac8];omega
  refine dH.P2 l i v c p true hc hp (Name p1) rfl (by omega) (yD (L:=fun g r=>dH.nv l i v c (v.points.take c) (v.points.take c).length g p r) (v.points.take c).length (fun g hg hL => ?_) ?_)
  ·exact dH.P5 l i v c _ _ g p _ hg (abJ hg) (pw h3 hp (abJ hg)) (by omega) hL
  ·exact dH.l44 l i v c _ _ _ p true true (abW _) p2 rfl p3 rfl (by omega) hL
theorem TF{i n:Int}(h:0≤i∧i<n):Cp 125 [vI i,vI n] (vB true):=by have:=Ft.e0 i n h.1;rwa[acf h.2] at this
theorem Iu(j:az)(k k1:Nat)(v v1:aK)(h0:j.kind=0)(ha:0≤j.a∧j.a<4)(hb:0≤j.b∧j.b<4)(nZ:j.a≠j.b)(h1:j.b=(k:Int))(h2:lk.ai[k]? = some v)(h3:j.a=(k1:Int))(h4:lk.ai[k1]? = some v1)(h5:0≤j.wK∧j.wK<(v1.points.length:Int))(h6:0≤j.Ni∧j.Ni<(v.points.length:Int))(h7:j.Uz=0):Cp 124 [lk.pv,j.pv] .ar :=
 yz.Wo lk j true true k v k1 v1 true true h0 (TF ha) rfl (TF hb) rfl nZ h1 h2 h3 h4 (TF h5) rfl (TF h6) rfl h7
theorem Check:Cp 47 [lk.pv] .ar:=by
 have va:∀x∈[bw 4,bw 1,bw 3,oz],Cp 30 [x.pv] (vB true):=fun x hx=>by
  have hx:x=bw 4∨x=bw 1∨x=bw 3∨x=oz:=by simpa using hx
  rcases hx with rfl|rfl|rfl|rfl
  ·exact QF.Valid _ (by decide +kernel)
  ·exact QF.Valid _ (by decide +kernel)
  ·exact QF.Valid _ (by decide +kernel)
  ·exact QF.Valid 0 (by decide +kernel)
 have bd:Cp 83 [an aK.cells lk.ai] .ar:=by
  refine ai (by decide) (by decide +kernel) (fun v hv => ?_);have cv:(decide (HF v.name=true∧v.points.length≤8∧v.points.Pairwise (fun a b=>a.name≠b.name))&&v.points.all fun p=>HF p.name)=true:=by revert v;rw[←abX];decide +kernel
  rw[abK,acW,abX] at cv;refine⟨cv.1.1,cv.1.2.1,cv.1.2.2,fun p hp=>⟨cv.2 p hp,?_⟩⟩;have mx:∀v∈lk.ai,∀p∈v.points,p.x∈[bw 4,bw 1,bw 3,oz]∧p.y∈[bw 4,bw 1,bw 3,oz]:=by simp[lk]
  exact⟨va _ (mx v hv p hp).1,va _ (mx v hv p hp).2⟩
 have jd:lk.au.Pairwise (fun a b=>a.name≠b.name):=by decide +kernel
 have jn:∀j∈lk.au,HF j.name=true:=by rw[←abX];decide +kernel
 have jo:∀j∈lk.au,Cp 124 [lk.pv,j.pv] .ar:=by
  intro j hj;have hj:j=⟨(ByteArray.mk #[111]),0,1,0,0,0,0⟩∨j=⟨(ByteArray.mk #[97]),0,2,0,1,1,0⟩∨j=⟨(ByteArray.mk #[98]),0,3,1,2,1,0⟩∨j=⟨(ByteArray.mk #[113]),0,3,0,0,1,0⟩:=by simpa[lk] using hj
  rcases hj with rfl|rfl|rfl|rfl
  ·exact Iu _ 0 1 _ _ rfl (by decide) (by decide) (by decide) rfl rfl rfl rfl (by decide) (by decide) rfl
  ·exact Iu _ 1 2 _ _ rfl (by decide) (by decide) (by decide) rfl rfl rfl rfl (by decide) (by decide) rfl
  ·exact Iu _ 2 3 _ _ rfl (by decide) (by decide) (by decide) rfl rfl rfl rfl (by decide) (by decide) rfl
  ·exact Iu _ 0 3 _ _ rfl (by decide) (by decide) (by decide) rfl rfl rfl rfl (by decide) (by decide) rfl
 have js:Cp 84 [lk.pv] .ar:=by
  refine gF.e1 lk (by decide) (yD (L:=fun i r=>gF.ay lk i r) lk.au.length (fun i hi hL => ?_) (gF.im lk _ (abW _)));have hv:=abJ hi;have h1:=jn _ (acj hi);have h2:=jo _ (acj hi);have h4:lk.au.length=4:=rfl;generalize lk.au[i]=v at hv h1 h2;refine gF.dp lk i v true hi hv (Name h1) rfl (by omega) (yD (L:=fun g r=>gF.bS lk i (lk.au.take i) (lk.au.take i).length g v r) (lk.au.take i).length (fun g hg hL => ?_) ?_)
  ·have:=hg;rw[ac8] at this;exact gF.zf lk i _ _ g v _ hg (abJ hg) (pw jd hv (abJ hg)) (by omega) hL
  ·exact gF.Rz lk i _ _ _ v (abW _) h2 (by omega) hL
 have dr:Cp 85 [lk.pv] (ee none) :=
  jf.e1 lk (by decide) (jf.dp lk 0 ⟨(ByteArray.mk #[100]),1⟩ true (by decide) rfl (Name (by decide +kernel)) rfl (by decide) (jf.UF 0 lk 0 _ _ 0 _ true (by decide) (TF (by decide)) rfl (by decide) (by decide) (jf.Wu lk 0 _ _ 0 _ (by decide) (by omega) (jf.im lk 1 (by decide)))))
 exact yy.e3 lk true none (Name (by decide +kernel)) rfl (by decide) (by decide) bd js dr
end UT
end Go.Proofs.YtneklnlpgfeplaaGreat.Sym
