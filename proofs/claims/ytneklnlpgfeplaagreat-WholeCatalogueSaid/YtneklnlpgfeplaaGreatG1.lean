/- Lemmas for the statements of this seat. -/
import Derived.Test.YtneklnlpgfeplaaGreatG0
import Derived.Test.YtneklnlpgfeplaaGreatP0
import Derived.Test.YtneklnlpgfeplaaGreatP1
namespace Go.Proofs.YtneklnlpgfeplaaGreat.Sym
open Go Path
set_option linter.unusedVariables false
abbrev ws(a:Words):SC := .pure ((a:List UInt32).map aE).flatten
namespace Mx
open eJ
theorem Valid(a:aR)(h:Fit a.db):Cp 144 [a.pv] (vB a.valid):=by
 unfold aR.valid;rw[cP];by_cases h0:a.db.length=0
 ·simp only[h0,decide_true,cond_true];exact fP.e0 a h0
 ·simp only[h0,decide_false,cond_false];obtain⟨v,hv⟩:∃v,a.db[a.db.length-1]? = some v:=⟨_,abJ (by omega)⟩;have:=fP.e1 a (a.db.length-1) v h0 (by unfold bf;omega) (by omega) hv;have e:cn a.db=((v.toNat:Int) != 0):=by
   have h1:=me hv;by_cases h2:v.toNat=0
   ·have h3:((v.toNat:Int) != 0)=false:=by simp[h2]
    rw[h3];cases hc:cn a.db with
    |true=>exact absurd h2 (h1.1 hc)
    |false=>rfl
   ·have h3:((v.toNat:Int) != 0)=true:=by simp;omega
    rw[h3];exact h1.2 h2
  rw[e];exact this
theorem db(a:aR)(h:Fit a.db):Cp 100 [a.pv] (af (words a.val.natAbs)):=by
 rw[zF];cases hv:a.valid with
 |false=>exact gB.e0 a a.valid (Valid a h) hv
 |true=>exact gB.e1 a a.valid (Valid a h) hv
theorem neg(a:aR)(h:Fit a.db):Cp 102 [a.pv] (vB (decide (a.val<0))):=by
 rw[w8];cases hv:a.valid with
 |false=>exact gC.e1 a a.valid (Valid a h) hv
 |true=>rw[acZ];exact gC.e0 a a.valid (Valid a h) hv
theorem trimmed{l:Words}{n:Nat}{v:UInt32}(hv:l[n]? = some v)(h0:v.toNat=0)(hn:n+1=l.length):nat (l.take n)=nat l:=by have:=cH hv;rw[bA (by omega),h0] at this;omega
theorem trim(a:Words)(h:a.length≤35184372088832):Cp 138 [af a] (af (words (nat a))):=by
 have loop:∀(n:Nat) (l:Words),l.length=n→n≤35184372088832→fv.ay l (af (words (nat l))):=by
  intro n
  induction n with
  |zero =>intro l hl _;have:l=[]:=abT hl;subst this;exact fv.im [] (by simp)
  |succ n ih =>
   intro l hl hb;obtain⟨v,hv⟩:∃v,l[n]? = some v:=⟨_,abJ (by omega)⟩;by_cases h0:v.toNat=0
   ·refine fv.eu l n v n (by omega) (by unfold bf;omega) (by omega) (by omega) hv h0 (by omega) (by omega) ?_;have:=ih (l.take n) (by simp;omega) (by omega);rwa[trimmed hv h0 hl.symm] at this
   ·rw[tS ((me (v:=v) (by rw[hl];exact hv)).2 h0) rfl];exact fv.dp l n v (by omega) (by unfold bf;omega) (by omega) (by omega) hv h0
 exact fv.e0 a (by simp;omega) (loop _ a rfl h)
theorem Ih(a:Words)(h:a.length≤35184372088832):ag aV 138 [.pv (af a)] [] (.row 0 0 (words (nat a)).length 1) [(0,ws (words (nat a)))]:=by
 have loop:∀(n:Nat) (l:Words),l.length=n→n≤35184372088832→eX.ay l [] (.row 0 0 (words (nat l)).length 1) [(0,ws (words (nat l)))]:=by
  intro n
  induction n with
  |zero =>intro l hl _;have:l=[]:=abT hl;subst this;exact eX.im [] rfl rfl (by simp)
  |succ n ih =>
   intro l hl hb;obtain⟨v,hv⟩:∃v,l[n]? = some v:=⟨_,abJ (by omega)⟩;by_cases h0:v.toNat=0
   ·refine eX.eu l n v n rfl (by omega) (by unfold bf;omega) (by omega) (by omega) hv h0 (by omega) (by omega) ?_;have:=ih (l.take n) (by simp;omega) (by omega);rwa[trimmed hv h0 hl.symm] at this
   ·rw[tS ((me (v:=v) (by rw[hl];exact hv)).2 h0) rfl];exact eX.dp l n v rfl rfl (by omega) (by unfold bf;omega) (by omega) (by omega) hv h0
 exact eX.e0 a (by simp;omega) (loop _ a rfl h)
theorem cut(a:Words)(h:a.length≤35184372088832):ag aV 142 [.row 100000 0 a.length 1] [(100000,ws a)] (.row 100000 0 (words (nat a)).length 1) [(100000,ws (words (nat a)))]:=by
 have loop:∀n:Nat,n≤a.length→nat (a.take n)=nat a→fJ.ay n a [(100000,ws a)] (.row 100000 0 (words (nat a)).length 1) [(100000,ws (words (nat a)))]:=by
  intro n
  induction n with
  |zero =>
   intro _ h2;have:nat a=0:=by rw[←h2];rfl
   rw[this,fw];have:=fJ.im 0 a (sin:=[(100000,ws a)]) rfl rfl (abW 0);exact this
  |succ n ih =>
   intro h1 h2;obtain⟨v,hv⟩:∃v,a[n]? = some v:=⟨_,abJ (by omega)⟩;by_cases h0:v.toNat=0
   ·refine fJ.eu _ a n v n rfl (by omega) (by unfold bf;omega) (by omega) (by omega) hv h0 (by omega) (by omega) (ih (by omega) ?_);rw[cH hv,h0] at h2;omega
   ·have e:words (nat a)=a.take (n+1):=by
     refine tS ?_ h2;refine(me (v:=v) ?_).2 h0;rw[ac8,acQ h1,aeU,ack,ac7 (by omega)];exact hv
    have:=fJ.dp (n+1) a n v (sin:=[(100000,ws a)]) rfl rfl (by omega) (by unfold bf;omega) (by omega) (by omega) hv h0;rw[e,ac8,acQ h1];exact this
 exact fJ.e0 a a.length (loop a.length (abW _) (bA (abW _)))
theorem form(neg:Bool)(m:Words)(h:m.length≤35184372088832):Cp 98 [vB neg,af m] (Sym.whole (bif neg then -(nat m:Int) else (nat m:Int))).pv:=by
 have ht:=trim m h;by_cases h0:nat m=0
 ·have:=kN.e0 neg m _ ht (by rw[h0,fw];rfl);rw[h0];cases neg<;>exact this
 ·have hl:(words (nat m)).length≠0:=by rw[Ne,dm];exact h0
  have:=kN.e1 neg m _ ht hl;cases neg with
  |false =>
   have e:decide ((nat m:Int)<0)=false:=by simp
   simp only[Sym.whole,cond_false,e,Int.natAbs_natCast];exact this
  |true =>
   have e:decide (-(nat m:Int)<0)=true:=by simp;omega
   simp only[Sym.whole,cond_true,e,Int.natAbs_neg,Int.natAbs_natCast];exact this
theorem iO(a:Words)(i:Nat):Cp 196 [af a,vI (i:Int)] (vU (wd a i)):=by
 unfold wd;cases h:a[i]? with
 |none =>have:=aeb.1 h;exact mS.e1 a i (by omega)
 |some v =>have:=(abL.1 h).1;exact mS.e0 a i i v (by omega) rfl h
theorem atR(a:Words)(i:Nat)(len:Nat)(hl:len=a.length):ag aV 196 [.row 100000 0 len 1,.pv (vI (i:Int))] [(100000,ws a)] (.pv (vU (wd a i))) [(100000,ws a)]:=by
 subst hl;unfold wd;cases h:a[i]? with
 |none =>have:=aeb.1 h;exact l4.e1 a a.length i (by omega)
 |some v =>have:=(abL.1 h).1;exact l4.e0 a a.length i i v (by omega) rfl this h
def Alike(a b:Words)(n:Nat):Prop:=∀q,n≤q→wd a q=wd b q
theorem Lm:∀(n:Nat) (a b:Words),a.length≤n→b.length≤n→(∀q,wd a q=wd b q)→nat a=nat b
 |0,a,b,ha,hb,_=>by have h1:a=[]:=abT (by omega);have h2:b=[]:=abT (by omega);rw[h1,h2]
 |n+1,a,b,ha,hb,h=>by
  have h1:=jR a 0;have h2:=jR b 0;have hw:∀(c:Words) (q:Nat),wd (c.drop 1) q=wd c (q+1):=fun c q=>by unfold wd;rw[acq,aeS]
  have:=Lm n (a.drop 1) (b.drop 1) (by simp;omega) (by simp;omega) (fun q=>by rw[hw,hw];exact h (q+1));simp only[List.drop_zero,Nat.zero_add] at h1 h2;rw[h1,h2,this,h 0]
theorem Bs{a b:Words}{n:Nat}(h:Alike a b n):nat (a.drop n)=nat (b.drop n):=by refine Lm (max (a.drop n).length (b.drop n).length) _ _ (adw _ _) (adm _ _) (fun q => ?_);have:=h (n+q) (by omega);unfold wd at this ⊢;rw[acq,acq];exact this
theorem Ii(a:Words)(k:Nat):nat a=nat (a.take k)+4294967296^k*wd a k+4294967296^(k+1)*nat (a.drop (k+1)):=by
 by_cases h:k<a.length
 ·have hv:=abJ h;rw[ov hv];exact xM a k hv
 ·rw[bA (by omega),ni (by omega),acF (by omega),show nat []=0 from rfl,afh,afh,ad0]
theorem D8{a b:Words}{k:Nat}(h:Alike a b (k+1))(cT:wd a k<wd b k):nat a<nat b:=by rw[Ii a k,Ii b k,Bs h];have h1:=ez (a.take k);have h2:=jr (show (a.take k).length≤k by simp;omega);have h3:4294967296^k*(wd a k+1)≤4294967296^k*wd b k:=ac2 _ cT;rw[ac6] at h3;omega
theorem C0{a b:Words}{n:Nat}(ha:a.length≤n)(hb:b.length≤n):Alike a b n:=fun q hq=>by rw[ni (by omega),ni (by omega)]
theorem C1{a b:Words}(h:Alike a b 0):nat a=nat b:=by have:=Bs h;simpa using this
theorem Bt{a b:Words}{n:Nat}(h:Alike a b (n+1))(he:wd a n=wd b n):Alike a b n:=fun q hq=>by
 by_cases hqn:q=n
 ·rw[hqn];exact he
 ·exact h q (by omega)
theorem compare(a b:Words)(ha:a.length<4611686018427387904)(hb:b.length<4611686018427387904):Cp 140 [af a,af b] (vI (eM (nat a) (nat b))):=by
 have loop:∀n:Nat,n<4611686018427387904→Alike a b n→dD.ay a b ((n:Int)-1) (vI (eM (nat a) (nat b))):=by
  intro n
  induction n with
  |zero =>intro _ hd;rw[D1 (by rw[C1 hd])];exact dD.ym a b _ (by omega)
  |succ n ih =>
   intro hn hd;have e:((n+1:Nat):Int)-1=(n:Int):=by omega
   have h1:=iO a n;have h2:=iO b n;rw[e];by_cases he:wd a n=wd b n
   ·exact dD.im a b _ _ _ (by omega) h1 h2 he (by unfold bf;omega) (ih (by omega) (Bt hd he))
   ·by_cases cT:wd a n<wd b n
    ·rw[rU (by have:=D8 hd cT;omega)];exact dD.eu a b _ _ _ _ _ (by omega) h1 h2 he h1 h2 cT
    ·rw[uj (by have:=D8 (a:=b) (b:=a) (fun q hq=>(hd q hq).symm) (show wd b n<wd a n by omega);omega)];exact dD.dp a b _ _ _ _ _ (by omega) h1 h2 he h1 h2 (by omega)
 exact dD.e0 a b (by unfold bf;omega) (loop _ (by omega) (C0 (adw _ _) (adm _ _)))
theorem C2(a b:Words)(len lZ:Nat)(hl:len=a.length)(IC:lZ=b.length)(ha:a.length<4611686018427387904)(hb:b.length<4611686018427387904) :
  ag aV 140 [.row 100000 0 len 1,.row 100001 0 lZ 1] [(100000,ws a),(100001,ws b)] (.pv (vI (eM (nat a) (nat b)))) [(100000,ws a),(100001,ws b)]:=by
 have loop:∀n:Nat,n<4611686018427387904→Alike a b n→da.ay len lZ ((n:Int)-1) a b [(100000,ws a),(100001,ws b)] (.pv (vI (eM (nat a) (nat b)))) [(100000,ws a),(100001,ws b)]:=by
  intro n
  induction n with
  |zero =>intro _ hd;rw[D1 (by rw[C1 hd])];exact da.ym len lZ _ a b rfl rfl (by omega)
  |succ n ih =>
   intro hn hd;have e:((n+1:Nat):Int)-1=(n:Int):=by omega
   have h1:=atR a n len hl;have h2:=atR b n lZ IC;rw[e];by_cases he:wd a n=wd b n
   ·exact da.im len lZ _ a b a _ b _ rfl (by omega) h1 h2 he (by unfold bf;omega) (ih (by omega) (Bt hd he))
   ·by_cases cT:wd a n<wd b n
    ·rw[rU (by have:=D8 hd cT;omega)];exact da.eu len lZ _ a b a _ b _ a _ b _ rfl rfl (by omega) h1 h2 he h1 h2 cT
    ·rw[uj (by have:=D8 (a:=b) (b:=a) (fun q hq=>(hd q hq).symm) (show wd b n<wd a n by omega);omega)];exact da.dp len lZ _ a b a _ b _ a _ b _ rfl rfl (by omega) h1 h2 he h1 h2 (by omega)
 exact da.e0 a len b lZ (by unfold bf;omega) (loop _ (by omega) (C0 (by omega) (by omega)))
theorem xb(l:Words)(w:UInt32):nat (l++[w])=nat l+4294967296^l.length*w.toNat:=by rw[mU];simp[nat]
theorem plus(a b:Words)(ha:a.length≤2199023255552)(hb:b.length≤2199023255552):Cp 143 [af a,af b] (af (words (nat a+nat b))):=by
 have loop:∀(j t carry:Nat) (site:Words),max a.length b.length+1-t=j→t≤max a.length b.length+1→site.length=t→carry≤1 →
   nat site+4294967296^t*carry=nat (a.take t)+nat (b.take t)→di.ay a b site carry t (af (words (nat a+nat b))):=by
  intro j
  induction j with
  |zero =>
   intro t carry site hj ht hs hc hinv;have zv:t=max a.length b.length+1:=by omega
   have Bl:nat site=nat a+nat b:=by
    rw[bA (by omega),bA (by omega)] at hinv;have h1:=ez a;have h2:=ez b;have h3:=jr (show a.length≤t-1 by omega);have h4:=jr (show b.length≤t-1 by omega);have h5:(4294967296:Nat)^t=4294967296^(t-1)*4294967296:=by rw[←acb];congr 1;omega
    have Qv:carry=0:=by
     cases carry with
     |zero=>rfl
     |succ c =>have h6:4294967296^t*1≤4294967296^t*(c+1):=ac2 _ (by omega);omega
    subst Qv;simpa using hinv
   have:=di.dp a b site carry t (words (nat site)) (by omega) (trim site (by omega));rwa[Bl] at this
  |succ j ih =>
   intro t carry site hj ht hs hc hinv;have h1:=jQ a t;have h2:=jQ b t;obtain⟨w,hw⟩:=kd ((wd a t+wd b t+carry)%4294967296) (by omega);have Jg:(2:Nat)^min 32 64=4294967296:=by decide
   refine di.eu a b site carry t _ _ (wd a t+wd b t) (wd a t+wd b t+carry) w ((wd a t+wd b t+carry)/4294967296) (by omega) (iO a t) (iO b t) (by omega) (by omega) hw.symm (by simp;omega) (by rw[Jg]) (by omega) ?_;refine ih (t+1) _ (site++[w]) (by omega) (by omega) (by simpa using hs) (by omega) ?_;rw[xb,hs,dR a t,dR b t,hw,acb,ace];have h6:4294967296^t*((wd a t+wd b t+carry)%4294967296)+4294967296^t*(4294967296*((wd a t+wd b t+carry)/4294967296))=4294967296^t*carry+4294967296^t*wd a t+4294967296^t*wd b t:=by
    rw[←ac6,←ac6,←ac6]
    congr 1
    omega
   omega
 exact di.e0 a b (by omega) (loop _ 0 0 _ rfl (by omega) rfl (by omega) (by simp[nat]))
theorem rV{p q borrow:Nat}(hp:p<4294967296)(hq:q<4294967296)(hb:borrow≤1) :
  ∃s d d1 x z nb:Nat,(4294967296+p)%18446744073709551616=s∧((s:Nat)-(q:Nat):Int)%18446744073709551616=(d:Int)∧((d:Nat)-(borrow:Nat):Int)%18446744073709551616=(d1:Int)∧d1%4294967296=x∧d1/2^min 32 64=z ∧
   ((1:Nat)-(z:Nat):Int)%18446744073709551616=(nb:Int)∧nb≤1∧x<4294967296∧x+q+borrow=p+4294967296*nb:=by
 have e:(2:Nat)^min 32 64=4294967296:=by decide
 rw[e];refine⟨4294967296+p,4294967296+p-q,4294967296+p-q-borrow,_,_,1-(4294967296+p-q-borrow)/4294967296,by omega,by omega,by omega,rfl,rfl,?_,?_,?_,?_⟩
 ·have h1:(4294967296+p-q-borrow)/4294967296≤1:=by omega
  generalize (4294967296+p-q-borrow)/4294967296=u at h1 ⊢;omega
 ·omega
 ·omega
 ·by_cases h:q+borrow≤p
  ·have h1:(4294967296+p-q-borrow)/4294967296=1:=by omega
   rw[h1];omega
  ·have h1:(4294967296+p-q-borrow)/4294967296=0:=by omega
   rw[h1];omega
theorem minus(a b:Words)(ha:a.length≤2199023255552)(Qw:nat b≤nat a):Cp 195 [af a,af b] (af (words (nat a-nat b))):=by
 have loop:∀(j t borrow:Nat) (site:Words),a.length-t=j→t≤a.length→site.length=t→borrow≤1 →
   nat site+nat (b.take t)=nat (a.take t)+4294967296^t*borrow→cY.ay a b site borrow t (af (words (nat a-nat b))):=by
  intro j
  induction j with
  |zero =>
   intro t borrow site hj ht hs hc hinv;have zv:t=a.length:=by omega
   have Bl:nat site=nat a-nat b:=by
    subst zv;rw[bA (l:=a) (by omega)] at hinv;have h1:=ez a;have h2:=ez site;rw[hs] at h2;have h3:nat (b.take a.length)=nat b:=by
     by_cases hl:b.length≤a.length
     ·exact bA hl
     ·have h4:=jg b a.length (by omega);have h5:nat (b.drop a.length)=0:=by
       refine acG fun hp => ?_
       have:=ac2 (4294967296^a.length) hp;omega
      rw[h5] at h4;omega
    have Hn:borrow=0:=by
     refine acG fun hp => ?_
     have:=ac2 (4294967296^a.length) hp;omega
    subst Hn;omega
   have:=cY.dp a b site borrow t (words (nat site)) (by omega) (trim site (by omega));rwa[Bl] at this
  |succ j ih =>
   intro t borrow site hj ht hs hc hinv;obtain⟨s,d,d1,x,z,nb,g1,g2,g3,g4,g5,g6,g7,g8,g9⟩:=rV (jQ a t) (jQ b t) hc;obtain⟨w,hw⟩:=kd x g8;refine cY.eu a b site borrow t _ s _ d d1 w z nb (by omega) (iO a t) g1 (iO b t) g2 g3 (by omega) (by simp;omega) g5 g6 (by omega) ?_;refine ih (t+1) nb (site++[w]) (by omega) (by omega) (by simpa using hs) g7 ?_;rw[xb,hs,dR a t,dR b t,hw,acb,ace];have h6:4294967296^t*x+4294967296^t*wd b t+4294967296^t*borrow=4294967296^t*wd a t+4294967296^t*(4294967296*nb):=by rw[←ac6,←ac6,←ac6,g9]
   omega
 exact cY.e0 a b (loop _ 0 0 _ rfl (by omega) rfl (by omega) (by simp[nat]))
theorem FD{a b U:Words}{borrow:Nat}(hl:U.length=a.length)(Qw:nat b≤nat a)(hinv:nat (U.take a.length)+nat (b.take a.length)=nat (a.take a.length)+4294967296^a.length*borrow):nat U=nat a-nat b:=by
 rw[bA (by omega),bA (l:=a) (by omega)] at hinv;have h1:=ez a;have h2:=ez U;rw[hl] at h2;have h3:nat (b.take a.length)=nat b:=by
  by_cases hl:b.length≤a.length
  ·exact bA hl
  ·have h4:=jg b a.length (by omega);have h5:nat (b.drop a.length)=0:=by
    refine acG fun hp => ?_
    have:=ac2 (4294967296^a.length) hp;omega
   rw[h5] at h4;omega
 have Hn:borrow=0:=by
  refine acG fun hp => ?_
  have:=ac2 (4294967296^a.length) hp;omega
 subst Hn;omega
theorem C3{a b U:Words}{borrow nb t:Nat}{w:UInt32}(ht:t<a.length)(hl:U.length=a.length)(hinv:nat (U.take t)+nat (b.take t)=nat (a.take t)+4294967296^t*borrow)(h:w.toNat+wd b t+borrow=wd a t+4294967296*nb) :
  nat ((U.set t w).take (t+1))+nat (b.take (t+1))=nat (a.take (t+1))+4294967296^(t+1)*nb:=by
 rw[iK (by omega),dR a t,dR b t,acb,ace];have h6:4294967296^t*w.toNat+4294967296^t*wd b t+4294967296^t*borrow=4294967296^t*wd a t+4294967296^t*(4294967296*nb):=by rw[←ac6,←ac6,←ac6,h]
 omega
theorem uk{l:Words}{t q:Nat}{w:UInt32}(h:q≠t):wd (l.set t w) q=wd l q:=by unfold wd;rw[acY (by omega)]
theorem Ln(a b:Words)(len lZ:Nat)(hlen:len=a.length)(Lo:lZ=b.length)(ha:a.length≤2199023255553)(Qw:nat b≤nat a) :
  ∃U:Words,U.length=a.length∧nat U=nat a-nat b∧ag aV 141 [.row 100000 0 len 1,.row 100001 0 lZ 1] [(100000,ws a),(100001,ws b)] (.pv (.bg [])) [(100000,ws U),(100001,ws b)]:=by
 subst hlen;have loop:∀(j t borrow:Nat) (U:Words),a.length-t=j→t≤a.length→U.length=a.length→borrow≤1→(∀q,t≤q→wd U q=wd a q) →
   nat (U.take t)+nat (b.take t)=nat (a.take t)+4294967296^t*borrow →
   ∃V:Words,V.length=a.length∧nat V=nat a-nat b∧cX.ay a.length lZ borrow t U b [(100000,ws a),(100001,ws b)] (.pv (.bg [])) [(100000,ws V),(100001,ws b)]:=by
  intro j
  induction j with
  |zero =>
   intro t borrow U hj ht hl hb gP hinv;have zv:t=a.length:=by omega
   subst zv;exact⟨U,hl,FD hl Qw hinv,cX.dp _ _ borrow _ U b (sin:=[(100000,ws a),(100001,ws b)]) rfl rfl (abW _)⟩
  |succ j ih =>intro t borrow U hj ht hl hb gP hinv;obtain⟨s,d,d1,x,z,nb,g1,g2,g3,g4,g5,g6,g7,g8,g9⟩:=rV (jQ a t) (jQ b t) hb;obtain⟨w,hw⟩:=kd x g8;obtain⟨V,h1,h2,h3⟩:=ih (t+1) nb (U.set t w) (by omega) (by omega) (by simpa using hl) g7 (fun q hq=>by rw[uk (by omega)];exact gP q (by omega)) (C3 (by omega) hl hinv (by rw[hw];exact g9));refine⟨V,h1,h2,cX.eu _ _ borrow t U b U _ s b _ d d1 w z nb rfl (by omega) (atR U t a.length hl.symm) (by rw[gP t (abW t)];exact g1) (atR b t lZ Lo) g2 g3 (by omega) g5 g6 (by omega) (by omega) h3⟩
 obtain⟨V,h1,h2,h3⟩:=loop _ 0 0 a rfl (by omega) rfl (by omega) (fun _ _=>rfl) (by simp[nat]);exact⟨V,h1,h2,cX.e0 a a.length b lZ h3⟩
theorem C4{x y:Nat}(hx:x<4294967296)(hy:y<4294967296):((x/2)%18446744073709551616) ||| ((y*2^min 31 64)%18446744073709551616%18446744073709551616)=(y*4294967296+x)/2:=by
 have e:(2:Nat)^min 31 64=2147483648:=by decide
 rw[e,afl,acg (show x/2<18446744073709551616 by omega),acg (show y*2147483648<18446744073709551616 by omega),Nat.or_comm,acu y];have:=ae2 (i:=31) (show x/2<2^31 by omega) y;rw[show (2:Nat)^31=2147483648 from rfl] at this;rw[←this];omega
theorem C5{a U:Words}{t:Nat}{w:UInt32}(ht:t<a.length)(hl:U.length=a.length)(hinv:nat (U.take t)=(nat a/2)%4294967296^t)(hw:w.toNat=(wd a (t+1)*4294967296+wd a t)/2%4294967296) :
  nat ((U.set t w).take (t+1))=(nat a/2)%4294967296^(t+1):=by
 rw[iK (by omega),hinv,hw];have g1:nat a/2/4294967296^t=nat (a.drop t)/2:=by rw[adY,acu,←adY,tT a t (by omega)]
 have g2:nat (a.drop t)/2%4294967296=(wd a (t+1)*4294967296+wd a t)/2%4294967296:=by rw[jR a t,jR a (t+1)];generalize nat (a.drop (t+1+1))=r;generalize wd a (t+1)=y;generalize wd a t=x;omega
 have g3:=Nat.mod_mul (a:=4294967296^t) (b:=4294967296) (x:=nat a/2);rw[acb,g3,g1,g2]
theorem Lp(a:Words)(len:Nat)(hlen:len=a.length)(ha:a.length≤2199023255553) :
  ag aV 139 [.row 100000 0 len 1] [(100000,ws a)] (.row 100000 0 (words (nat a/2)).length 1) [(100000,ws (words (nat a/2)))]:=by
 subst hlen;have e1:(2:Nat)^min 1 64=2:=by decide
 have loop:∀(j t:Nat) (U:Words),a.length-t=j→t≤a.length→U.length=a.length→(∀q,t≤q→wd U q=wd a q)→nat (U.take t)=(nat a/2)%4294967296^t →
   cW.ay a.length t U [(100000,ws a)] (.row 100000 0 (words (nat a/2)).length 1) [(100000,ws (words (nat a/2)))]:=by
  intro j
  induction j with
  |zero =>
   intro t U hj ht hl gP hinv;have zv:t=a.length:=by omega
   subst zv;rw[bA (by omega),acg (adx (acJ _ _) (ez a))] at hinv;have hc:=cut U (by omega);rw[hinv,hl] at hc;have:=cW.dp a.length a.length U (words (nat a/2)) (words (nat a/2)).length (sin:=[(100000,ws a)]) rfl rfl (abW _) hc;rw[acd (abW _)] at this;exact this
  |succ j ih =>intro t U hj ht hl gP hinv;have h1:=jQ a t;have h2:=jQ a (t+1);obtain⟨w,hw⟩:=kd ((wd a (t+1)*4294967296+wd a t)/2%4294967296) (adB _ (by omega));have hA:=atR U t a.length hl.symm;have hB:=atR U (t+1) a.length hl.symm;rw[gP t (abW t)] at hA;rw[gP (t+1) (by omega)] at hB;refine cW.eu a.length t U U _ _ U _ _ ((wd a (t+1)*4294967296+wd a t)/2) w rfl (by omega) hA (by rw[e1]) (by omega) hB rfl (C4 h1 h2) hw.symm (by omega) ?_;exact ih (t+1) (U.set t w) (by omega) (by omega) (by simpa using hl) (fun q hq=>by rw[uk (by omega)];exact gP q (by omega)) (C5 (by omega) hl hinv hw)
 exact cW.e0 a a.length (loop _ 0 a rfl (by omega) rfl (fun _ _=>rfl) (by simp[nat,Nat.mod_one]))
end Mx
namespace Mx
open eJ
theorem OO(k:Nat):(4294967296:Nat)^k=2^(32*k):=by rw[Nat.pow_mul]
theorem Tf(a:Words)(t:Nat)(ht:t≤a.length):wd a t=nat a/4294967296^t%4294967296:=by rw[tT a t ht,jR a t];have:=jQ a t;omega
theorem nG{p:Nat}(hp:0<p):∃v z:UInt32,0<(words p).length∧(words p)[0]? = some v∧(v.toNat%4294967296) &&& (1%4294967296)=z.toNat∧z.toNat=p%2:=by have hl:0<(words p).length:=aeq (by rw[Ne,dm];omega);obtain⟨v,hv⟩:∃v,(words p)[0]? = some v:=⟨_,abJ hl⟩;obtain⟨z,hz⟩:=kd (p%2) (by omega);refine⟨v,z,hl,hv,?_,hz⟩;have h:=Tf (words p) 0 (by omega);rw[ov hv,aO,ae5,Nat.div_one] at h;rw[show (1:Nat)%4294967296=1 from rfl,Nat.and_one_is_mod,hz,h];omega
theorem xc{p q:Nat}(hp:p%2=0)(hq:q%2=1):Nat.gcd (p/2) q=Nat.gcd p q:=by
 have hc:Nat.Coprime 2 q:=by unfold Nat.Coprime;rw[Nat.gcd_rec,hq];rfl
 have:=Nat.Coprime.gcd_mul_left_cancel (p/2) hc;rw[←this]
 congr 1
 omega
theorem zG{p q k:Nat}(hq:0<q)(h:(words q).length≤k):(words (Nat.gcd p q)).length≤k:=abZ (dg (Nat.le_of_dvd hq (Nat.gcd_dvd_right p q))) h
theorem rW(p:Nat)(hp:(words p).length≤2199023255553):ag aV 139 [.row 100000 0 (words p).length 1] [(100000,ws (words p))] (.row 100000 0 (words (p/2)).length 1) [(100000,ws (words (p/2)))]:=by have:=Lp (words p) _ rfl hp;rwa[aO] at this
theorem FF(p q:Nat)(hp:(words p).length≤2199023255553)(Mu:q≤p):∃U:Words,U.length=(words p).length ∧
  ag aV 141 [.row 100000 0 (words p).length 1,.row 100001 0 (words q).length 1] [(100000,ws (words p)),(100001,ws (words q))] (.pv (.bg [])) [(100000,ws U),(100001,ws (words q))] ∧
  ag aV 142 [.row 100000 0 (words p).length 1] [(100000,ws U)] (.row 100000 0 (words (p-q)).length 1) [(100000,ws (words (p-q)))]:=by
 obtain⟨U,h1,h2,h3⟩:=Ln (words p) (words q) _ _ rfl rfl hp (by rw[aO,aO];exact Mu);have hc:=cut U (by omega);rw[aO,aO] at h2;rw[h2,h1] at hc;exact⟨U,h1,h3,hc⟩
theorem gcd(a b:Words)(ha:a.length≤1099511627776)(hb:b.length≤1099511627776):Cp 99 [af a,af b] (af (words (Nat.gcd (nat a) (nat b)))):=by
 have t1:=Ih a (by omega);have t2:=Ih b (by omega);have la:=rS a;have lb:=rS b;generalize nat a=A at *;generalize nat b=B at *;by_cases hA:A=0
 ·subst hA;rw[aev];exact aQ.e0 a b _ _ _ _ t1 t2 (by rw[fw];rfl) rfl
 by_cases hB:B=0
 ·subst hB;rw[ady];exact aQ.e1 a b _ _ _ _ t1 t2 (by rw[Ne,dm];exact hA) (by rw[fw];rfl) rfl
 refine aQ.e2 a b _ _ _ _ t1 t2 (by rw[Ne,dm];exact hA) (by rw[Ne,dm];exact hB) ?_;have fin:∀(j m t64 t65:Nat),t64-t65=j→t64<9223372036854775808→(words (m*2^j)).length≤1099511627776→aQ.nv (words m) t64 t65 (af (words (m*2^j))):=by
  intro j
  induction j with
  |zero =>intro m t64 t65 hj _ _;rw[ae5,adk];exact aQ.P5 _ _ _ (by omega)
  |succ j ih =>
   intro m t64 t65 hj ht hl;have e:m*2^(j+1)=(m+m)*2^j:=by rw[acb,acv,←ace];omega
   have hm:(words m).length≤1099511627776:=by refine abZ (dg ?_) hl;have:=ac2 m (acU (j+1));omega
   have hp:=plus (words m) (words m) (by omega) (by omega);rw[aO] at hp;rw[e] at hl ⊢;exact aQ.P4 _ _ _ _ (by omega) hp (by omega) (ih (m+m) t64 (t65+1) (by omega) ht hl)
 have rounds:∀(s p q tw:Nat),p+q≤s→0<q→(words p).length≤1099511627776→(words q).length≤1099511627776→tw<9223372036854775808→(words (Nat.gcd p q*2^tw)).length≤1099511627776 →
   ((p%2=1∨q%2=1)→aQ.bS (words p).length (words q).length tw (words p) (words q) (af (words (Nat.gcd p q*2^tw)))) ∧
   (0<p→(p%2=1∨q%2=1)→aQ.kf (words p).length (words q).length tw (words p) (words q) (af (words (Nat.gcd p q*2^tw)))) ∧
   (p%2=1→aQ.wN (words p).length (words q).length tw (words p) (words q) (af (words (Nat.gcd p q*2^tw)))):=by
  intro s
  induction s with
  |zero=>intro p q tw h1 h2;omega
  |succ s ih =>
   intro p q tw hs hq lp lq Ht hl;have L5:p%2=1→aQ.wN (words p).length (words q).length tw (words p) (words q) (af (words (Nat.gcd p q*2^tw))):=by
    intro hp;obtain⟨v,z,g1,g2,g3,g4⟩:=nG hq;by_cases he:q%2=0
    ·have hg:=xc (p:=q) (q:=p) he hp;have:=(ih p (q/2) tw (by omega) (by omega) lp (abZ (dg (acJ q 2)) lq) Ht (by rw[adn,hg,adn];exact hl)).2.2 hp;rw[adn,hg,adn] at this;exact aQ.YD _ _ tw _ _ v z _ _ g1 g2 g3 (by omega) (rW q (by omega)) this
    ·have hc:=C2 (words p) (words q) _ _ rfl rfl (by omega) (by omega);rw[aO,aO] at hc;by_cases cT:p<q
     ·obtain⟨U,u1,u2,u3⟩:=FF q p (by omega) (by omega);have hg:Nat.gcd (q-p) p=Nat.gcd p q:=by rw[ae6 (by omega),adn]
      have:=(ih (q-p) p tw (by omega) (by omega) (abZ (dg (Nat.sub_le q p)) lq) lp Ht (by rw[hg];exact hl)).1 (by omega);rw[hg] at this;exact aQ.YE _ _ tw _ _ v z _ _ _ U _ _ _ g1 g2 g3 (by omega) hc (by unfold eM;split<;>(try split)<;>omega) u2 u3 this
     ·obtain⟨U,u1,u2,u3⟩:=FF p q (by omega) (by omega);have hg:Nat.gcd (p-q) q=Nat.gcd p q:=ae6 (by omega);have:=(ih (p-q) q tw (by omega) hq (abZ (dg (Nat.sub_le p q)) lp) lq Ht (by rw[hg];exact hl)).1 (by omega);rw[hg] at this;exact aQ.YF _ _ tw _ _ v z _ _ _ U _ _ _ g1 g2 g3 (by omega) hc (by unfold eM;split<;>(try split)<;>omega) u2 u3 this
   have L3:0<p→(p%2=1∨q%2=1)→aQ.kf (words p).length (words q).length tw (words p) (words q) (af (words (Nat.gcd p q*2^tw))):=by
    intro hp Lq;obtain⟨v,z,g1,g2,g3,g4⟩:=nG hp;by_cases he:p%2=0
    ·have hg:=xc (p:=p) (q:=q) he (by omega);have:=(ih (p/2) q tw (by omega) hq (abZ (dg (acJ p 2)) lp) lq Ht (by rw[hg];exact hl)).2.1 (by omega) (by omega);rw[hg] at this;exact aQ.RA _ _ tw _ _ v z _ _ g1 g2 g3 (by omega) (rW p (by omega)) this
    ·exact aQ.P2 _ _ tw _ _ v z g1 g2 g3 (by omega) (L5 (by omega))
   refine⟨fun Lq => ?_,L3,L5⟩;by_cases hp:p=0
   ·subst hp;rw[aev] at hl ⊢;exact aQ.zf _ _ tw _ _ (by rw[fw];simp) rfl (fin tw q tw 0 rfl Ht hl)
   ·exact aQ.yn _ _ tw _ _ (aeq (by rw[Ne,dm];exact hp)) (L3 (by omega) Lq)
 have first:∀(s p q tw:Nat),p+q≤s→0<p→0<q→(words p).length≤1099511627776→(words q).length≤1099511627776→(words (Nat.gcd p q*2^tw)).length≤1099511627776 →
   aQ.ay (words p).length (words q).length tw (words p) (words q) (af (words (Nat.gcd p q*2^tw))):=by
  intro s
  induction s with
  |zero=>intro p q tw h1 h2;omega
  |succ s ih =>
   intro p q tw hs hp hq lp lq hl;have Ht:tw+1<9223372036854775808:=by have h1:2^tw≤Nat.gcd p q*2^tw:=Nat.le_mul_of_pos_left _ (adU _ hp);have h2:=hX (Nat.gcd p q*2^tw);rw[OO] at h2;have h3:=(aeh (a:=2) (by omega)).1 (adx h1 h2);omega
   obtain⟨v,z,g1,g2,g3,g4⟩:=nG hp;by_cases he:p%2=0
   ·obtain⟨v',z',Kf,Ad,Kg,MN⟩:=nG hq;by_cases gi:q%2=0
    ·have hg:Nat.gcd (p/2) (q/2)*2^(tw+1)=Nat.gcd p q*2^tw:=by
      have h:=Nat.gcd_mul_left 2 (p/2) (q/2);rw[show 2*(p/2)=p from by omega,show 2*(q/2)=q from by omega] at h;rw[h,acb,acu 2,ace,acu 2]
     have:=ih (p/2) (q/2) (tw+1) (by omega) (by omega) (by omega) (abZ (dg (acJ p 2)) lp) (abZ (dg (acJ q 2)) lq) (by rw[hg];exact hl);rw[hg] at this;exact aQ.eu _ _ tw _ _ v z v' z' _ _ _ _ g1 g2 g3 (by omega) Kf Ad Kg (by omega) (rW p (by omega)) (rW q (by omega)) Ht this
    ·exact aQ.dp _ _ tw _ _ v z v' z' g1 g2 g3 (by omega) Kf Ad Kg (by omega) ((rounds (p+q) p q tw (abW _) hq lp lq (by omega) hl).1 (by omega))
   ·exact aQ.im _ _ tw _ _ v z g1 g2 g3 (by omega) ((rounds (p+q) p q tw (abW _) hq lp lq (by omega) hl).1 (by omega))
 have:=first (A+B) A B 0 (abW _) (by omega) (by omega) (by omega) (by omega) (by rw[ae5,adk];exact zG (by omega) (by omega))
 rwa[ae5,adk] at this
end Mx
namespace Mx
open eJ
theorem Sign(a:aR)(h:Fit a.db):Cp 54 [a.pv] (vI (qR a.val)):=by
 have hm:=db a h;by_cases h0:a.val=0
 ·rw[h0,Br];exact ew.e0 a _ hm (by rw[h0];rfl)
 ·have hg:=neg a h;have hl:(words a.val.natAbs).length≠0:=by rw[Ne,dm];omega
  by_cases hn:a.val<0
  ·rw[D6 hn];exact ew.e1 a _ _ hm hl hg (acf hn)
  ·rw[D7 (by omega)];exact ew.e2 a _ _ hm hl hg (aci hn)
theorem Neg(a:aR)(h:Fit a.db):Cp 137 [a.pv] (Sym.whole (-a.val)).pv:=by
 have h3:=db a h;have h5:=neg a h;have la:=bI a;have hw:=form (!decide (a.val<0)) (words a.val.natAbs) (by have:(words a.val.natAbs).length≤a.db.length:=la;omega);have e:(bif !decide (a.val<0) then -(nat (words a.val.natAbs):Int) else (nat (words a.val.natAbs):Int)) = -a.val:=by
  rw[aO];by_cases h:a.val<0
  ·simp[h];omega
  ·simp[h];omega
 rw[e] at hw;exact lY.e0 a _ _ _ h5 h3 hw
theorem Add(a b:aR)(ha:Fit a.db)(hb:Fit b.db):Cp 136 [a.pv,b.pv] (Sym.whole (a.val+b.val)).pv:=by
 have h1:=db a ha;have h2:=db b hb;have h3:=neg a ha;have h4:=neg b hb;have la:(words a.val.natAbs).length≤a.db.length:=bI a;have lb:(words b.val.natAbs).length≤b.db.length:=bI b;by_cases hs:decide (a.val<0)=decide (b.val<0)
 ·have hp:=plus (words a.val.natAbs) (words b.val.natAbs) (by omega) (by omega);rw[aO,aO] at hp;have hl:=kZ (n:=a.val.natAbs+b.val.natAbs) (k:=max (words a.val.natAbs).length (words b.val.natAbs).length+1) (by
   have g1:=hX a.val.natAbs;have g2:=hX b.val.natAbs;have g3:=jr (adw (words a.val.natAbs).length (words b.val.natAbs).length);have g4:=jr (adm (words a.val.natAbs).length (words b.val.natAbs).length);rw[acb];omega)
  have hw:=form (decide (a.val<0)) (words (a.val.natAbs+b.val.natAbs)) (by omega);rw[aO] at hw;have e:(bif decide (a.val<0) then -((a.val.natAbs+b.val.natAbs:Nat):Int) else ((a.val.natAbs+b.val.natAbs:Nat):Int))=a.val+b.val:=by
   by_cases h:a.val<0
   ·have:b.val<0:=by simpa[h] using hs.symm
    simp[h];omega
   ·have:¬b.val<0:=by simpa[h] using hs.symm
    simp[h];omega
  rw[e] at hw;exact eQ.e0 a b _ _ _ _ _ _ _ h1 h2 h3 h4 hs h3 hp hw
 ·have hc:=compare (words a.val.natAbs) (words b.val.natAbs) (by omega) (by omega);rw[aO,aO] at hc;by_cases Aa:b.val.natAbs≤a.val.natAbs
  ·have hl:=minus (words a.val.natAbs) (words b.val.natAbs) (by omega) (by rw[aO,aO];exact Aa);rw[aO,aO] at hl;have hlen:=dg (show a.val.natAbs-b.val.natAbs≤a.val.natAbs by omega);have hw:=form (decide (a.val<0)) (words (a.val.natAbs-b.val.natAbs)) (by omega);rw[aO] at hw;have e:(bif decide (a.val<0) then -((a.val.natAbs-b.val.natAbs:Nat):Int) else ((a.val.natAbs-b.val.natAbs:Nat):Int))=a.val+b.val:=by
    by_cases h:a.val<0
    ·have:¬b.val<0:=by simpa[h] using hs
     simp[h];omega
    ·have:b.val<0:=by simpa[h] using hs
     simp[h];omega
   rw[e] at hw;exact eQ.e1 a b _ _ _ _ _ _ _ _ h1 h2 h3 h4 hs hc (by unfold eM;split<;>(try split)<;>omega) h3 hl hw
  ·have hl:=minus (words b.val.natAbs) (words a.val.natAbs) (by omega) (by rw[aO,aO];omega);rw[aO,aO] at hl;have hlen:=dg (show b.val.natAbs-a.val.natAbs≤b.val.natAbs by omega);have hw:=form (decide (b.val<0)) (words (b.val.natAbs-a.val.natAbs)) (by omega);rw[aO] at hw;have e:(bif decide (b.val<0) then -((b.val.natAbs-a.val.natAbs:Nat):Int) else ((b.val.natAbs-a.val.natAbs:Nat):Int))=a.val+b.val:=by
    by_cases h:b.val<0
    ·have:¬a.val<0:=by intro h';simp[h,h'] at hs
     simp[h];omega
    ·have:a.val<0:=by
      refine aco fun h' => ?_
      simp[h,h'] at hs
     simp[h];omega
   rw[e] at hw;exact eQ.e2 a b _ _ _ _ _ _ _ _ h1 h2 h3 h4 hs hc (by unfold eM;split<;>(try split)<;>omega) h4 hl hw
theorem Sub(a b:aR)(ha:Fit a.db)(hb:Fit b.db):Cp 97 [a.pv,b.pv] (Sym.whole (a.val-b.val)).pv:=by
 have h1:=Neg b hb;have h2:=Add a (Sym.whole (-b.val)) ha (by have:=bI b;show(words (-b.val).natAbs).length≤_;rw[adW];have:(words b.val.natAbs).length≤b.db.length:=this;omega)
 rw[bB,←aer] at h2;exact lX.e0 a b _ _ h1 h2
theorem Of(n:Int)(h:bf n):Cp 101 [vI n] (Sym.whole n).pv:=by
 obtain⟨g1,g2⟩:=h;have Jg:(2:Nat)^min 32 64=4294967296:=by decide
 have key:∀m:Nat,m=n.natAbs→∃w w1:UInt32,m%4294967296=w.toNat∧m/4294967296%4294967296=w1.toNat∧Cp 98 [(vB (decide (n<0))),(af [w,w1])] (Sym.whole n).pv:=by
  intro m hm;obtain⟨w,hw⟩:=kd (m%4294967296) (by omega);obtain⟨w1,Mt⟩:=kd (m/4294967296%4294967296) (by omega);refine⟨w,w1,hw.symm,Mt.symm,?_⟩;have:=form (decide (n<0)) [w,w1] (by simp);have e:nat [w,w1]=m:=by simp only[nat,hw,Mt];omega
  rw[e,hm] at this;have e2:(bif decide (n<0) then -(n.natAbs:Int) else (n.natAbs:Int))=n:=by
   by_cases h:n<0
   ·simp[h];omega
   ·simp[h];omega
  rw[e2] at this;exact this
 by_cases hn:n<0
 ·obtain⟨w,w1,q1,q2,q3⟩:=key n.natAbs rfl;exact mR.e0 n (n%18446744073709551616).toNat n.natAbs w _ w1 _ (by omega) hn (by omega) q1 (by rw[Jg]) q2 q3
 ·obtain⟨w,w1,q1,q2,q3⟩:=key n.natAbs rfl;exact mR.e1 n n.natAbs w _ w1 _ (by omega) (by omega) q1 (by rw[Jg]) q2 q3
theorem Et(a b:aR)(ha:a.db.length<1099511627776)(hb:b.db.length<1099511627776):Cp 50 [a.pv,b.pv] (vI (eM a.val b.val)):=by
 have h1:=Sub a b (by omega) (by omega);have h2:=Sign (Sym.whole (a.val-b.val)) (by have g1:=D5 a.val (-b.val);have g2:=bI a;have g3:=bI b;rw[pj,←aer] at g1;show wl (a.val-b.val)≤_;omega)
 rw[bB] at h2;have e:qR (a.val-b.val)=eM a.val b.val:=by unfold qR eM;split<;>split<;>(try split)<;>(try split)<;>omega
 rw[←e];exact lV.e0 a b _ _ h1 h2
theorem Gcd(a b:aR)(ha:Fit a.db)(hb:Fit b.db):Cp 51 [a.pv,b.pv] (Sym.whole (Nat.gcd a.val.natAbs b.val.natAbs)).pv:=by
 have la:(words a.val.natAbs).length≤a.db.length:=bI a;have lb:(words b.val.natAbs).length≤b.db.length:=bI b;have hg:=gcd (words a.val.natAbs) (words b.val.natAbs) (by omega) (by omega);rw[aO,aO] at hg;have hl:(words (Nat.gcd a.val.natAbs b.val.natAbs)).length≤1099511627776:=by
  by_cases h:b.val.natAbs=0
  ·rw[h,ady];omega
  ·exact zG (by omega) (by omega)
 have hw:=form false (words (Nat.gcd a.val.natAbs b.val.natAbs)) (by omega);rw[aO] at hw;exact lW.e0 a b _ _ _ _ (db a ha) (db b hb) hg hw
end Mx
end Go.Proofs.YtneklnlpgfeplaaGreat.Sym
namespace Go.Proofs.YtneklnlpgfeplaaGreat.Sym
open eJ
set_option linter.unusedVariables false
def aq.valid(a:aq):Bool :=
 bif a.num.isEmpty&&a.den.isEmpty then !a.neg else !a.num.isEmpty&&(!a.den.isEmpty&&(cn a.num&&(cn a.den&&Nat.beq (Nat.gcd (nat a.num) (nat a.den)) 1)))
def aq.val(a:aq):Rat:=bif a.valid && !a.num.isEmpty then Rat.divInt (bif a.neg then -(nat a.num:Int) else (nat a.num:Int)) (nat a.den:Int) else 0
def bw(q:Rat):aq:=bif q.num.natAbs.beq 0 then ⟨false,[],[]⟩ else ⟨decide (q.num<0),words q.num.natAbs,words q.den⟩
theorem beq_iff{a b:Nat} : Nat.beq a b=true↔a=b:=⟨abO,fun h=>by subst h;exact adr a⟩
theorem xd{a b:Nat} : Nat.beq a b=false↔a≠b:=by
 constructor
 ·intro h e;rw[beq_iff.2 e] at h;cases h
 ·intro h;cases hb:Nat.beq a b with
  |true=>exact absurd (beq_iff.1 hb) h
  |false=>rfl
theorem qS:bw 0=⟨false,[],[]⟩:=rfl
theorem rX{q:Rat}(h:q≠0):bw q=⟨decide (q.num<0),words q.num.natAbs,words q.den⟩:=by unfold bw;rw[xd.2 (by intro e;exact h (ae7.1 (by omega))),ac1]
theorem Cf{n:Nat} : (words n).isEmpty=Nat.beq n 0:=by
 by_cases h:n=0
 ·subst h;rfl
 ·rw[xd.2 h,cP];rw[aci (by rw[dm];exact h)]
theorem C6(q:Rat):(bw q).valid=true:=by
 by_cases h:q=0
 ·subst h;rfl
 ·rw[rX h];unfold aq.valid;have h1:q.num.natAbs≠0:=by intro e;exact h (ae7.1 (by omega))
  simp only[Cf,xd.2 h1,xd.2 q.den_nz,Bool.and_self,Bool.not_false,cond_false,iX,aO,Bool.true_and];exact beq_iff.2 q.reduced
theorem k8{a:aq}(hv:a.valid=true)(h0:a.num≠[]):a.den≠[]∧cn a.num=true∧cn a.den=true∧Nat.gcd (nat a.num) (nat a.den)=1:=by
 have h1:a.num.isEmpty=false:=by cases h:a.num with
  |nil=>exact absurd h h0
  |cons=>rfl
 unfold aq.valid at hv;rw[h1,ad3,ac1,ad2,acZ] at hv;simp only[Bool.and_eq_true] at hv;obtain⟨g1,g2,g3,g4⟩:=hv;refine⟨?_,g2,g3,beq_iff.1 g4⟩;intro e;rw[e] at g1;cases g1
theorem Hu{a:aq}(hv:a.valid=true)(h0:a.num=[]):a=⟨false,[],[]⟩:=by
 obtain⟨n,m,d⟩:=a;subst h0;unfold aq.valid at hv;cases d with
 |nil=>cases n with
  |false=>rfl
  |true=>cases hv
 |cons=>cases hv
theorem um{a:aq}(hv:a.valid=true)(h0:a.num≠[]):a.val.num=(bif a.neg then -(nat a.num:Int) else (nat a.num:Int))∧a.val.den=nat a.den:=by
 obtain⟨g1,g2,g3,g4⟩:=k8 hv h0;have h1:a.num.isEmpty=false:=by cases h:a.num with
  |nil=>exact absurd h h0
  |cons=>rfl
 have hd:=qt g3 g1;unfold aq.val;rw[hv,h1,ad2,Bool.and_self,abQ,aeE];have hr:Nat.Coprime (bif a.neg then -(nat a.num:Int) else (nat a.num:Int)).natAbs (nat a.den):=by cases a.neg<;>simp<;>exact g4
 rw[←Rat.mk_eq_mkRat _ _ (by omega) hr];exact⟨rfl,rfl⟩
theorem QB{a:aq}(hv:a.valid=true)(h0:a.num≠[]):a.val≠0:=by obtain⟨g1,g2,g3,g4⟩:=k8 hv h0;have:=qt g2 h0;intro e;have h:=(um hv h0).1;rw[e] at h;have h:(0:Int)=_:=h;cases hn:a.neg<;>rw[hn] at h<;>simp at h<;>omega
theorem zH{a:aq}(hv:a.valid=false):a.val=0:=by unfold aq.val;rw[hv];rfl
theorem uo{a:aq}(h:a.num=[]):a.val=0:=by unfold aq.val;rw[h];simp
theorem Ea{a:aq}(hv:a.valid=true):bw a.val=a:=by
 by_cases h0:a.num=[]
 ·rw[uo h0,Hu hv h0];rfl
 ·obtain⟨g1,g2,g3,g4⟩:=k8 hv h0;have hp:=qt g2 h0;obtain⟨e1,e2⟩:=um hv h0;rw[rX (QB hv h0),e1,e2,eH g3];obtain⟨n,m,d⟩:=a;cases n
  ·simp only[cond_false,Int.natAbs_natCast,eH g2,aq.mk.injEq,and_true,decide_eq_false_iff_not];omega
  ·simp only[cond_true,Int.natAbs_neg,Int.natAbs_natCast,eH g2,aq.mk.injEq,and_true,decide_eq_true_eq];simp only at hp;omega
theorem Ij{p q:Rat}(h:bw p=bw q):p=q:=by
 by_cases hp:p=0
 ·subst hp;by_cases hq:q=0
  ·exact hq.symm
  ·rw[qS,rX hq] at h;injection h with _ h _
   have:=ui.1 h.symm;exact absurd (ae7.1 (by omega)) hq
 ·by_cases hq:q=0
  ·subst hq;rw[qS,rX hp] at h;injection h with _ h _
   have:=ui.1 h;exact absurd (ae7.1 (by omega)) hp
  ·rw[rX hp,rX hq] at h;injection h with h1 h2 h3
   have h2:=aeI nat h2;have h3:=aeI nat h3;rw[aO,aO] at h2 h3;refine Rat.ext ?_ h3;by_cases h:p.num<0
   ·have:q.num<0:=by simpa[h] using h1.symm
    omega
   ·have:¬q.num<0:=by simpa[h] using h1.symm
    omega
theorem jx(q:Rat):(bw q).val=q:=Ij (Ea (C6 q))
def ht(q:Rat):Nat:=max (wl q.num) (wl (q.den:Int))
abbrev rY(a:aq):Prop:=a.num.length≤274877906944∧a.den.length≤274877906944
theorem kG:ht 0=1:=by decide
theorem Hv(q:Rat):1≤ht q:=by
 have h:(words q.den).length≠0:=by rw[Ne,dm];exact q.den_nz
 have:wl (q.den:Int)≤ht q:=adm _ _;have h2:wl (q.den:Int)=(words q.den).length:=rfl;omega
theorem iM(q:Rat):wl q.num≤ht q:=adw _ _
theorem kq(q:Rat):wl (q.den:Int)≤ht q:=adm _ _
theorem Ik{q:Rat}(h:ht q≤274877906944):rY (bw q):=by
 by_cases h0:q=0
 ·subst h0;constructor<;>simp[qS]
 ·rw[rX h0];exact⟨abZ (iM q) h,abZ (kq q) h⟩
theorem kS{a:aq}{k:Nat}(h1:a.num.length≤k)(h2:a.den.length≤k)(hk:1≤k):ht a.val≤k:=by
 by_cases hv:a.valid=true
 ·by_cases h0:a.num=[]
  ·rw[uo h0,kG];exact hk
  ·obtain⟨g1,g2,g3,g4⟩:=k8 hv h0;obtain⟨e1,e2⟩:=um hv h0;unfold ht;rw[e1,e2];refine Nat.max_le.2 ⟨?_,?_⟩
   ·have e:(bif a.neg then -(nat a.num:Int) else (nat a.num:Int)).natAbs=nat a.num:=by cases a.neg<;>simp
    show(words _).length≤k;rw[e,eH g2];exact h1
   ·show(words _).length≤k;rw[abY,eH g3];exact h2
 ·rw[zH (by simpa using hv),kG];exact hk
theorem vG{i j:Int}(h:i.natAbs≤j.natAbs):wl i≤wl j:=dg h
theorem C7(n d:Int):ht (Rat.divInt n d)≤max (wl n) (max (wl d) 1):=by
 by_cases hd:d=0
 ·subst hd;rw[Rat.divInt_zero,kG];omega
 ·unfold ht;refine Nat.max_le.2 ⟨abZ (vG ?_) (adw _ _),abZ (vG (j:=d) ?_) (abZ (adw _ _) (adm _ _))⟩
  ·rw[Rat.num_divInt];have h1:=Int.natAbs_ediv_of_dvd (a:=d.sign*n) (b:=(d.gcd n:Int)) (by
    exact Int.dvd_mul_of_dvd_right (Int.gcd_dvd_right d n))
   rw[h1,adX,Int.natAbs_sign_of_ne_zero hd,aef];exact acJ _ _
  ·rw[Rat.den_divInt,ac3 hd,abY];exact acJ _ _
theorem FH(n:Int)(d:Nat):ht (mkRat n d)≤max (wl n) (max (wl (d:Int)) 1):=by rw[←aeE];exact C7 n d
theorem qu(a:Rat):ht (-a)=ht a:=by unfold ht;rw[Rat.neg_num,pj,Rat.neg_den]
theorem dY(a b:Rat):ht (a*b)≤ht a+ht b:=by rw[Rat.mul_def'];have h1:=FH (a.num*b.num) (a.den*b.den);have h2:=kR a.num b.num;have h3:=kR (a.den:Int) (b.den:Int);have h4:=iM a;have h5:=kq a;have h6:=iM b;have h7:=kq b;have h8:=Hv a;rw[←adi] at h3;omega
theorem iN(a b:Rat):ht (a+b)≤ht a+ht b+1:=by rw[Rat.add_def'];have h1:=FH (a.num*b.den+b.num*a.den) (a.den*b.den);have h2:=kR a.num b.den;have h3:=kR b.num a.den;have h9:=D5 (a.num*b.den) (b.num*a.den);have cE:=kR (a.den:Int) (b.den:Int);have h4:=iM a;have h5:=kq a;have h6:=iM b;have h7:=kq b;have h8:=Hv a;rw[←adi] at cE;omega
theorem Eb(a b:Rat):ht (a-b)≤ht a+ht b+1:=by rw[Rat.sub_eq_add_neg,←qu b];exact iN a (-b)
theorem QC(a:Rat):ht a⁻¹≤ht a:=by rw[Rat.inv_def];have h1:=C7 (a.den:Int) a.num;have h4:=iM a;have h5:=kq a;have h8:=Hv a;omega
theorem xO(a b:Rat):ht (a/b)≤ht a+ht b:=by rw[Rat.div_def];have:=dY a b⁻¹;have:=QC b;omega
def kB(p q:Rat):Int:=if p<q then -1 else if p=q then 0 else 1
theorem Lr(p q:Rat):eM (p.num*q.den) (q.num*p.den)=kB p q:=by
 unfold eM kB;have h1:=Rat.lt_iff p q;have h2:p=q↔p.num*q.den=q.num*p.den:=by
  constructor
  ·intro h;subst h;rfl
  ·intro h;have g1:=(Rat.le_iff p q).2 (by omega);have g2:=(Rat.le_iff q p).2 (by omega);exact afi g1 g2
 simp only[h1,h2]
theorem QD(p:Rat):p.num<0↔p<0:=by rw[Rat.lt_iff];simp
theorem Ls(p q:Rat):qR (p-q).num=kB p q:=by
 unfold qR eM kB;have h1:(p-q).num<0↔p<q:=by rw[QD];constructor<;>intro h<;>grind
 have h2:(p-q).num=0↔p=q:=by rw[ae7];constructor<;>intro h<;>grind
 simp only[h1,h2]
theorem xP(p:Rat):qR p.num=kB p 0:=by have:=Ls p 0;rwa[show p-0=p from by grind] at this
theorem xe{p q:Rat} : kB p q<0↔p<q:=by
 unfold kB;split
 ·simp_all
 ·split
  ·simp_all
  ·simp_all
theorem jy{p q:Rat} : kB p q=0↔p=q:=by
 unfold kB;split
 ·rename_i h;constructor
  ·intro h;cases h
  ·intro e;subst e;exact absurd h (Rat.lt_irrefl)
 ·split
  ·simp_all
  ·simp_all
theorem ow{p q:Rat} : 0<kB p q↔q<p:=by
 unfold kB;split
 ·rename_i h;constructor
  ·intro h;cases h
  ·intro e;grind
 ·split
  ·rename_i h1 h;subst h;simp[Rat.lt_irrefl]
  ·rename_i h1 h2;constructor
   ·intro _;grind
   ·intro _;decide
theorem Ec{n d:Int}(hd:0<d)(g:Nat)(hg:g=Nat.gcd n.natAbs d.natAbs):(Rat.divInt n d).num=n/(g:Int)∧((Rat.divInt n d).den:Int)=d/(g:Int):=by
 have e:d.gcd n=g:=by rw[hg,adn];rfl
 refine⟨?_,?_⟩
 ·rw[Rat.num_divInt,e,Int.sign_eq_one_of_pos hd,Int.one_mul]
 ·rw[Rat.den_divInt,ac3 (by omega),e,Int.natCast_ediv,aeF (by omega)]
end Go.Proofs.YtneklnlpgfeplaaGreat.Sym
namespace Go.Proofs.YtneklnlpgfeplaaGreat.Sym.Ct
open Go
set_option linter.unusedVariables false
abbrev QT:=Rat×Bool
def gj(t:QT):Rat:=if t.2 then -1 else (1-t.1*t.1)/(1+t.1*t.1)
def sinQ(t:QT):Rat:=if t.2 then 0 else (t.1+t.1)/(1+t.1*t.1)
def Cg(p:QT×QT):Rat:=gj p.1*gj p.2+sinQ p.1*sinQ p.2
def ll(p:QT×QT):Rat×Rat×Rat:=(2*gj p.2, -(2*gj p.1), -(2*Cg p))
abbrev yB:=Rat×Rat
def tm(s:yB)(k:Rat)(x y:yB):yB:=if k<0 then (s.1+k*(x.2*y.2),s.2+k*(x.1*y.1)) else (s.1+k*(x.1*y.1),s.2+k*(x.2*y.2))
def lst(s:yB):Rat:=if 0<s.1 then s.1*s.1 else if s.2<0 then s.2*s.2 else 0
def Il(f:Rat×Rat×Rat)(g a b r:yB):yB:=tm (tm (tm (tm (tm (tm (tm (0,0) 1 g g) 1 a a) 1 r r) (-1) b b) f.1 g r) f.2.1 g a) f.2.2 a r
def Ao(g a b r:yB)(ps:List (QT×QT))(s:Rat):Rat:=ps.foldl (fun s p=>s+lst (Il (ll p) g a b r)) s
def errX(f:Rat×Rat×Rat)(g a b r:Rat):Rat:=0+1*(g*g)+1*(a*a)+1*(r*r) + -1*(b*b)+f.1*(g*r)+f.2.1*(g*a)+f.2.2*(a*r)
def Tg(v:Rat)(s:yB):Prop:=s.1≤v∧v≤s.2
def Jh(v:Rat)(s:yB):Prop:=0≤s.1∧s.1≤v∧v≤s.2
theorem Hw{u z:Rat}{x y:yB}(hu:Jh u x)(hz:Jh z y):x.1*y.1≤u*z∧u*z≤x.2*y.2:=by obtain⟨a1,a2,a3⟩:=hu;obtain⟨b1,b2,b3⟩:=hz;have e1:=aeB a2 b1;have e2:=acV b2 (adR a1 a2);have e3:=aeB a3 (adR b1 b2);have e4:=acV b3 (adR (adR a1 a2) a3);exact⟨adR e1 e2,adR e3 e4⟩
theorem Bu{v u z k:Rat}{s x y:yB}(hv:Tg v s)(hu:Jh u x)(hz:Jh z y):Tg (v+k*(u*z)) (tm s k x y):=by
 obtain⟨h1,h2⟩:=Hw hu hz;obtain⟨g1,g2⟩:=hv;unfold tm Tg;by_cases hk:k<0
 ·rw[ac7 hk];have e1:=acV h1 (show 0 ≤ -k by grind);have e2:=acV h2 (show 0 ≤ -k by grind);constructor<;>grind
 ·rw[ac3 hk];have Eo:0≤k:=aeJ.1 hk;have e1:=acV h1 Eo;have e2:=acV h2 Eo;constructor<;>grind
theorem QE{v:Rat}{s:yB}(h:Tg v s):lst s≤v*v:=by
 obtain⟨h1,h2⟩:=h;unfold lst;by_cases g1:0<s.1
 ·rw[ac7 g1];exact(Hw (u:=v) (z:=v) (x:=s) (y:=s) ⟨aeV g1,h1,h2⟩ ⟨aeV g1,h1,h2⟩).1
 ·rw[ac3 g1];by_cases g2:s.2<0
  ·rw[ac7 g2];have:=(Hw (u := -v) (z := -v) (x:=(-s.2, -s.1)) (y:=(-s.2, -s.1)) ⟨by show 0 ≤ -s.2;grind,by show -s.2 ≤ -v;grind,by show -v ≤ -s.1;grind⟩ ⟨by show 0 ≤ -s.2;grind,by show -s.2 ≤ -v;grind,by show -v ≤ -s.1;grind⟩).1;have e : -s.2 * -s.2 ≤ -v * -v:=this;grind
  ·rw[ac3 g2];by_cases hv:0≤v
   ·exact adK hv hv
   ·have:=adK (show 0 ≤ -v by grind) (show 0 ≤ -v by grind);grind
theorem QG{f:Rat×Rat×Rat}{g a b r:Rat}{sg sa sb sr:yB}(hg:Jh g sg)(ha:Jh a sa)(hb:Jh b sb)(hr:Jh r sr):Tg (errX f g a b r) (Il f sg sa sb sr) :=
 Bu (Bu (Bu (Bu (Bu (Bu (Bu ⟨aew,aew⟩ hg hg) ha ha) hr hr) hb hb) hg hr) hg ha) ha hr
theorem Th(v k u z:Rat):tm (v,v) k (u,u) (z,z)=(v+k*(u*z),v+k*(u*z)):=by unfold tm;split<;>rfl
theorem Lt(f:Rat×Rat×Rat)(g a b r:Rat):Il f (g,g) (a,a) (b,b) (r,r)=(errX f g a b r,errX f g a b r):=by unfold Il errX;simp only[Th]
theorem Lu(v:Rat):lst (v,v)=v*v:=by
 unfold lst;by_cases h1:0<v
 ·rw[ac7 h1]
 ·rw[ac3 h1];by_cases h2:v<0
  ·rw[ac7 h2]
  ·rw[ac3 h2];have:v=0:=by grind
   rw[this,Rat.mul_zero]
theorem QH{g a b r:Rat}{sg sa sb sr:yB}(hg:Jh g sg)(ha:Jh a sa)(hb:Jh b sb)(hr:Jh r sr):∀(ps:List (QT×QT)) (s t:Rat),s≤t→Ao sg sa sb sr ps s≤Ao (g,g) (a,a) (b,b) (r,r) ps t:=by
 intro ps
 induction ps with
 |nil=>exact fun s t h=>h
 |cons p ps ih =>intro s t h;refine ih _ _ ?_;show s+lst (Il (ll p) sg sa sb sr)≤t+lst (Il (ll p) (g,g) (a,a) (b,b) (r,r));rw[Lt,Lu];have:=QE (QG (f:=ll p) hg ha hb hr);grind
theorem NJ{v:Rat}(h:v*v≤0):v=0:=by
 rcases adF.1 (afi h (by
  by_cases hv:0≤v
  ·exact adK hv hv
  ·have:=adK (show 0 ≤ -v by grind) (show 0 ≤ -v by grind);grind)) with h|h<;>exact h
theorem Lv{g a b r:Rat} : ∀(ps:List (QT×QT)) (s:Rat),0≤s→(Ao (g,g) (a,a) (b,b) (r,r) ps s=0↔s=0∧∀p∈ps,errX (ll p) g a b r=0):=by
 intro ps
 induction ps with
 |nil=>intro s _;simp[Ao]
 |cons p ps ih =>
  intro s hs;have hb:Ao (g,g) (a,a) (b,b) (r,r) (p::ps) s=Ao (g,g) (a,a) (b,b) (r,r) ps (s+errX (ll p) g a b r*errX (ll p) g a b r):=by show Ao _ _ _ _ ps (s+lst (Il (ll p) (g,g) (a,a) (b,b) (r,r)))=_;rw[Lt,Lu]
  rw[hb];have Im:0≤errX (ll p) g a b r*errX (ll p) g a b r:=by
   generalize errX (ll p) g a b r=v;by_cases hv:0≤v
   ·exact adK hv hv
   ·have:=adK (show 0 ≤ -v by grind) (show 0 ≤ -v by grind);grind
  rw[ih _ (by grind)];constructor
  ·rintro ⟨h1,h2⟩
   have h3:errX (ll p) g a b r*errX (ll p) g a b r≤0:=by grind
   refine⟨by grind,fun q hq => ?_⟩;rcases ac0.1 hq with rfl|hq
   ·exact NJ h3
   ·exact h2 q hq
  ·rintro ⟨h1,h2⟩
   have h3:=h2 p (acO ..);refine⟨by rw[h1,h3,Rat.mul_zero,Rat.add_zero],fun q hq=>h2 q (acA _ hq)⟩
end Go.Proofs.YtneklnlpgfeplaaGreat.Sym.Ct
namespace Go.Proofs.YtneklnlpgfeplaaGreat.Sym
open Go Path eJ
set_option linter.unusedVariables false
theorem Bv{a:aq}(h1:a.num.length=0)(h2:a.den.length=0):a.valid = !a.neg:=by unfold aq.valid;rw[cP,cP,acf h1,acf h2];rfl
theorem Bw{a:aq}(h1:a.num.length=0)(h2:a.den.length≠0):a.valid=false:=by unfold aq.valid;rw[cP,cP,acf h1,aci h2];rfl
theorem By{a:aq}(h1:a.num.length≠0)(h2:a.den.length=0):a.valid=false:=by unfold aq.valid;rw[cP,cP,aci h1,acf h2];rfl
theorem Bz{a:aq}(h1:a.num.length≠0)(h2:a.den.length≠0):a.valid=(cn a.num&&(cn a.den&&Nat.beq (Nat.gcd (nat a.num) (nat a.den)) 1)):=by unfold aq.valid;rw[cP,cP,aci h1,aci h2];rfl
theorem vH{m:Words}(h:m.length≠0):(⟨false,m⟩:aR).valid=cn m:=by unfold aR.valid;rw[cP,aci h];rfl
theorem qT{m:Words}(h:m.length≠0)(hc:cn m=true):(⟨false,m⟩:aR).val=(nat m:Int):=by unfold aR.val;rw[vH h,hc];rfl
theorem Ed(g:Nat):(eM (g:Int) 1==0)=Nat.beq g 1:=by
 by_cases h:g=1
 ·subst h;rfl
 ·rw[xd.2 h];unfold eM;split
  ·rfl
  ·rw[ac3 (by omega)];rfl
theorem BA{a:aq}(hv:a.valid=true)(h0:a.num.length≠0):Sym.whole a.val.num=⟨a.neg,a.num⟩∧Sym.whole (a.val.den:Int)=⟨false,a.den⟩:=by
 have NK:a.num≠[]:=by intro e;rw[e] at h0;exact h0 rfl
 obtain⟨g1,g2,g3,g4⟩:=k8 hv NK;obtain⟨e1,e2⟩:=um hv NK;have hp:=qt g2 NK;rw[e1,e2];refine⟨?_,?_⟩
 ·unfold Sym.whole;cases hn:a.neg
  ·simp only[cond_false,Int.natAbs_natCast,eH g2,aR.mk.injEq,and_true,decide_eq_false_iff_not];omega
  ·simp only[cond_true,Int.natAbs_neg,Int.natAbs_natCast,eH g2,aR.mk.injEq,and_true,decide_eq_true_eq];omega
 ·unfold Sym.whole;simp only[Int.natAbs_natCast,eH g3,aR.mk.injEq,and_true,decide_eq_false_iff_not];omega
theorem BB{a b:Int}{k:Nat}(ha:wl a≤k)(hb:wl b≤k):wl ((Nat.gcd a.natAbs b.natAbs:Nat):Int)≤k:=by
 by_cases h:b=0
 ·subst h;rw[Int.natAbs_zero,ady];show(words _).length≤k;rw[abY];exact ha
 ·exact abZ (vG (by rw[abY];exact Nat.le_of_dvd (by omega) (Nat.gcd_dvd_right _ _))) hb
theorem formed{n d:Int}(hn:n≠0)(hd:0<d)(g:Nat)(hg:g=Nat.gcd n.natAbs d.natAbs):bw (Rat.divInt n d)=⟨decide (n/(g:Int)<0),(Sym.whole (n/(g:Int))).db,(Sym.whole (d/(g:Int))).db⟩:=by
 obtain⟨e1,e2⟩:=Ec (n:=n) hd g hg;have nZ:Rat.divInt n d≠0:=by
  intro e;rw[e] at e1;have e1:(0:Int)=n/(g:Int):=e1;have h1:(g:Int)∣n:=by rw[hg];exact Int.ofNat_dvd_left.2 (afa _ _)
  have:=Int.ediv_mul_cancel h1;rw[←e1] at this;omega
 rw[rX nZ,e1];unfold Sym.whole;simp only[aq.mk.injEq,true_and];rw[←e2,abY]
theorem BC{n:Int}(hn:n≠0)(g:Nat)(hg:g∣n.natAbs):decide (n/(g:Int)<0)=decide (n<0)∧(n/(g:Int)).natAbs=((n.natAbs:Int)/(g:Int)).natAbs:=by
 have h1:(g:Int)∣n:=Int.ofNat_dvd_left.2 hg;have h2:=Int.ediv_mul_cancel h1;have Nr:0<g:=Nat.pos_of_dvd_of_pos hg (by omega);refine⟨?_,?_⟩
 ·congr 1
  refine propext ⟨fun h => ?_,fun h => ?_⟩
  ·have:=Int.mul_neg_of_neg_of_pos h (show (0:Int)<g by omega);omega
  ·exact Int.ediv_neg_of_neg_of_pos h (by omega)
 ·rw[Int.natAbs_ediv_of_dvd h1,abY,←Int.natCast_ediv,abY]
namespace BW
theorem one:Cp 42 [] (Sym.whole 1).pv:=wQ.e0 _ (eJ.Of 1 (by unfold bf;omega))
theorem Valid(a:aq)(h:rY a):Cp 30 [a.pv] (vB a.valid):=by
 obtain⟨l1,l2⟩:=h;by_cases h1:a.num.length=0
 ·by_cases h2:a.den.length=0
  ·rw[Bv h1 h2];exact gd.e0 a h1 h2
  ·rw[Bw h1 h2];exact gd.e1 a h1 h2
 ·by_cases h2:a.den.length=0
  ·rw[By h1 h2];exact gd.e2 a h1 h2
  ·rw[Bz h1 h2];have v1:=eJ.Valid ⟨false,a.num⟩ (show a.num.length≤_ by omega);have v2:=eJ.Valid ⟨false,a.den⟩ (show a.den.length≤_ by omega);rw[vH h1] at v1;rw[vH h2] at v2;cases hc1:cn a.num with
   |false=>rw[ad3];exact gd.e3 a _ h1 h2 v1 hc1
   |true =>
    rw[acZ];cases F3:cn a.den with
    |false=>rw[ad3];exact gd.e4 a _ _ h1 h2 v1 hc1 v2 F3
    |true =>have hg:=eJ.Gcd ⟨false,a.num⟩ ⟨false,a.den⟩ (show a.num.length≤_ by omega) (show a.den.length≤_ by omega);rw[qT h1 hc1,qT h2 F3,abY,abY] at hg;have gl:=BB (a:=(nat a.num:Int)) (b:=(nat a.den:Int)) (k:=274877906944) (by show(words _).length≤_;rw[abY,eH hc1];exact l1) (by show(words _).length≤_;rw[abY,eH F3];exact l2);rw[abY,abY] at gl;have hc:=eJ.Et (Sym.whole (Nat.gcd (nat a.num) (nat a.den):Nat)) (Sym.whole 1) (show wl _≤_ by omega) (show wl 1≤_ by decide);rw[bB,bB] at hc;rw[acZ,←Ed];exact gd.e5 a _ _ _ _ _ h1 h2 v1 hc1 v2 F3 hg one hc
theorem qa(a:aq)(h:rY a):Cp 32 [a.pv] (.bg [(Sym.whole a.val.num).pv,(Sym.whole (a.val.den:Int)).pv]):=by
 have hv:=Valid a h;cases hc:a.valid with
 |false=>rw[zH hc];exact l5.e0 a _ _ hv hc one
 |true =>
  by_cases h0:a.num.length=0
  ·rw[uo (abT h0)];exact l5.e1 a _ _ hv hc h0 one
  ·obtain⟨e1,e2⟩:=BA hc h0;rw[e1,e2];exact l5.e2 a _ hv hc h0 (by have:=h.1;simp;omega) (by have:=h.2;simp;omega)
theorem form(n d:aR)(hn:n.db.length≤1099511627776)(hd:d.db.length≤1099511627776)(h0:d.val≠0):Cp 40 [n.pv,d.pv] (bw (Rat.divInt n.val d.val)).pv:=by
 have sn:=eJ.Sign n hn;have sd:=eJ.Sign d hd;have wn:=bI n;have wd':=bI d;by_cases hz:n.val=0
 ·rw[hz,Rat.zero_divInt];exact je.e0 n d _ sn (by rw[hz];rfl)
 ·have BV:qR n.val≠0:=by unfold qR eM;split<;>(try split)<;>omega
  by_cases hneg:d.val<0
  ·have e:Rat.divInt n.val d.val=Rat.divInt (-n.val) (-d.val):=by rw[Rat.divInt_neg',Int.neg_neg]
   have n1:=eJ.Neg n hn;have d1:=eJ.Neg d hd;have l1:(Sym.whole (-n.val)).db.length≤1099511627776:=by show wl _≤_;rw[pj];omega
   have l2:(Sym.whole (-d.val)).db.length≤1099511627776:=by show wl _≤_;rw[pj];omega
   have g:=eJ.Gcd _ _ l1 l2;rw[bB,bB] at g;have Hq:=BB (a := -n.val) (b := -d.val) (k:=1099511627776) (by rw[pj];omega) (by rw[pj];omega);have s2:=eJ.Sign _ l1;rw[bB] at s2;rw[e,formed (by omega) (by omega) _ rfl];obtain⟨f1,f2⟩:=BC (n := -n.val) (by omega) (Nat.gcd (-n.val).natAbs (-d.val).natAbs) (afa _ _);have Nr:((Nat.gcd (-n.val).natAbs (-d.val).natAbs:Nat):Int)≠0:=by have:=adU (-d.val).natAbs (show 0<(-n.val).natAbs by omega);omega
   rw[f1,show(Sym.whole (-n.val/((Nat.gcd (-n.val).natAbs (-d.val).natAbs:Nat):Int))).db=(Sym.whole (((-n.val).natAbs:Int)/((Nat.gcd (-n.val).natAbs (-d.val).natAbs:Nat):Int))).db from by unfold Sym.whole;rw[f2]];generalize hG:((Nat.gcd (-n.val).natAbs (-d.val).natAbs:Nat):Int)=G at *;have dd:=eJ.Div (Sym.whole (-d.val)) (Sym.whole G) l2 Hq (by rw[bB];exact Nr);rw[bB,bB] at dd;by_cases hs : -n.val<0
   ·have n2:=eJ.Neg _ l1;rw[bB] at n2;have dn:=eJ.Div (Sym.whole (- -n.val)) (Sym.whole G) (by show wl _≤_;rw[pj,pj];omega) Hq (by rw[bB];exact Nr);rw[bB,bB] at dn;rw[show ((-n.val).natAbs:Int) = - -n.val from by omega];have:=je.e1 n d _ _ _ _ _ _ _ _ _ none _ _ none sn BV sd (by unfold qR eM;rw[ac7 hneg];omega) n1 d1 g s2 (by unfold qR eM;rw[ac7 hs];omega) n2 dn dd;rw[show decide (qR (-n.val)<0)=decide (-n.val<0) from by unfold qR eM;rw[ac7 hs,acf hs];rfl] at this;exact this
   ·have dn:=eJ.Div (Sym.whole (-n.val)) (Sym.whole G) l1 Hq (by rw[bB];exact Nr);rw[bB,bB] at dn;rw[show ((-n.val).natAbs:Int) = -n.val from by omega];have PD:qR (-n.val)=1:=by unfold qR eM;rw[ac3 hs,ac3 (by omega)]
    have:=je.e2 n d _ _ _ _ _ _ _ _ none _ _ none sn BV sd (by unfold qR eM;rw[ac7 hneg];omega) n1 d1 g s2 (by rw[PD];omega) dn dd;rw[show decide (qR (-n.val)<0)=decide (-n.val<0) from by rw[PD,aci hs];rfl] at this;exact this
  ·have g:=eJ.Gcd _ _ hn hd;have Hq:=BB (a:=n.val) (b:=d.val) (k:=1099511627776) (by omega) (by omega);rw[formed hz (by omega) _ rfl];obtain⟨f1,f2⟩:=BC hz (Nat.gcd n.val.natAbs d.val.natAbs) (afa _ _);have Nr:((Nat.gcd n.val.natAbs d.val.natAbs:Nat):Int)≠0:=by
    have:=adU d.val.natAbs (show 0<n.val.natAbs by omega);omega
   rw[f1,show(Sym.whole (n.val/((Nat.gcd n.val.natAbs d.val.natAbs:Nat):Int))).db=(Sym.whole ((n.val.natAbs:Int)/((Nat.gcd n.val.natAbs d.val.natAbs:Nat):Int))).db from by unfold Sym.whole;rw[f2]];generalize hG:((Nat.gcd n.val.natAbs d.val.natAbs:Nat):Int)=G at *;have dd:=eJ.Div d (Sym.whole G) hd Hq (by rw[bB];exact Nr);rw[bB] at dd;have YT:0≤qR d.val:=by unfold qR eM;rw[ac3 hneg];split<;>omega
   by_cases hs:n.val<0
   ·have n2:=eJ.Neg _ hn;have dn:=eJ.Div (Sym.whole (-n.val)) (Sym.whole G) (by show wl _≤_;rw[pj];omega) Hq (by rw[bB];exact Nr);rw[bB,bB] at dn;rw[show (n.val.natAbs:Int) = -n.val from by omega];have:=je.e3 n d _ _ _ _ _ _ _ none _ _ none sn BV sd YT g sn (by unfold qR eM;rw[ac7 hs];omega) n2 dn dd;rw[show decide (qR n.val<0)=decide (n.val<0) from by unfold qR eM;rw[ac7 hs,acf hs];rfl] at this;exact this
   ·have dn:=eJ.Div n (Sym.whole G) hn Hq (by rw[bB];exact Nr);rw[bB] at dn;rw[show (n.val.natAbs:Int)=n.val from by omega];have PD:qR n.val=1:=by unfold qR eM;rw[ac3 hs,ac3 (by omega)]
    have:=je.e4 n d _ _ _ _ _ _ none _ _ none sn BV sd YT g sn (by rw[PD];omega) dn dd;rw[show decide (qR n.val<0)=decide (n.val<0) from by rw[PD,aci hs];rfl] at this;exact this
theorem Io(n d:Int)(hn:wl n≤1099511627776)(hd:wl d≤1099511627776)(h0:d≠0):Cp 40 [(Sym.whole n).pv,(Sym.whole d).pv] (bw (Rat.divInt n d)).pv:=by have:=form (Sym.whole n) (Sym.whole d) hn hd (by rw[bB];exact h0);rwa[bB,bB] at this
theorem W5(n d:aR)(hn:n.db.length≤1099511627776)(hd:d.db.length≤1099511627776)(h0:d.val≠0):Cp 108 [n.pv,d.pv] (.bg [(bw (Rat.divInt n.val d.val)).pv,.ar]) :=
 uU.e1 n d _ _ (eJ.Sign d hd) (by unfold qR eM;split<;>(try split)<;>omega) (form n d hn hd h0)
theorem Of(n:Int)(h:bf n):Cp 15 [vI n] (bw (n:Rat)).pv:=by have hw:wl n≤2:=Ll (by unfold bf at h;omega);have:=Io n 1 (by omega) (by decide) (by omega);rw[show Rat.divInt n 1=(n:Rat) from by rw[Rat.divInt_eq_div];grind] at this;exact yp.e0 n _ _ _ (eJ.Of n h) one this
theorem Neg(a:aq)(h:rY a):Cp 57 [a.pv] (bw (-a.val)).pv:=by have hp:=qa a h;have hh:=kS h.1 h.2 (by omega);have h1:=iM a.val;have h2:=kq a.val;have hn:=eJ.Neg (Sym.whole a.val.num) (show wl _≤_ by omega);rw[bB] at hn;have hf:=Io (-a.val.num) a.val.den (by rw[pj];omega) (by omega) (by have:=a.val.den_nz;omega);rw[←Rat.neg_divInt,Rat.num_divInt_den] at hf;exact wR.e0 a _ _ _ _ hp hn hf
theorem Sign(a:aq)(h:rY a):Cp 14 [a.pv] (vI (kB a.val 0)):=by have hp:=qa a h;have hh:=kS h.1 h.2 (by omega);have h1:=iM a.val;have hs:=eJ.Sign (Sym.whole a.val.num) (show wl _≤_ by omega);rw[bB,xP] at hs;exact uT.e0 a _ _ _ hp hs
theorem Add(a b:aq)(ha:rY a)(hb:rY b):Cp 58 [a.pv,b.pv] (bw (a.val+b.val)).pv:=by
 have pa:=qa a ha;have pb:=qa b hb;have la:=kS ha.1 ha.2 (by omega);have lb:=kS hb.1 hb.2 (by omega);have h1:=iM a.val;have h2:=kq a.val;have h3:=iM b.val;have h4:=kq b.val;have m1:=eJ.Mul (Sym.whole a.val.num) (Sym.whole (b.val.den:Int)) (show wl _≤_ by omega) (show wl _≤_ by omega);have m2:=eJ.Mul (Sym.whole b.val.num) (Sym.whole (a.val.den:Int)) (show wl _≤_ by omega) (show wl _≤_ by omega);have m3:=eJ.Mul (Sym.whole (a.val.den:Int)) (Sym.whole (b.val.den:Int)) (show wl _≤_ by omega) (show wl _≤_ by omega);rw[bB,bB] at m1 m2 m3;have w1:=kR a.val.num b.val.den;have w2:=kR b.val.num a.val.den;have w3:=kR (a.val.den:Int) b.val.den;have s:=eJ.Add (Sym.whole (a.val.num*b.val.den)) (Sym.whole (b.val.num*a.val.den)) (show wl _≤_ by omega) (show wl _≤_ by omega);rw[bB,bB] at s;have w4:=D5 (a.val.num*b.val.den) (b.val.num*a.val.den);have hf:=Io (a.val.num*b.val.den+b.val.num*a.val.den) ((a.val.den:Int)*(b.val.den:Int)) (by omega) (by omega) (by have:=a.val.den_nz;have:=b.val.den_nz;exact afj (by omega) (by omega))
 rw[←adi,aeE,←Rat.add_def',adi] at hf;exact wS.e0 a b _ _ _ _ _ _ _ _ _ pa pb m1 m2 s m3 hf
theorem Sub(a b:aq)(ha:rY a)(hb:rY b):Cp 70 [a.pv,b.pv] (bw (a.val-b.val)).pv:=by have hn:=Neg b hb;have lb:=kS hb.1 hb.2 (by omega);have hs:=Add a (bw (-b.val)) ha (Ik (by rw[qu];exact lb));rw[jx,←Rat.sub_eq_add_neg] at hs;exact wU.e0 a b _ _ hn hs
theorem Mul(a b:aq)(ha:rY a)(hb:rY b):Cp 35 [a.pv,b.pv] (bw (a.val*b.val)).pv:=by
 have pa:=qa a ha;have pb:=qa b hb;have la:=kS ha.1 ha.2 (by omega);have lb:=kS hb.1 hb.2 (by omega);have h1:=iM a.val;have h2:=kq a.val;have h3:=iM b.val;have h4:=kq b.val;have m1:=eJ.Mul (Sym.whole a.val.num) (Sym.whole b.val.num) (show wl _≤_ by omega) (show wl _≤_ by omega);have m3:=eJ.Mul (Sym.whole (a.val.den:Int)) (Sym.whole (b.val.den:Int)) (show wl _≤_ by omega) (show wl _≤_ by omega);rw[bB,bB] at m1 m3;have w1:=kR a.val.num b.val.num;have w3:=kR (a.val.den:Int) b.val.den;have hf:=Io (a.val.num*b.val.num) ((a.val.den:Int)*(b.val.den:Int)) (by omega) (by omega) (by have:=a.val.den_nz;have:=b.val.den_nz;exact afj (by omega) (by omega))
 rw[←adi,aeE,←Rat.mul_def',adi] at hf;exact wP.e0 a b _ _ _ _ _ _ _ pa pb m1 m3 hf
theorem Div(a b:aq)(ha:rY a)(hb:rY b)(h0:b.val≠0):Cp 69 [a.pv,b.pv] (.bg [(bw (a.val/b.val)).pv,.ar]):=by
 have pa:=qa a ha;have pb:=qa b hb;have la:=kS ha.1 ha.2 (by omega);have lb:=kS hb.1 hb.2 (by omega);have h1:=iM a.val;have h2:=kq a.val;have h3:=iM b.val;have h4:=kq b.val;have m1:=eJ.Mul (Sym.whole a.val.num) (Sym.whole (b.val.den:Int)) (show wl _≤_ by omega) (show wl _≤_ by omega);have m3:=eJ.Mul (Sym.whole (a.val.den:Int)) (Sym.whole b.val.num) (show wl _≤_ by omega) (show wl _≤_ by omega);rw[bB,bB] at m1 m3;have w1:=kR a.val.num b.val.den;have w3:=kR (a.val.den:Int) b.val.num;have hf:=W5 (Sym.whole (a.val.num*b.val.den)) (Sym.whole ((a.val.den:Int)*b.val.num)) (show wl _≤_ by omega) (show wl _≤_ by omega) (by rw[bB];have:=a.val.den_nz;refine afj (by omega) (fun e=>h0 (ae7.1 e)))
 rw[bB,bB,←Rat.divInt_mul_divInt,Rat.num_divInt_den,←Rat.inv_def,←Rat.div_def] at hf;exact wT.e0 a b _ _ _ _ _ _ _ none pa pb m1 m3 hf
theorem Et(a b:aq)(ha:rY a)(hb:rY b):Cp 11 [a.pv,b.pv] (vI (kB a.val b.val)):=by have pa:=qa a ha;have pb:=qa b hb;have la:=kS ha.1 ha.2 (by omega);have lb:=kS hb.1 hb.2 (by omega);have h1:=iM a.val;have h2:=kq a.val;have h3:=iM b.val;have h4:=kq b.val;have m1:=eJ.Mul (Sym.whole a.val.num) (Sym.whole (b.val.den:Int)) (show wl _≤_ by omega) (show wl _≤_ by omega);have m2:=eJ.Mul (Sym.whole b.val.num) (Sym.whole (a.val.den:Int)) (show wl _≤_ by omega) (show wl _≤_ by omega);rw[bB,bB] at m1 m2;have w1:=kR a.val.num b.val.den;have w2:=kR b.val.num a.val.den;have hc:=eJ.Et (Sym.whole (a.val.num*b.val.den)) (Sym.whole (b.val.num*a.val.den)) (show wl _≤_ by omega) (show wl _≤_ by omega);rw[bB,bB,Lr] at hc;exact wO.e0 a b _ _ _ _ _ _ _ pa pb m1 m2 hc
end BW
namespace Xa
theorem one:Cp 52 [] (Sym.whole 1).pv:=pU.e0 _ (Mx.Of 1 (by unfold bf;omega))
theorem plain(m:Words)(h:m.length≤274877906944):Cp 49 [af m] (vB (!m.isEmpty&&cn m)):=by
 rw[cP];by_cases h0:m.length=0
 ·rw[acf h0,adp,ad3];exact fQ.e1 m (by omega)
 ·rw[aci h0,ad2,acZ];obtain⟨v,hv⟩:∃v,m[m.length-1]? = some v:=⟨_,abJ (by omega)⟩;have:=fQ.e0 m (m.length-1) v (by omega) (by unfold bf;omega) (by omega) hv;have e:cn m=((v.toNat:Int) != 0):=by
   have h1:=me hv;by_cases h2:v.toNat=0
   ·have h3:((v.toNat:Int) != 0)=false:=by simp[h2]
    rw[h3];cases hc:cn m with
    |true=>exact absurd h2 (h1.1 hc)
    |false=>rfl
   ·have h3:((v.toNat:Int) != 0)=true:=by simp;omega
    rw[h3];exact h1.2 h2
  rw[e];exact this
theorem BD{m:Words}(h:m.length≤274877906944)(h0:m.length≠0):Cp 49 [af m] (vB (cn m)):=by have:=plain m h;rwa[cP,aci h0,ad2,acZ] at this
theorem BE{m:Words}(h0:m.length=0):Cp 49 [af m] (vB false):=by have:=plain m (by omega);rwa[cP,acf h0,adp,ad3] at this
theorem Valid(a:aq)(h:rY a):Cp 19 [a.pv] (vB a.valid):=by
 obtain⟨l1,l2⟩:=h;by_cases h1:a.num.length=0
 ·by_cases h2:a.den.length=0
  ·rw[Bv h1 h2];exact bR.e0 a h1 h2
  ·rw[Bw h1 h2];exact bR.e3 a _ h1 h2 (BE h1) rfl
 ·have p1:=BD l1 h1;by_cases h2:a.den.length=0
  ·rw[By h1 h2];cases hc1:cn a.num with
   |false=>exact bR.e6 a _ h1 p1 hc1
   |true=>exact bR.e5 a _ _ h1 p1 hc1 (BE h2) rfl
  ·have p2:=BD l2 h2;rw[Bz h1 h2];cases hc1:cn a.num with
   |false=>rw[ad3];exact bR.e6 a _ h1 p1 hc1
   |true =>
    rw[acZ];cases F3:cn a.den with
    |false=>rw[ad3];exact bR.e5 a _ _ h1 p1 hc1 p2 F3
    |true =>have hg:=Mx.Gcd ⟨false,a.num⟩ ⟨false,a.den⟩ (show a.num.length≤_ by omega) (show a.den.length≤_ by omega);rw[qT h1 hc1,qT h2 F3,abY,abY] at hg;have gl:=BB (a:=(nat a.num:Int)) (b:=(nat a.den:Int)) (k:=274877906944) (by show(words _).length≤_;rw[abY,eH hc1];exact l1) (by show(words _).length≤_;rw[abY,eH F3];exact l2);rw[abY,abY] at gl;have hc:=Mx.Et (Sym.whole (Nat.gcd (nat a.num) (nat a.den):Nat)) (Sym.whole 1) (show wl _<_ by omega) (show wl 1<_ by decide);rw[bB,bB] at hc;rw[acZ,←Ed];exact bR.e4 a _ _ _ _ _ h1 p1 hc1 p2 F3 hg one hc
theorem qa(a:aq)(h:rY a):Cp 53 [a.pv] (.bg [(Sym.whole a.val.num).pv,(Sym.whole (a.val.den:Int)).pv]):=by
 have hv:=Valid a h;cases hc:a.valid with
 |false=>rw[zH hc];exact ec.e0 a _ _ hv hc one
 |true =>
  by_cases h0:a.num.length=0
  ·rw[uo (abT h0)];exact ec.e1 a _ _ hv hc h0 one
  ·obtain⟨e1,e2⟩:=BA hc h0;rw[e1,e2];exact ec.e2 a _ hv hc h0
theorem Sign(a:aq)(h:rY a):Cp 21 [a.pv] (vI (kB a.val 0)):=by have hp:=qa a h;have hh:=kS h.1 h.2 (by omega);have h1:=iM a.val;have hs:=Mx.Sign (Sym.whole a.val.num) (show wl _≤_ by omega);rw[bB,xP] at hs;exact kP.e0 a _ _ _ hp hs
end Xa
abbrev NL(k:Nat)(p:List aq):Prop:=∀a∈p,a.num.length≤k∧a.den.length≤k
abbrev Fl(k:Nat)(q:List Rat):Prop:=∀x∈q,ht x≤k
theorem eK{q:Rat}{k:Nat}(h:ht q≤k):(bw q).num.length≤k∧(bw q).den.length≤k:=by
 by_cases h0:q=0
 ·subst h0;constructor<;>simp[qS]
 ·rw[rX h0];exact⟨abZ (iM q) h,abZ (kq q) h⟩
theorem Lw{q:List Rat}{k:Nat}(h:Fl k q):NL k (q.map bw):=by intro a ha;obtain⟨x,hx,rfl⟩:=aca.1 ha;exact eK (h x hx)
theorem zI{p q:Rat} : 0≤kB p q↔q≤p:=by
 constructor
 ·intro h;have:¬p<q:=fun e=>by have:=xe.2 e;omega
  grind
 ·intro h;refine adH.1 fun e => ?_
  have:=xe.1 e;grind
theorem Ee{p q:Rat} : kB p q≤0↔p≤q:=by
 constructor
 ·intro h;have:¬q<p:=fun e=>by have:=ow.2 e;omega
  grind
 ·intro h;refine adH.1 fun e => ?_
  have:=ow.1 e;grind
theorem drop_cons{α:Type}{l:List α}{t:Nat}{v:α}(h:l[t]? = some v):l.drop t=v::l.drop (t+1):=by obtain⟨h1,h2⟩:=abL.1 h;rw[acx h1,h2]
theorem Lx{q:Rat}(h:ht q≤68719476736):rY (bw q):=Ik (by omega)
namespace QF
theorem Add(p q:Rat)(hp:ht p≤68719476736)(hq:ht q≤68719476736):Cp 58 [(bw p).pv,(bw q).pv] (bw (p+q)).pv:=by have h:=BW.Add (bw p) (bw q) ⟨by have:=(eK hp).1;omega,by have:=(eK hp).2;omega⟩ ⟨by have:=(eK hq).1;omega,by have:=(eK hq).2;omega⟩;rwa[jx,jx] at h
theorem Sub(p q:Rat)(hp:ht p≤68719476736)(hq:ht q≤68719476736):Cp 70 [(bw p).pv,(bw q).pv] (bw (p-q)).pv:=by have h:=BW.Sub (bw p) (bw q) ⟨by have:=(eK hp).1;omega,by have:=(eK hp).2;omega⟩ ⟨by have:=(eK hq).1;omega,by have:=(eK hq).2;omega⟩;rwa[jx,jx] at h
theorem Mul(p q:Rat)(hp:ht p≤68719476736)(hq:ht q≤68719476736):Cp 35 [(bw p).pv,(bw q).pv] (bw (p*q)).pv:=by have h:=BW.Mul (bw p) (bw q) ⟨by have:=(eK hp).1;omega,by have:=(eK hp).2;omega⟩ ⟨by have:=(eK hq).1;omega,by have:=(eK hq).2;omega⟩;rwa[jx,jx] at h
theorem Et(p q:Rat)(hp:ht p≤68719476736)(hq:ht q≤68719476736):Cp 11 [(bw p).pv,(bw q).pv] (vI (kB p q)):=by have h:=BW.Et (bw p) (bw q) ⟨by have:=(eK hp).1;omega,by have:=(eK hp).2;omega⟩ ⟨by have:=(eK hq).1;omega,by have:=(eK hq).2;omega⟩;rwa[jx,jx] at h
theorem Div(p q:Rat)(hp:ht p≤68719476736)(hq:ht q≤68719476736)(h0:q≠0):Cp 69 [(bw p).pv,(bw q).pv] (.bg [(bw (p/q)).pv,.ar]):=by have h:=BW.Div (bw p) (bw q) (Lx hp) (Lx hq) (by rw[jx];exact h0);rwa[jx,jx] at h
theorem Sign(p:Rat)(hp:ht p≤68719476736):Cp 14 [(bw p).pv] (vI (kB p 0)):=by have h:=BW.Sign (bw p) (Lx hp);rwa[jx] at h
theorem Neg(p:Rat)(hp:ht p≤68719476736):Cp 57 [(bw p).pv] (bw (-p)).pv:=by have h:=BW.Neg (bw p) (Lx hp);rwa[jx] at h
theorem Valid(p:Rat)(hp:ht p≤68719476736):Cp 30 [(bw p).pv] (vB true):=by have h:=BW.Valid (bw p) (Lx hp);rwa[C6] at h
theorem NM(p:Rat)(hp:ht p≤68719476736):Cp 58 [(bw p).pv,(⟨false,[],[]⟩:aq).pv] (bw p).pv:=by have h:=Add p 0 hp (by decide);rwa[Rat.add_zero] at h
end QF
open Ct
set_option maxRecDepth 20000
namespace Ct
abbrev tR(t:QT):bn:=⟨bw t.1,t.2⟩
abbrev pR(p:QT×QT):bQ:=⟨tR p.1,tR p.2⟩
abbrev sR(s:yB):fO:=⟨bw s.1,bw s.2⟩
def NN(t:QT):Prop:=ht t.1≤1∧(t.2=true→t.1=0)
def JC(p:QT×QT):Prop:=NN p.1∧NN p.2
theorem RF:ht 1=1:=by decide
theorem OP:ht 2=1:=by decide
theorem Ti(v:Rat):0≤v*v:=by
 by_cases hv:0≤v
 ·exact adK hv hv
 ·have:=adK (show 0 ≤ -v by grind) (show 0 ≤ -v by grind);grind
theorem Ly(v:Rat):(1:Rat)+v*v≠0:=by have:=Ti v;grind
theorem qv{t:QT}(h:NN t):ht (gj t)≤8:=by
 unfold gj;split
 ·rw[qu,RF];omega
 ·have h0:=h.1;have h1:=dY t.1 t.1;have h2:=iN 1 (t.1*t.1);have h3:=Eb 1 (t.1*t.1);have h4:=xO (1-t.1*t.1) (1+t.1*t.1);rw[RF] at h2 h3;omega
theorem xQ{t:QT}(h:NN t):ht (sinQ t)≤8:=by
 unfold sinQ;split
 ·rw[kG];omega
 ·have h0:=h.1;have h1:=dY t.1 t.1;have h2:=iN 1 (t.1*t.1);have h3:=iN t.1 t.1;have h4:=xO (t.1+t.1) (1+t.1*t.1);rw[RF] at h2;omega
theorem Lz{p:QT×QT}(h:JC p):ht (Cg p)≤33:=by have h1:=dY (gj p.1) (gj p.2);have h2:=dY (sinQ p.1) (sinQ p.2);have h3:=iN (gj p.1*gj p.2) (sinQ p.1*sinQ p.2);have c1:=qv h.1;have c2:=qv h.2;have s1:=xQ h.1;have s2:=xQ h.2;unfold Cg;omega
theorem Ip{p:QT×QT}(h:JC p):ht (ll p).1≤34∧ht (ll p).2.1≤34∧ht (ll p).2.2≤34:=by
 have h1:=dY 2 (gj p.2);have h2:=dY 2 (gj p.1);have h3:=dY 2 (Cg p);rw[OP] at h1 h2 h3;have c1:=qv h.1;have c2:=qv h.2;have d:=Lz h;unfold ll;refine⟨?_,?_,?_⟩
 ·show ht (2*gj p.2)≤34;omega
 ·show ht (-(2*gj p.1))≤34;rw[qu];omega
 ·show ht (-(2*Cg p))≤34;rw[qu];omega
theorem YU:Cp 15 [vI 1] (bw 1).pv:=BW.Of 1 (by unfold bf;omega)
theorem YV:Cp 15 [vI 2] (bw 2).pv:=BW.Of 2 (by unfold bf;omega)
theorem OfM:Cp 15 [vI (-1)] (bw (-1)).pv:=BW.Of (-1) (by unfold bf;omega)
theorem vJ{t:QT}(h:NN t):Cp 25 [(tR t).pv] .ar:=by
 have hl:ht t.1≤68719476736:=by have:=h.1;omega
 cases OP:t.2 with
 |false=>exact oZ.e3 (tR t) _ (QF.Valid t.1 hl) rfl OP
 |true=>exact oZ.e2 (tR t) _ _ (QF.Valid t.1 hl) rfl OP (QF.Sign t.1 hl) (by rw[h.2 OP];rfl)
theorem Tj{t:QT}(h:NN t):Cp 194 [(tR t).pv] (.bg [(bw (gj t)).pv,(bw (sinQ t)).pv]):=by
 have h0:=h.1;cases hh:t.2 with
 |true =>
  have e1:gj t = -1:=by unfold gj;rw[ac7 hh]
  have e2:sinQ t=0:=by unfold sinQ;rw[ac7 hh]
  rw[e1,e2];exact l6.e0 (tR t) _ hh OfM
 |false =>
  have e1:gj t=(1-t.1*t.1)/(1+t.1*t.1):=by unfold gj;rw[ac3 (by rw[hh];simp)]
  have e2:sinQ t=(t.1+t.1)/(1+t.1*t.1):=by unfold sinQ;rw[ac3 (by rw[hh];simp)]
  rw[e1,e2];have h1:=dY t.1 t.1;have h2:=iN 1 (t.1*t.1);have h3:=Eb 1 (t.1*t.1);have h4:=iN t.1 t.1;have h5:=RF;exact l6.e1 (tR t) _ _ _ _ _ _ _ hh YU (QF.Mul t.1 t.1 (by omega) (by omega)) (QF.Add 1 (t.1*t.1) (by omega) (by omega)) (QF.Sub 1 (t.1*t.1) (by omega) (by omega))
   (qH.e0 _ _ _ (QF.Div _ _ (by omega) (by omega) (Ly t.1))) (QF.Add t.1 t.1 (by omega) (by omega)) (qH.e0 _ _ _ (QF.Div _ _ (by omega) (by omega) (Ly t.1)))
theorem NO{t:QT}(h:NN t):Cp 103 [(tR t).pv] (.bg [(bw (gj t)).pv,(bw (sinQ t)).pv,.ar]) :=
 tz.e0 (tR t) _ _ (vJ h) (A5.e0 (tR t) _ _ (vJ h) (Tj h)) (A6.e0 (tR t) _ _ (vJ h) (Tj h))
abbrev fR(f:Rat×Rat×Rat):oP:=⟨bw f.1,bw f.2.1,bw f.2.2⟩
theorem of'{p:QT×QT}(h:JC p):Cp 55 [(pR p).pv] (.bg [(fR (ll p)).pv,.ar]):=by have c1:=qv h.1;have c2:=qv h.2;have s1:=xQ h.1;have s2:=xQ h.2;have h1:=dY (gj p.1) (gj p.2);have h2:=dY (sinQ p.1) (sinQ p.2);have h3:=iN (gj p.1*gj p.2) (sinQ p.1*sinQ p.2);have h4:=OP;have h5:=dY 2 (gj p.1);have h6:=dY 2 (gj p.1*gj p.2+sinQ p.1*sinQ p.2);exact wV.e0 (pR p) _ _ _ _ _ _ _ _ _ _ _ _ _ (NO h.1) (NO h.2) YV (QF.Mul _ _ (by omega) (by omega)) (QF.Mul _ _ (by omega) (by omega)) (QF.Add _ _ (by omega) (by omega)) (QF.Mul _ _ (by omega) (by omega)) (QF.Mul _ _ (by omega) (by omega)) (QF.Neg _ (by omega)) (QF.Mul _ _ (by omega) (by omega)) (QF.Neg _ (by omega))
def Hs(n:Nat)(s:yB):Prop:=ht s.1≤n∧ht s.2≤n
theorem Tk{s:yB}{u v:Rat}{n:Nat}(hs:Hs n s)(hn:n≤10000)(hu:ht u≤10000)(hv:ht v≤10000):Cp 104 [(sR s).pv,(bw u).pv,(bw v).pv] (sR (s.1+u,s.2+v)).pv:=by obtain⟨a,b⟩:=hs;exact o6.e0 (sR s) _ _ _ _ (QF.Add _ _ (by omega) (by omega)) (QF.Add _ _ (by omega) (by omega))
theorem qb{s x y:yB}{k:Rat}{n:Nat}(hs:Hs n s)(hk:ht k≤34)(hx:Hs 1 x)(hy:Hs 1 y):Hs (n+37) (tm s k x y):=by
 obtain⟨a,b⟩:=hs;obtain⟨x1,x2⟩:=hx;obtain⟨y1,y2⟩:=hy;have m1:=dY x.1 y.1;have m2:=dY x.2 y.2;have k1:=dY k (x.1*y.1);have k2:=dY k (x.2*y.2);have a1:=iN s.1 (k*(x.1*y.1));have a2:=iN s.1 (k*(x.2*y.2));have a3:=iN s.2 (k*(x.1*y.1));have a4:=iN s.2 (k*(x.2*y.2));unfold tm Hs;split
 ·constructor
  ·show ht (s.1+k*(x.2*y.2))≤_;omega
  ·show ht (s.2+k*(x.1*y.1))≤_;omega
 ·constructor
  ·show ht (s.1+k*(x.1*y.1))≤_;omega
  ·show ht (s.2+k*(x.2*y.2))≤_;omega
theorem vK{s x y:yB}{k:Rat}{n:Nat}(hs:Hs n s)(hn:n≤10000)(hk:ht k≤34)(hx:Hs 1 x)(hy:Hs 1 y):Cp 56 [(sR s).pv,(bw k).pv,(sR x).pv,(sR y).pv] (sR (tm s k x y)).pv:=by
 obtain⟨x1,x2⟩:=hx;obtain⟨y1,y2⟩:=hy;have m1:=dY x.1 y.1;have m2:=dY x.2 y.2;have k1:=dY k (x.1*y.1);have k2:=dY k (x.2*y.2);unfold tm;by_cases h:k<0
 ·rw[ac7 h];exact jM.e0 (sR s) _ (sR x) (sR y) _ _ _ _ _ _ (QF.Mul _ _ (by omega) (by omega)) (QF.Mul _ _ (by omega) (by omega)) (QF.Mul _ _ (by omega) (by omega)) (QF.Mul _ _ (by omega) (by omega)) (QF.Sign _ (by omega)) (xe.2 h) (Tk hs hn (by omega) (by omega))
 ·rw[ac3 h];exact jM.e1 (sR s) _ (sR x) (sR y) _ _ _ _ _ _ (QF.Mul _ _ (by omega) (by omega)) (QF.Mul _ _ (by omega) (by omega)) (QF.Mul _ _ (by omega) (by omega)) (QF.Mul _ _ (by omega) (by omega)) (QF.Sign _ (by omega)) (zI.2 (aeJ.1 h)) (Tk hs hn (by omega) (by omega))
theorem LA{s:yB}{n:Nat}(hs:Hs n s)(hn:1≤n):ht (lst s)≤n+n:=by
 obtain⟨a,b⟩:=hs;have h1:=dY s.1 s.1;have h2:=dY s.2 s.2;unfold lst;split
 ·omega
 ·split
  ·omega
  ·rw[kG];omega
theorem QI{s:yB}{n:Nat}(hs:Hs n s)(hn:n≤10000):Cp 59 [(sR s).pv] (bw (lst s)).pv:=by
 obtain⟨a,b⟩:=hs;unfold lst;by_cases h1:0<s.1
 ·rw[ac7 h1];exact gD.e0 (sR s) _ _ (QF.Sign _ (by omega)) (ow.2 h1) (QF.Mul _ _ (by omega) (by omega))
 ·rw[ac3 h1];have g1:=Ee.2 (aeJ.1 h1);by_cases h2:s.2<0
  ·rw[ac7 h2];exact gD.e1 (sR s) _ _ _ (QF.Sign _ (by omega)) g1 (QF.Sign _ (by omega)) (xe.2 h2) (QF.Mul _ _ (by omega) (by omega))
  ·rw[ac3 h2];exact gD.e2 (sR s) _ _ (QF.Sign _ (by omega)) g1 (QF.Sign _ (by omega)) (zI.2 (aeJ.1 h2))
theorem LB{f:Rat×Rat×Rat}{g a b r:yB}(hf:ht f.1≤34∧ht f.2.1≤34∧ht f.2.2≤34)(hg:Hs 1 g)(ha:Hs 1 a)(hb:Hs 1 b)(hr:Hs 1 r):Hs 300 (Il f g a b r):=by
 have z:Hs 1 ((0,0):yB):=⟨by rw[kG];omega,by rw[kG];omega⟩;have e1:=RF;have e2:ht (-1)≤34:=by rw[qu];omega
 have:=qb (qb (qb (qb (qb (qb (qb z (k:=1) (by omega) hg hg) (k:=1) (by omega) ha ha) (k:=1) (by omega) hr hr) e2 hb hb) hf.1 hg hr) hf.2.1 hg ha) hf.2.2 ha hr;unfold Il;exact⟨abZ this.1 (by omega),abZ this.2 (by omega)⟩
end Ct
namespace Ct
structure F6 where
 g:List Rat
 a:List Rat
 b:List Rat
 c:List Rat
 p:List (QT×QT)
abbrev F6.A(c:F6):aN:=⟨c.g.map bw,c.a.map bw,c.b.map bw,c.c.map bw,c.p.map pR⟩
def Sh(l:List Rat):Prop:=∀x∈l,ht x≤1∧0<x
structure NP (l:List Rat):Prop where
 ne:0<l.length
 le:l.length≤8
 sh:Sh l
 up:∀(j:Nat) x y,l[j]? = some x→l[j+1]? = some y→x<y
structure Good (k:F6):Prop where
 g:NP k.g
 a:NP k.a
 b:NP k.b
 c:NP k.c
 n0:0<k.p.length
 n4:k.p.length≤4
 p:∀q∈k.p,JC q
def iO(l:List Rat)(i:Int):Rat:=l.getD i.toNat 0
def Ix(l:List Rat)(i:Int):Prop:=0≤i∧i<(l.length:Int)
theorem fV{l:List Rat}{i:Int}(h:Ix l i):i=(i.toNat:Int)∧l[i.toNat]? = some (iO l i)∧iO l i∈l:=by
 obtain⟨h1,h2⟩:=h;have cT:i.toNat<l.length:=by omega
 have e:=abJ cT;have e2:iO l i=l[i.toNat]:=by unfold iO;rw[adG,e];rfl
 exact⟨by omega,by rw[e2];exact e,by rw[e2];exact acj cT⟩
theorem hZ{l:List Rat}{i:Int}(h:Ix l i):(l.map bw)[i.toNat]? = some (bw (iO l i)):=by rw[abR,(fV h).2.1];rfl
theorem Tl{l:List Rat}(h:NP l):∀(n j:Nat) (x y:Rat),l[j]? = some x→l[j+n]? = some y→x≤y:=by
 intro n
 induction n with
 |zero=>intro j x y h1 h2;rw[ad0,h1] at h2;injection h2 with h2;rw[h2];exact aew
 |succ n ih =>intro j x y h1 h2;have hl:=(abL.1 h2).1;have hz:=abJ (show j+n<l.length by omega);exact adR (ih j x _ h1 hz) (aeV (h.up (j+n) _ y hz h2))
theorem Iq{l:List Rat}(h:NP l){i j:Int}(hi:Ix l i)(hj:Ix l j)(DC:i≤j):iO l i≤iO l j:=by refine Tl h (j.toNat-i.toNat) i.toNat _ _ (fV hi).2.1 ?_;have:=hi.1;rw[show i.toNat+(j.toNat-i.toNat)=j.toNat from by omega];exact(fV hj).2.1
theorem iY{l:List Rat}(h:NP l){i:Int}(hi:Ix l i):ht (iO l i)≤1∧0<iO l i:=h.sh _ (fV hi).2.2
def bd(c:F6)(lo hi:ba):Rat:=Ao (iO c.g lo.f0,iO c.g hi.f0) (iO c.a lo.f1,iO c.a hi.f1) (iO c.b lo.f2,iO c.b hi.f2) (iO c.c lo.f3,iO c.c hi.f3) c.p 0
def cs(c:F6)(i:ba):Rat:=bd c i i
def BF(c:F6)(i:ba):Prop:=Ix c.g i.f0∧Ix c.a i.f1∧Ix c.b i.f2∧Ix c.c i.f3
def Bx(lo hi i:ba):Prop:=(lo.f0≤i.f0∧i.f0≤hi.f0)∧(lo.f1≤i.f1∧i.f1≤hi.f1)∧(lo.f2≤i.f2∧i.f2≤hi.f2)∧(lo.f3≤i.f3∧i.f3≤hi.f3)
theorem Ef{l:List Rat}(h:NP l){i j k:Int}(hi:Ix l i)(hk:Ix l k)(h1:i≤j)(h2:j≤k):Jh (iO l j) (iO l i,iO l k):=by have hj:Ix l j:=⟨Int.le_trans hi.1 h1,Int.lt_of_le_of_lt h2 hk.2⟩;exact⟨aeV (iY h hi).2,Iq h hi hj h1,Iq h hj hk h2⟩
theorem Tm{c:F6}(hc:Good c){lo hi i:ba}(h1:BF c lo)(h2:BF c hi)(hb:Bx lo hi i):bd c lo hi≤cs c i :=
 QH (Ef hc.g h1.1 h2.1 hb.1.1 hb.1.2) (Ef hc.a h1.2.1 h2.2.1 hb.2.1.1 hb.2.1.2) (Ef hc.b h1.2.2.1 h2.2.2.1 hb.2.2.1.1 hb.2.2.1.2) (Ef hc.c h1.2.2.2 h2.2.2.2 hb.2.2.2.1 hb.2.2.2.2) c.p 0 0 aew
theorem QJ{g a b r:yB}(hg:Hs 1 g)(ha:Hs 1 a)(hb:Hs 1 b)(hr:Hs 1 r):∀(ps:List (QT×QT)) (s:Rat) (n:Nat),(∀q∈ps,JC q)→ht s≤n→ht (Ao g a b r ps s)≤n+601*ps.length:=by
 intro ps
 induction ps with
 |nil=>intro s n _ h;simpa[Ao] using h
 |cons p ps ih =>intro s n hp h;have h1:=LA (LB (Ip (hp p (acO ..))) hg ha hb hr) (by omega);have h2:=iN s (lst (Il (ll p) g a b r));have:=ih (s+lst (Il (ll p) g a b r)) (n+601) (fun q hq=>hp q (acA _ hq)) (by omega);rw[acL];show ht (Ao g a b r ps (s+lst (Il (ll p) g a b r)))≤_;omega
theorem C8{c:F6}(hc:Good c){lo hi:ba}(h1:BF c lo)(h2:BF c hi):ht (bd c lo hi)≤3000:=by have:=QJ (g:=(iO c.g lo.f0,iO c.g hi.f0)) (a:=(iO c.a lo.f1,iO c.a hi.f1)) (b:=(iO c.b lo.f2,iO c.b hi.f2)) (r:=(iO c.c lo.f3,iO c.c hi.f3)) ⟨(iY hc.g h1.1).1,(iY hc.g h2.1).1⟩ ⟨(iY hc.a h1.2.1).1,(iY hc.a h2.2.1).1⟩ ⟨(iY hc.b h1.2.2.1).1,(iY hc.b h2.2.2.1).1⟩ ⟨(iY hc.c h1.2.2.2).1,(iY hc.c h2.2.2.2).1⟩ c.p 0 1 hc.p (by rw[kG];omega);have:=hc.n4;unfold bd;omega
theorem Tn{c:F6}(hc:Good c){g a b r:yB}(hg:Hs 1 g)(ha:Hs 1 a)(hb:Hs 1 b)(hr:Hs 1 r):∀(n t:Nat) (d:Rat),c.p.length-t=n→t≤c.p.length→ht d≤1+601*t →
  iT.ay c.A t (bw g.1) (bw g.2) (bw a.1) (bw a.2) (bw b.1) (bw b.2) (bw r.1) (bw r.2) (bw 1) (bw d) (.bg [(bw (Ao g a b r (c.p.drop t) d)).pv,.ar]):=by
 intro n;have hn:=hc.n4
 induction n with
 |zero =>intro t d h1 h2 h3;rw[adZ (by omega)];exact iT.im c.A t _ _ _ _ _ _ _ _ _ _ (by simp;omega)
 |succ n ih =>
  intro t d h1 h2 h3;have cT:t<c.p.length:=by omega
  have hq:=hc.p _ (acj cT);have hd:c.p.drop t=c.p[t]::c.p.drop (t+1):=acx cT;have hv:(c.p.map pR)[t]? = some (pR c.p[t]):=by rw[abR,abJ cT];rfl
  rw[hd];generalize c.p[t]=q at hq hv ⊢;obtain⟨f1,f2,f3⟩:=Ip hq;have z:Hs 1 ((0,0):yB):=⟨by rw[kG];omega,by rw[kG];omega⟩;have e1:=RF;have e2:ht (-1)≤34:=by rw[qu];omega
  have s1:=qb z (k:=1) (by omega) hg hg;have s2:=qb s1 (k:=1) (by omega) ha ha;have s3:=qb s2 (k:=1) (by omega) hr hr;have s4:=qb s3 e2 hb hb;have s5:=qb s4 f1 hg hr;have s6:=qb s5 f2 hg ha;have s7:=qb s6 f3 ha hr;have hl:=LA (LB ⟨f1,f2,f3⟩ hg ha hb hr) (by omega);have ha':=iN d (lst (Il (ll q) g a b r));refine iT.eu c.A t _ _ _ _ _ _ _ _ (bw 1) (bw d) (pR q) (fR (ll q)) _ _ _ _ _ _ _ _ _ _ (by simpa using cT) hv (of' hq)
   (vK z (by omega) (k:=1) (by omega) hg hg) (vK s1 (by omega) (k:=1) (by omega) ha ha) (vK s2 (by omega) (k:=1) (by omega) hr hr) (QF.Neg 1 (by omega)) (vK s3 (by omega) e2 hb hb)
   (vK s4 (by omega) f1 hg hr) (vK s5 (by omega) f2 hg ha) (vK s6 (by omega) f3 ha hr) (QI s7 (by omega)) (QF.Add d _ (by omega) ?_) (by omega) (ih (t+1) (d+lst (Il (ll q) g a b r)) (by omega) (by omega) (by omega))
  exact abZ hl (by omega)
theorem bound{c:F6}(hc:Good c){lo hi:ba}(h1:BF c lo)(h2:BF c hi):Cp 28 [c.A.pv,lo.pv,hi.pv] (.bg [(bw (bd c lo hi)).pv,.ar]):=by obtain⟨p0,p1,p2,p3⟩:=h1;obtain⟨q0,q1,q2,q3⟩:=h2;have:=Tn hc (g:=(iO c.g lo.f0,iO c.g hi.f0)) (a:=(iO c.a lo.f1,iO c.a hi.f1)) (b:=(iO c.b lo.f2,iO c.b hi.f2)) (r:=(iO c.c lo.f3,iO c.c hi.f3)) ⟨(iY hc.g p0).1,(iY hc.g q0).1⟩ ⟨(iY hc.a p1).1,(iY hc.a q1).1⟩ ⟨(iY hc.b p2).1,(iY hc.b q2).1⟩ ⟨(iY hc.c p3).1,(iY hc.c q3).1⟩ _ 0 0 rfl (by omega) (by rw[kG];omega);rw[adg] at this;exact iT.e0 c.A lo hi ⟨c.g.map bw,c.a.map bw,c.b.map bw,c.c.map bw⟩ _ _ _ _ _ _ _ _ _ _ _ _ _ _ _ _ _ (iS.e0 c.A) (fV p0).1 (hZ p0) (fV q0).1 (hZ q0) (fV p1).1 (hZ p1) (fV q1).1 (hZ q1) (fV p2).1 (hZ p2) (fV q2).1 (hZ q2) (fV p3).1 (hZ p3) (fV q3).1 (hZ q3) YU this
theorem uq{l:List Rat}(hs:Sh l):(∃e:Int,Cp 24 [ae (l.map bw)] (.iface 86 (vI e)))∨(Cp 24 [ae (l.map bw)] .ar∧NP l):=by
 by_cases h0:l.length=0
 ·exact .inl ⟨_,bY.e0 (l.map bw) (by simpa using h0)⟩
 by_cases h8:8<l.length
 ·exact .inl ⟨_,bY.e1 (l.map bw) (by simpa using h0) (by simpa using h8)⟩
 have loop:∀(n t:Nat),l.length-t=n→t≤l.length→(∃e:Int,bY.ay (l.map bw) t (.iface 86 (vI e)))∨(bY.ay (l.map bw) t .ar∧∀(j:Nat) x y,t≤j+1→l[j]? = some x→l[j+1]? = some y→x<y):=by
  intro n
  induction n with
  |zero =>intro t h1 h2;refine .inr ⟨bY.Mv (l.map bw) t (by simp;omega),fun j x y h3 h4 h5 => ?_⟩;have:=(abL.1 h5).1;omega
  |succ n ih =>
   intro t h1 h2;have cT:t<l.length:=by omega
   have hv:l[t]? = some l[t]:=abJ cT;have wv:(l.map bw)[t]? = some (bw l[t]):=by rw[abR,hv];rfl
   obtain⟨g1,g2⟩:=hs _ (acj cT);have Qt:t<(l.map bw).length:=by simpa using cT
   have hV:=QF.Valid l[t] (by omega);have hS:=QF.Sign l[t] (by omega);have To:=ow.2 g2;by_cases ht0:t=0
   ·rcases ih (t+1) (by omega) (by omega) with ⟨e,he⟩|⟨h3,h4⟩
    ·exact .inl ⟨e,bY.G5 (l.map bw) t _ _ _ Qt wv hV rfl hS To (by omega) (by omega) he⟩
    ·exact .inr ⟨bY.G5 (l.map bw) t _ _ _ Qt wv hV rfl hS To (by omega) (by omega) h3,fun j x y h5=>h4 j x y (by omega)⟩
   ·have Tp:t-1<l.length:=by omega
    have hu:l[t-1]? = some l[t-1]:=abJ Tp;have Dl:(l.map bw)[t-1]? = some (bw l[t-1]):=by rw[abR,hu];rfl
    have k1:=(hs _ (acj Tp)).1;have hC:=QF.Et l[t] l[t-1] (by omega) (by omega);by_cases hle:l[t]≤l[t-1]
    ·exact .inl ⟨_,bY.im (l.map bw) t _ _ _ (t-1) _ _ Qt wv hV rfl hS To (by omega) (by unfold bf;omega) (by omega) Dl hC (Ee.2 hle)⟩
    ·have Xb:=Rat.not_le.1 hle;rcases ih (t+1) (by omega) (by omega) with ⟨e,he⟩|⟨h3,h4⟩
     ·exact .inl ⟨e,bY.ym (l.map bw) t _ _ _ (t-1) _ _ Qt wv hV rfl hS To (by omega) (by unfold bf;omega) (by omega) Dl hC (ow.2 Xb) (by omega) he⟩
     ·refine .inr ⟨bY.ym (l.map bw) t _ _ _ (t-1) _ _ Qt wv hV rfl hS To (by omega) (by unfold bf;omega) (by omega) Dl hC (ow.2 Xb) (by omega) h3,fun j x y h5 h6 h7 => ?_⟩;by_cases hj:j+1=t
      ·have ej:j=t-1:=by omega
       subst ej;rw[hu] at h6;injection h6 with h6;subst h6
       rw[show t-1+1=t from by omega,hv] at h7;injection h7 with h7;subst h7
       exact Xb
      ·exact h4 j x y (by omega) h6 h7
 have b0:(l.map bw).length≠0:=by simpa using h0
 have b8:(l.map bw).length≤8:=by rw[abS];omega
 rcases loop _ 0 rfl (by omega) with ⟨e,he⟩|⟨h3,h4⟩
 ·exact .inl ⟨e,bY.e2 (l.map bw) b0 b8 he⟩
 ·exact .inr ⟨bY.e2 (l.map bw) b0 b8 h3,⟨by omega,by omega,hs,fun j x y=>h4 j x y (by omega)⟩⟩
structure Tq (k:F6):Prop where
 g:Sh k.g
 a:Sh k.a
 b:Sh k.b
 c:Sh k.c
 p:∀q∈k.p,JC q
theorem Check{c:F6}(hp:Tq c):(∃e:Int,Cp 8 [c.A.pv] (.iface 86 (vI e)))∨(Cp 8 [c.A.pv] .ar∧Good c):=by
 have hl:=iS.e0 c.A;rcases uq hp.g with ⟨e,he⟩|⟨g1,g2⟩
 ·exact .inl ⟨e,dy.e6 c.A ⟨c.g.map bw,c.a.map bw,c.b.map bw,c.c.map bw⟩ _ hl he⟩
 rcases uq hp.a with ⟨e,he⟩|⟨a1,a2⟩
 ·exact .inl ⟨e,dy.e5 c.A ⟨c.g.map bw,c.a.map bw,c.b.map bw,c.c.map bw⟩ _ hl g1 he⟩
 rcases uq hp.b with ⟨e,he⟩|⟨b1,b2⟩
 ·exact .inl ⟨e,dy.e4 c.A ⟨c.g.map bw,c.a.map bw,c.b.map bw,c.c.map bw⟩ _ hl g1 a1 he⟩
 rcases uq hp.c with ⟨e,he⟩|⟨c1,c2⟩
 ·exact .inl ⟨e,dy.e3 c.A ⟨c.g.map bw,c.a.map bw,c.b.map bw,c.c.map bw⟩ _ hl g1 a1 b1 he⟩
 by_cases h0:c.p.length=0
 ·exact .inl ⟨_,dy.e0 c.A ⟨c.g.map bw,c.a.map bw,c.b.map bw,c.c.map bw⟩ hl g1 a1 b1 c1 (by simpa using h0)⟩
 by_cases h4:4<c.p.length
 ·exact .inl ⟨_,dy.e1 c.A ⟨c.g.map bw,c.a.map bw,c.b.map bw,c.c.map bw⟩ hl g1 a1 b1 c1 (by simpa using h0) (by simpa using h4)⟩
 refine .inr ⟨?_,⟨g2,a2,b2,c2,by omega,by omega,hp.p⟩⟩;refine dy.e2 c.A ⟨c.g.map bw,c.a.map bw,c.b.map bw,c.c.map bw⟩ hl g1 a1 b1 c1 (by simpa using h0) (by simp;omega) ?_;have loop:∀(n t:Nat),c.p.length-t=n→t≤c.p.length→dy.ay c.A t .ar:=by
  intro n
  induction n with
  |zero=>intro t h1 h2;exact dy.ym c.A t (by simp;omega)
  |succ n ih =>
   intro t h1 h2;have cT:t<c.p.length:=by omega
   have hq:=hp.p _ (acj cT);exact dy.eu c.A t (pR c.p[t]) (by simpa using cT) (by rw[List.getElem?_map,List.getElem?_eq_getElem cT];rfl) (vJ hq.1) (vJ hq.2) (by omega) (ih (t+1) (by omega) (by omega))
 exact loop _ 0 rfl (by omega)
end Ct
namespace Ct
variable {c:F6}
theorem Xc(hc:Good c)(hk:Cp 8 [c.A.pv] .ar)(i:ba) :
  (BF c i∧Cp 29 [c.A.pv,i.pv] (.bg [(bw (cs c i)).pv,.ar]))∨∃e:Int,Cp 29 [c.A.pv,i.pv] (.bg [(⟨false,[],[]⟩:aq).pv,.iface 86 (vI e)]):=by
 have hl:=iS.e0 c.A;have er:∀e:Int,Cp 60 [c.A.pv,i.pv,i.pv] (.bg [(⟨false,[],[]⟩:aq).pv,.iface 86 (vI e)])→∃e:Int,Cp 29 [c.A.pv,i.pv] (.bg [(⟨false,[],[]⟩:aq).pv,.iface 86 (vI e)]) :=
  fun e h=>⟨e,o5.e0 c.A i ⟨false,[],[]⟩ (some e) h⟩
 have lm:∀l:List Rat,((l.map bw).length:Int)=(l.length:Int):=fun l=>by simp
 by_cases a0:i.f0<0
 ·exact .inr (er _ (dS.e0 c.A i i _ hk hl a0))
 by_cases b0:(c.g.length:Int)≤i.f0
 ·exact .inr (er _ (dS.e2 c.A i i _ hk hl (by omega) (acy _) (by rw[lm];exact b0)))
 by_cases a1:i.f1<0
 ·exact .inr (er _ (dS.e3 c.A i i _ hk hl (by omega) (acy _) (by rw[lm];omega) a1))
 by_cases b1:(c.a.length:Int)≤i.f1
 ·exact .inr (er _ (dS.e5 c.A i i _ hk hl (by omega) (acy _) (by rw[lm];omega) (by omega) (acy _) (by rw[lm];exact b1)))
 by_cases a2:i.f2<0
 ·exact .inr (er _ (dS.e6 c.A i i _ hk hl (by omega) (acy _) (by rw[lm];omega) (by omega) (acy _) (by rw[lm];omega) a2))
 by_cases b2:(c.b.length:Int)≤i.f2
 ·exact .inr (er _ (dS.e8 c.A i i _ hk hl (by omega) (acy _) (by rw[lm];omega) (by omega) (acy _) (by rw[lm];omega) (by omega) (acy _) (by rw[lm];exact b2)))
 by_cases a3:i.f3<0
 ·exact .inr (er _ (dS.e9 c.A i i _ hk hl (by omega) (acy _) (by rw[lm];omega) (by omega) (acy _) (by rw[lm];omega) (by omega) (acy _) (by rw[lm];omega) a3))
 by_cases b3:(c.c.length:Int)≤i.f3
 ·exact .inr (er _ (dS.Wm c.A i i _ hk hl (by omega) (acy _) (by rw[lm];omega) (by omega) (acy _) (by rw[lm];omega) (by omega) (acy _) (by rw[lm];omega) (by omega) (acy _) (by rw[lm];exact b3)))
 have hi:BF c i:=⟨⟨by omega,by omega⟩,⟨by omega,by omega⟩,⟨by omega,by omega⟩,⟨by omega,by omega⟩⟩;exact .inl ⟨hi,o5.e0 c.A i _ none (dS.Wn c.A i i _ _ none hk hl (by omega) (acy _) (by rw[lm];omega) (by omega) (acy _) (by rw[lm];omega) (by omega) (acy _) (by rw[lm];omega) (by omega) (acy _) (by rw[lm];omega) (bound hc hi hi))⟩
def yC(c:F6):ba:=⟨(c.g.length:Int)-1,(c.a.length:Int)-1,(c.b.length:Int)-1,(c.c.length:Int)-1⟩
theorem Hx(hc:Good c):BF c (yC c)∧BF c ⟨0,0,0,0⟩:=by
 have h1:=hc.g.ne;have h2:=hc.a.ne;have h3:=hc.b.ne;have h4:=hc.c.ne;unfold yC BF Ix;exact⟨⟨⟨by show 0≤_-1;omega,by show _-1<_;omega⟩,⟨by show 0≤_-1;omega,by show _-1<_;omega⟩,⟨by show 0≤_-1;omega,by show _-1<_;omega⟩,⟨by show 0≤_-1;omega,by show _-1<_;omega⟩⟩,
  ⟨⟨acy _,by show(0:Int)<_;omega⟩,⟨acy _,by show(0:Int)<_;omega⟩,⟨acy _,by show(0:Int)<_;omega⟩,⟨acy _,by show(0:Int)<_;omega⟩⟩⟩
theorem last(hc:Good c):Cp 26 [c.A.pv] (yC c).pv:=by have h1:=hc.g.le;have h2:=hc.a.le;have h3:=hc.b.le;have h4:=hc.c.le;have:=tA.e0 c.A ⟨c.g.map bw,c.a.map bw,c.b.map bw,c.c.map bw⟩ (iS.e0 c.A) (by unfold bf;simp;omega) (by unfold bf;simp;omega) (by unfold bf;simp;omega) (by unfold bf;simp;omega);simp only[List.length_map] at this;exact this
def Lex(j i:ba):Prop:=j.f0<i.f0∨(j.f0=i.f0∧(j.f1<i.f1∨(j.f1=i.f1∧(j.f2<i.f2∨(j.f2=i.f2∧j.f3<i.f3)))))
def NQ(j i:ba):Prop:=j.f0=i.f0∧j.f1=i.f1∧j.f2=i.f2∧j.f3=i.f3
theorem NQ.eq{i j:ba}(h:NQ j i):j=i:=by obtain⟨h1,h2,h3,h4⟩:=h;cases i;cases j;simp only at h1 h2 h3 h4;subst h1;subst h2;subst h3;subst h4;rfl
def QK(i:ba):Nat:=(((7-i.f0)*512+(7-i.f1)*64+(7-i.f2)*8+(7-i.f3))).toNat
def Es(c:F6)(o:ba):Prop:=BF c o∧∀j,BF c j→cs c o≤cs c j
theorem LC(hc:Good c):∀(n:Nat) (i:ba) (f:Bool) (g:bW),QK i=n→BF c i→(f=false→∀j,BF c j→¬Lex j i)→(f=true→∃o,g=⟨o,bw (cs c o)⟩∧BF c o∧∀j,BF c j→Lex j i→cs c o≤cs c j) →
  ∃o,Es c o∧eR.ay f true c.A g (yC c) i (.bg [(⟨o,bw (cs c o)⟩:bW).pv,.ar]):=by
 intro n
 induction n using Nat.strongRecOn with
 |_ n ih =>
 intro i f g hn hi VL hf1;have g8:=hc.g.le;have a8:=hc.a.le;have b8:=hc.b.le;have c8:=hc.c.le;obtain⟨⟨i0,i1⟩,⟨i2,i3⟩,⟨i4,i5⟩,⟨i6,i7⟩⟩:=id hi;have hb:=bound hc hi hi;have go:∀o',BF c o'→(∀j,BF c j→(Lex j i∨NQ j i)→cs c o'≤cs c j)→∃o,Es c o∧∃(l:ba) (m:Bool),Cp 27 [i.pv,(yC c).pv] (.bg [l.pv,vB m]) ∧
   eR.ay true m c.A (⟨o',bw (cs c o')⟩:bW) (yC c) l (.bg [(⟨o,bw (cs c o)⟩:bW).pv,.ar]):=by
  intro o' YW hle;have more:∀l:ba,QK l<n→BF c l→(∀j,BF c j→Lex j l→Lex j i∨NQ j i)→Cp 27 [i.pv,(yC c).pv] (.bg [l.pv,vB true])→∃o,Es c o∧∃(l:ba) (m:Bool),Cp 27 [i.pv,(yC c).pv] (.bg [l.pv,vB m]) ∧
    eR.ay true m c.A (⟨o',bw (cs c o')⟩:bW) (yC c) l (.bg [(⟨o,bw (cs c o)⟩:bW).pv,.ar]):=fun l hl PM Xd J1=>by
   obtain⟨o,h1,h2⟩:=ih (QK l) hl l true ⟨o',bw (cs c o')⟩ rfl PM (fun h=>by cases h) (fun _=>⟨o',rfl,YW,fun j hj cT=>hle j hj (Xd j hj cT)⟩);exact⟨o,h1,l,true,J1,h2⟩
  by_cases m3:i.f3<(yC c).f3
  ·have UN:i.f3<(c.c.length:Int)-1:=m3;refine more ⟨i.f0,i.f1,i.f2,i.f3+1⟩ ?_ ⟨⟨i0,i1⟩,⟨i2,i3⟩,⟨i4,i5⟩,⟨by show 0≤i.f3+1;omega,by show i.f3+1<_;omega⟩⟩ (fun j hj h => ?_) (hE.e0 i (yC c) m3 (by unfold bf;omega))
   ·rw[←hn];unfold QK;simp only;omega
   ·obtain⟨⟨j0,j1⟩,⟨j2,j3⟩,⟨j4,j5⟩,⟨j6,j7⟩⟩:=hj;unfold Lex NQ at *;simp only at h;omega
  by_cases m2:i.f2<(yC c).f2
  ·have Xe:i.f2<(c.b.length:Int)-1:=m2;have UN:¬i.f3<(c.c.length:Int)-1:=m3;refine more ⟨i.f0,i.f1,i.f2+1,0⟩ ?_ ⟨⟨i0,i1⟩,⟨i2,i3⟩,⟨by show 0≤i.f2+1;omega,by show i.f2+1<_;omega⟩,⟨acy _,by show(0:Int)<_;omega⟩⟩ (fun j hj h => ?_) (hE.e1 i (yC c) (adH.1 m3) m2 (by unfold bf;omega))
   ·rw[←hn];unfold QK;simp only;omega
   ·obtain⟨⟨j0,j1⟩,⟨j2,j3⟩,⟨j4,j5⟩,⟨j6,j7⟩⟩:=hj;unfold Lex NQ at *;simp only at h;omega
  by_cases m1:i.f1<(yC c).f1
  ·have YX:i.f1<(c.a.length:Int)-1:=m1;have Xe:¬i.f2<(c.b.length:Int)-1:=m2;have UN:¬i.f3<(c.c.length:Int)-1:=m3;refine more ⟨i.f0,i.f1+1,0,0⟩ ?_ ⟨⟨i0,i1⟩,⟨by show 0≤i.f1+1;omega,by show i.f1+1<_;omega⟩,⟨acy _,by show(0:Int)<_;omega⟩,⟨acy _,by show(0:Int)<_;omega⟩⟩ (fun j hj h => ?_) (hE.e2 i (yC c) (adH.1 m3) (adH.1 m2) m1 (by unfold bf;omega))
   ·rw[←hn];unfold QK;simp only;omega
   ·obtain⟨⟨j0,j1⟩,⟨j2,j3⟩,⟨j4,j5⟩,⟨j6,j7⟩⟩:=hj;unfold Lex NQ at *;simp only at h;omega
  by_cases m0:i.f0<(yC c).f0
  ·have m0':i.f0<(c.g.length:Int)-1:=m0;have YX:¬i.f1<(c.a.length:Int)-1:=m1;have Xe:¬i.f2<(c.b.length:Int)-1:=m2;have UN:¬i.f3<(c.c.length:Int)-1:=m3;refine more ⟨i.f0+1,0,0,0⟩ ?_ ⟨⟨by show 0≤i.f0+1;omega,by show i.f0+1<_;omega⟩,⟨acy _,by show(0:Int)<_;omega⟩,⟨acy _,by show(0:Int)<_;omega⟩,⟨acy _,by show(0:Int)<_;omega⟩⟩ (fun j hj h => ?_) (hE.e3 i (yC c) (adH.1 m3) (adH.1 m2) (adH.1 m1) m0 (by unfold bf;omega))
   ·rw[←hn];unfold QK;simp only;omega
   ·obtain⟨⟨j0,j1⟩,⟨j2,j3⟩,⟨j4,j5⟩,⟨j6,j7⟩⟩:=hj;unfold Lex NQ at *;simp only at h;omega
  have m0':¬i.f0<(c.g.length:Int)-1:=m0;have YX:¬i.f1<(c.a.length:Int)-1:=m1;have Xe:¬i.f2<(c.b.length:Int)-1:=m2;have UN:¬i.f3<(c.c.length:Int)-1:=m3;refine⟨o',⟨YW,fun j hj=>hle j hj ?_⟩,_,_,hE.e4 i (yC c) (adH.1 m3) (adH.1 m2) (adH.1 m1) (adH.1 m0),eR.G5 true false c.A _ (yC c) _ rfl⟩;obtain⟨⟨j0,j1⟩,⟨j2,j3⟩,⟨j4,j5⟩,⟨j6,j7⟩⟩:=hj;unfold Lex NQ;omega
 cases f with
 |false =>
  obtain⟨o,h1,l,m,h2,h3⟩:=go i hi (fun j hj h=>by
   rcases h with h|h
   ·exact absurd h (VL rfl j hj)
   ·rw[h.eq];exact aew)
  exact⟨o,h1,eR.eu false true c.A g (yC c) i _ l m rfl hb rfl h2 h3⟩
 |true =>
  obtain⟨o0,rfl,p1,p2⟩:=hf1 rfl;have h1:=C8 hc hi hi;have h2:=C8 hc p1 p1;have hC:=QF.Et (cs c i) (cs c o0) (by show ht (bd c i i)≤_;omega) (by show ht (bd c o0 o0)≤_;omega);by_cases cT:cs c i<cs c o0
  ·obtain⟨o,h1,l,m,h2,h3⟩:=go i hi (fun j hj h=>by
    rcases h with h|h
    ·exact adR (aeV cT) (p2 j hj h)
    ·rw[h.eq];exact aew)
   exact⟨o,h1,eR.dp true true c.A _ (yC c) i _ _ l m rfl hb rfl hC (xe.2 cT) h2 h3⟩
  ·obtain⟨o,h1,l,m,h2,h3⟩:=go o0 p1 (fun j hj h=>by
    rcases h with h|h
    ·exact p2 j hj h
    ·rw[h.eq];exact aeJ.1 cT)
   exact⟨o,h1,eR.im true true c.A _ (yC c) i _ _ l m rfl hb rfl hC (zI.2 (aeJ.1 cT)) h2 h3⟩
theorem Xf(hc:Good c)(hk:Cp 8 [c.A.pv] .ar):∃o,Es c o∧Cp 9 [c.A.pv] (.bg [(⟨o,bw (cs c o)⟩:bW).pv,.ar]):=by
 obtain⟨o,h1,h2⟩:=LC hc _ ⟨0,0,0,0⟩ false ⟨⟨0,0,0,0⟩,⟨false,[],[]⟩⟩ rfl (Hx hc).2 (fun _ j hj h=>by obtain⟨⟨j0,j1⟩,⟨j2,j3⟩,⟨j4,j5⟩,⟨j6,j7⟩⟩:=hj;unfold Lex at h;simp only at h;omega) (fun h=>by cases h)
 exact⟨o,h1,eR.e0 c.A (yC c) hk (last hc) h2⟩
def Pv(c:F6)(cost:Rat)(t:aI):Prop:=∀lo hi:ba,BF c lo→BF c hi→∃ok:Bool,Cp 31 [c.A.pv,t.pv,lo.pv,hi.pv,(bw cost).pv] (.bg [vB ok,.ar])∧(ok=true→∀i,Bx lo hi i→cost≤cs c i)
theorem QM(hc:Good c){cost:Rat}(hh:ht cost≤3000)(t:aI):Pv c cost t:=by
 refine aI.rec (motive_1:=fun t=>Pv c cost t) (motive_2:=fun l=>∀t∈l,Pv c cost t) ?_ (fun t h=>by cases h) (fun t l h1 h2 u hu => ?_) t
 ·intro ta tb tk Ta lo hi h1 h2;have g8:=hc.g.le;have a8:=hc.a.le;have b8:=hc.b.le;have c8:=hc.c.le;by_cases k0:tk.length=0
  ·have hb:=C8 hc h1 h2;refine⟨_,catalogue_proves.e0 c.A ta tb tk lo hi _ _ _ k0 (bound hc h1 h2) (QF.Et _ _ (by omega) (by omega)),fun gk i Jz => ?_⟩;have:=zI.1 (adM gk);exact adR this (Tm hc h1 h2 Jz)
  by_cases k2:tk.length=2
  case neg=>exact⟨false,catalogue_proves.e2 c.A ta tb tk lo hi _ k0 k2,fun h=>by cases h⟩
  by_cases t0:ta<0
  ·exact⟨false,catalogue_proves.e3 c.A ta tb tk lo hi _ k0 k2 t0,fun h=>by cases h⟩
  by_cases t4:4≤ta
  ·exact⟨false,catalogue_proves.e4 c.A ta tb tk lo hi _ k0 k2 (by omega) t4,fun h=>by cases h⟩
  have q0:tk[0]? = some tk[0]:=abJ (by omega);have q1:tk[1]? = some tk[1]:=abJ (by omega);have r0:=Ta _ (acj (show 0<tk.length by omega));have r1:=Ta _ (acj (show 1<tk.length by omega));generalize tk[0]=u0 at q0 r0;generalize tk[1]=u1 at q1 r1;obtain⟨b,d,g⟩:=u0;obtain⟨j,k,l⟩:=u1;obtain⟨⟨x0,y0⟩,⟨x1,y1⟩,⟨x2,y2⟩,⟨x3,y3⟩⟩:=id h1;obtain⟨⟨z0,w0⟩,⟨z1,w1⟩,⟨z2,w2⟩,⟨z3,w3⟩⟩:=id h2;by_cases t0':ta=0
  ·by_cases v1:tb<lo.f0
   ·exact⟨false,catalogue_proves.e5 c.A ta tb tk lo hi _ k0 k2 (by omega) (by omega) t0' v1,fun h=>by cases h⟩
   by_cases v2:hi.f0≤tb
   ·exact⟨false,catalogue_proves.e6 c.A ta tb tk lo hi _ k0 k2 (by omega) (by omega) t0' (by omega) v2,fun h=>by cases h⟩
   obtain⟨QN,s1,s2⟩:=r0 lo ⟨tb,hi.f1,hi.f2,hi.f3⟩ h1 ⟨⟨by show 0≤tb;omega,by show tb<_;omega⟩,⟨z1,w1⟩,⟨z2,w2⟩,⟨z3,w3⟩⟩;cases QN with
   |false=>exact⟨false,catalogue_proves.e7 c.A ta tb tk lo hi _ b d g _ k0 k2 (by omega) (by omega) t0' (by omega) (by omega) (by unfold bf;omega) q0 s1 rfl,fun h=>by cases h⟩
   |true =>
    obtain⟨Ji,s3,s4⟩:=r1 ⟨tb+1,lo.f1,lo.f2,lo.f3⟩ hi ⟨⟨by show 0≤tb+1;omega,by show tb+1<_;omega⟩,⟨x1,y1⟩,⟨x2,y2⟩,⟨x3,y3⟩⟩ h2;refine⟨Ji,catalogue_proves.e8 c.A ta tb tk lo hi _ b d g _ j k l Ji none k0 k2 (by omega) (by omega) t0' (by omega) (by omega) (by unfold bf;omega) q0 s1 rfl q1 s3,fun gk i Jz => ?_⟩;obtain⟨n0,n1,n2,n3⟩:=Jz;by_cases hle:i.f0≤tb
    ·refine s2 rfl i ⟨?_,?_,?_,?_⟩<;>simp only<;>omega
    ·refine s4 gk i ⟨?_,?_,?_,?_⟩<;>simp only<;>omega
  by_cases t1':ta=1
  ·by_cases v1:tb<lo.f1
   ·exact⟨false,catalogue_proves.e10 c.A ta tb tk lo hi _ k0 k2 (by omega) (by omega) t1' v1,fun h=>by cases h⟩
   by_cases v2:hi.f1≤tb
   ·exact⟨false,catalogue_proves.Wm c.A ta tb tk lo hi _ k0 k2 (by omega) (by omega) t1' (by omega) v2,fun h=>by cases h⟩
   obtain⟨QN,s1,s2⟩:=r0 lo ⟨hi.f0,tb,hi.f2,hi.f3⟩ h1 ⟨⟨z0,w0⟩,⟨by show 0≤tb;omega,by show tb<_;omega⟩,⟨z2,w2⟩,⟨z3,w3⟩⟩;cases QN with
   |false=>exact⟨false,catalogue_proves.Wn c.A ta tb tk lo hi _ b d g _ k0 k2 (by omega) (by omega) t1' (by omega) (by omega) (by unfold bf;omega) q0 s1 rfl,fun h=>by cases h⟩
   |true =>
    obtain⟨Ji,s3,s4⟩:=r1 ⟨lo.f0,tb+1,lo.f2,lo.f3⟩ hi ⟨⟨x0,y0⟩,⟨by show 0≤tb+1;omega,by show tb+1<_;omega⟩,⟨x2,y2⟩,⟨x3,y3⟩⟩ h2;refine⟨Ji,catalogue_proves.e13 c.A ta tb tk lo hi _ b d g _ j k l Ji none k0 k2 (by omega) (by omega) t1' (by omega) (by omega) (by unfold bf;omega) q0 s1 rfl q1 s3,fun gk i Jz => ?_⟩;obtain⟨n0,n1,n2,n3⟩:=Jz;by_cases hle:i.f1≤tb
    ·refine s2 rfl i ⟨?_,?_,?_,?_⟩<;>simp only<;>omega
    ·refine s4 gk i ⟨?_,?_,?_,?_⟩<;>simp only<;>omega
  by_cases t2':ta=2
  ·by_cases v1:tb<lo.f2
   ·exact⟨false,catalogue_proves.e15 c.A ta tb tk lo hi _ k0 k2 (by omega) (by omega) t2' v1,fun h=>by cases h⟩
   by_cases v2:hi.f2≤tb
   ·exact⟨false,catalogue_proves.UG c.A ta tb tk lo hi _ k0 k2 (by omega) (by omega) t2' (by omega) v2,fun h=>by cases h⟩
   obtain⟨QN,s1,s2⟩:=r0 lo ⟨hi.f0,hi.f1,tb,hi.f3⟩ h1 ⟨⟨z0,w0⟩,⟨z1,w1⟩,⟨by show 0≤tb;omega,by show tb<_;omega⟩,⟨z3,w3⟩⟩;cases QN with
   |false=>exact⟨false,catalogue_proves.e17 c.A ta tb tk lo hi _ b d g _ k0 k2 (by omega) (by omega) t2' (by omega) (by omega) (by unfold bf;omega) q0 s1 rfl,fun h=>by cases h⟩
   |true =>
    obtain⟨Ji,s3,s4⟩:=r1 ⟨lo.f0,lo.f1,tb+1,lo.f3⟩ hi ⟨⟨x0,y0⟩,⟨x1,y1⟩,⟨by show 0≤tb+1;omega,by show tb+1<_;omega⟩,⟨x3,y3⟩⟩ h2;refine⟨Ji,catalogue_proves.Wo c.A ta tb tk lo hi _ b d g _ j k l Ji none k0 k2 (by omega) (by omega) t2' (by omega) (by omega) (by unfold bf;omega) q0 s1 rfl q1 s3,fun gk i Jz => ?_⟩;obtain⟨n0,n1,n2,n3⟩:=Jz;by_cases hle:i.f2≤tb
    ·refine s2 rfl i ⟨?_,?_,?_,?_⟩<;>simp only<;>omega
    ·refine s4 gk i ⟨?_,?_,?_,?_⟩<;>simp only<;>omega
  by_cases t3':ta=3
  ·by_cases v1:tb<lo.f3
   ·exact⟨false,catalogue_proves.e20 c.A ta tb tk lo hi _ k0 k2 (by omega) (by omega) t3' v1,fun h=>by cases h⟩
   by_cases v2:hi.f3≤tb
   ·exact⟨false,catalogue_proves.e21 c.A ta tb tk lo hi _ k0 k2 (by omega) (by omega) t3' (by omega) v2,fun h=>by cases h⟩
   obtain⟨QN,s1,s2⟩:=r0 lo ⟨hi.f0,hi.f1,hi.f2,tb⟩ h1 ⟨⟨z0,w0⟩,⟨z1,w1⟩,⟨z2,w2⟩,⟨by show 0≤tb;omega,by show tb<_;omega⟩⟩;cases QN with
   |false=>exact⟨false,catalogue_proves.e22 c.A ta tb tk lo hi _ b d g _ k0 k2 (by omega) (by omega) t3' (by omega) (by omega) (by unfold bf;omega) q0 s1 rfl,fun h=>by cases h⟩
   |true =>
    obtain⟨Ji,s3,s4⟩:=r1 ⟨lo.f0,lo.f1,lo.f2,tb+1⟩ hi ⟨⟨x0,y0⟩,⟨x1,y1⟩,⟨x2,y2⟩,⟨by show 0≤tb+1;omega,by show tb+1<_;omega⟩⟩ h2;refine⟨Ji,catalogue_proves.e23 c.A ta tb tk lo hi _ b d g _ j k l Ji none k0 k2 (by omega) (by omega) t3' (by omega) (by omega) (by unfold bf;omega) q0 s1 rfl q1 s3,fun gk i Jz => ?_⟩;obtain⟨n0,n1,n2,n3⟩:=Jz;by_cases hle:i.f3≤tb
    ·refine s2 rfl i ⟨?_,?_,?_,?_⟩<;>simp only<;>omega
    ·refine s4 gk i ⟨?_,?_,?_,?_⟩<;>simp only<;>omega
  omega
 ·rcases ac0.1 hu with rfl|hu
  ·exact h1
  ·exact h2 u hu
theorem Hy(hc:Good c)(hk:Cp 8 [c.A.pv] .ar)(x:bW)(hx:x.cost.num.length+x.cost.den.length≤20)(ta tb:Int)(tk:List aI) :
  (∃e:Int,Cp 10 [c.A.pv,x.pv,(⟨ta,tb,tk⟩:aI).pv] (.bg [vB false,.iface 86 (vI e)])) ∨
  ∃ok:Bool,Cp 10 [c.A.pv,x.pv,(⟨ta,tb,tk⟩:aI).pv] (.bg [vB ok,.ar])∧(ok=true→x.cost=bw (cs c x.index)∧Es c x.index):=by
 rcases Xc hc hk x.index with ⟨hi,hC⟩|⟨e,he⟩
 case inr=>exact .inl ⟨e,gZ.e3 c.A x ta tb tk _ e he⟩
 refine .inr ?_;have hv:=BW.Valid x.cost ⟨by omega,by omega⟩;have hb:=C8 hc hi hi;cases Im:x.cost.valid with
 |false=>rw[Im] at hv;exact⟨false,gZ.e0 c.A x ta tb tk _ _ hC hv rfl,fun h=>by cases h⟩
 |true =>
  rw[Im] at hv;have hm:=Ea Im;have hxh:ht x.cost.val≤20:=kS (by omega) (by omega) (by omega);have D4:=QF.Et (cs c x.index) x.cost.val (by show ht (bd c x.index x.index)≤_;omega) (by omega);rw[hm] at D4;by_cases heq:cs c x.index=x.cost.val
  ·obtain⟨ok,p1,p2⟩:=QM hc (cost:=cs c x.index) hb ⟨ta,tb,tk⟩ ⟨0,0,0,0⟩ (yC c) (Hx hc).2 (Hx hc).1;refine⟨ok,gZ.e2 c.A x ta tb tk _ _ _ (yC c) ok none hC hv rfl D4 (jy.2 heq) (last hc) p1,fun gk=>⟨by rw[heq];exact hm.symm,hi,fun j hj=>p2 gk j ?_⟩⟩;obtain⟨⟨j0,j1⟩,⟨j2,j3⟩,⟨j4,j5⟩,⟨j6,j7⟩⟩:=hj;unfold Bx yC;simp only;omega
  ·exact⟨false,gZ.e1 c.A x ta tb tk _ _ _ hC hv rfl D4 (fun h=>heq (jy.1 h)),fun h=>by cases h⟩
end Ct
end Go.Proofs.YtneklnlpgfeplaaGreat.Sym
