/- Lemmas for the statements of this seat. -/
import Derived.Test.YtcpnocgollpbhaaGreatDoorG0
import Derived.Test.YtcpnocgollpbhaaGreatDoorP1
import Derived.Test.YtcpnocgollpbhaaGreatDoorP2
namespace Go.Proofs.YtcpnocgollpbhaaGreatDoor.Sym
open Go Path
set_option linter.unusedVariables false
abbrev ws(a:Words):SC := .pure ((a:List UInt32).map ah).flatten
namespace yM
open cF
theorem Valid(a:av)(h:Fit a.cD):Cp 217 [a.pv] (vB a.valid):=by
 unfold av.valid;rw[dj];by_cases h0:a.cD.length=0
 ·simp only[h0,decide_true,cond_true];exact kI.e0 a h0
 ·simp only[h0,decide_false,cond_false];obtain⟨v,hv⟩:∃v,a.cD[a.cD.length-1]? = some v:=⟨_,afO (by omega)⟩;have:=kI.e1 a (a.cD.length-1) v h0 (by unfold az;omega) (by omega) hv;have e:cn a.cD=((v.toNat:Int) != 0):=by
   have h1:=nH hv;by_cases h2:v.toNat=0
   ·have h3:((v.toNat:Int) != 0)=false:=by simp[h2]
    rw[h3];cases hc:cn a.cD with
    |true=>exact absurd h2 (h1.1 hc)
    |false=>rfl
   ·have h3:((v.toNat:Int) != 0)=true:=by simp;omega
    rw[h3];exact h1.2 h2
  rw[e];exact this
theorem cD(a:av)(h:Fit a.cD):Cp 170 [a.pv] (af (words a.val.natAbs)):=by
 rw[F0];cases hv:a.valid with
 |false=>exact mw.e0 a a.valid (Valid a h) hv
 |true=>exact mw.e1 a a.valid (Valid a h) hv
theorem neg(a:av)(h:Fit a.cD):Cp 197 [a.pv] (vB (decide (a.val<0))):=by
 rw[AK];cases hv:a.valid with
 |false=>exact my.e1 a a.valid (Valid a h) hv
 |true=>rw[ahc];exact my.e0 a a.valid (Valid a h) hv
theorem trimmed{l:Words}{n:Nat}{v:UInt32}(hv:l[n]? = some v)(h0:v.toNat=0)(hn:n+1=l.length):nat (l.take n)=nat l:=by have:=bL hv;rw[aT (by omega),h0] at this;omega
theorem trim(a:Words)(h:a.length≤35184372088832):Cp 203 [af a] (af (words (nat a))):=by
 have loop:∀(n:Nat) (l:Words),l.length=n→n≤35184372088832→fh.ai l (af (words (nat l))):=by
  intro n
  induction n with
  |zero =>intro l hl _;have:l=[]:=afP hl;subst this;exact fh.kA [] (by simp)
  |succ n ih =>
   intro l hl hb;obtain⟨v,hv⟩:∃v,l[n]? = some v:=⟨_,afO (by omega)⟩;by_cases h0:v.toNat=0
   ·refine fh.l10 l n v n (by omega) (by unfold az;omega) (by omega) (by omega) hv h0 (by omega) (by omega) ?_;have:=ih (l.take n) (by simp;omega) (by omega);rwa[trimmed hv h0 hl.symm] at this
   ·rw[tT ((nH (v:=v) (by rw[hl];exact hv)).2 h0) rfl];exact fh.c9 l n v (by omega) (by unfold az;omega) (by omega) (by omega) hv h0
 exact fh.e0 a (by simp;omega) (loop _ a rfl h)
theorem Td(a:Words)(h:a.length≤35184372088832):au bp 203 [.pv (af a)] [] (.row 0 0 (words (nat a)).length 1) [(0,ws (words (nat a)))]:=by
 have loop:∀(n:Nat) (l:Words),l.length=n→n≤35184372088832→eL.ai l [] (.row 0 0 (words (nat l)).length 1) [(0,ws (words (nat l)))]:=by
  intro n
  induction n with
  |zero =>intro l hl _;have:l=[]:=afP hl;subst this;exact eL.kA [] rfl rfl (by simp)
  |succ n ih =>
   intro l hl hb;obtain⟨v,hv⟩:∃v,l[n]? = some v:=⟨_,afO (by omega)⟩;by_cases h0:v.toNat=0
   ·refine eL.l10 l n v n rfl (by omega) (by unfold az;omega) (by omega) (by omega) hv h0 (by omega) (by omega) ?_;have:=ih (l.take n) (by simp;omega) (by omega);rwa[trimmed hv h0 hl.symm] at this
   ·rw[tT ((nH (v:=v) (by rw[hl];exact hv)).2 h0) rfl];exact eL.c9 l n v rfl rfl (by omega) (by unfold az;omega) (by omega) (by omega) hv h0
 exact eL.e0 a (by simp;omega) (loop _ a rfl h)
theorem cut(a:Words)(h:a.length≤35184372088832):au bp 216 [.row 100000 0 a.length 1] [(100000,ws a)] (.row 100000 0 (words (nat a)).length 1) [(100000,ws (words (nat a)))]:=by
 have loop:∀n:Nat,n≤a.length→nat (a.take n)=nat a→fH.ai n a [(100000,ws a)] (.row 100000 0 (words (nat a)).length 1) [(100000,ws (words (nat a)))]:=by
  intro n
  induction n with
  |zero =>
   intro _ h2;have:nat a=0:=by rw[←h2];rfl
   rw[this,fJ];have:=fH.kA 0 a (sin:=[(100000,ws a)]) rfl rfl (afY 0);exact this
  |succ n ih =>
   intro h1 h2;obtain⟨v,hv⟩:∃v,a[n]? = some v:=⟨_,afO (by omega)⟩;by_cases h0:v.toNat=0
   ·refine fH.l10 _ a n v n rfl (by omega) (by unfold az;omega) (by omega) (by omega) hv h0 (by omega) (by omega) (ih (by omega) ?_);rw[bL hv,h0] at h2;omega
   ·have e:words (nat a)=a.take (n+1):=by
     refine tT ?_ h2;refine(nH (v:=v) ?_).2 h0;rw[agh,ah0 h1,aik,agG,ag9 (by omega)];exact hv
    have:=fH.c9 (n+1) a n v (sin:=[(100000,ws a)]) rfl rfl (by omega) (by unfold az;omega) (by omega) (by omega) hv h0;rw[e,agh,ah0 h1];exact this
 exact fH.e0 a a.length (loop a.length (afY _) (aT (afY _)))
theorem form(neg:Bool)(m:Words)(h:m.length≤35184372088832):Cp 156 [vB neg,af m] (Sym.whole (bif neg then -(nat m:Int) else (nat m:Int))).pv:=by
 have ht:=trim m h;by_cases h0:nat m=0
 ·have:=lC.e0 neg m _ ht (by rw[h0,fJ];rfl);rw[h0];cases neg<;>exact this
 ·have hl:(words (nat m)).length≠0:=by rw[Ne,dF];exact h0
  have:=lC.e1 neg m _ ht hl;cases neg with
  |false =>
   have e:decide ((nat m:Int)<0)=false:=by simp
   simp only[Sym.whole,cond_false,e,Int.natAbs_natCast];exact this
  |true =>
   have e:decide (-(nat m:Int)<0)=true:=by simp;omega
   simp only[Sym.whole,cond_true,e,Int.natAbs_neg,Int.natAbs_natCast];exact this
theorem at'(a:Words)(i:Nat):Cp 232 [af a,vI (i:Int)] (vU (wd a i)):=by
 unfold wd;cases h:a[i]? with
 |none =>have:=ail.1 h;exact nj.e1 a i (by omega)
 |some v =>have:=(afQ.1 h).1;exact nj.e0 a i i v (by omega) rfl h
theorem atR(a:Words)(i:Nat)(len:Nat)(hl:len=a.length):au bp 232 [.row 100000 0 len 1,.pv (vI (i:Int))] [(100000,ws a)] (.pv (vU (wd a i))) [(100000,ws a)]:=by
 subst hl;unfold wd;cases h:a[i]? with
 |none =>have:=ail.1 h;exact mz.e1 a a.length i (by omega)
 |some v =>have:=(afQ.1 h).1;exact mz.e0 a a.length i i v (by omega) rfl this h
def Alike(a b:Words)(n:Nat):Prop:=∀q,n≤q→wd a q=wd b q
theorem Pj:∀(n:Nat) (a b:Words),a.length≤n→b.length≤n→(∀q,wd a q=wd b q)→nat a=nat b
 |0,a,b,ha,hb,_=>by have h1:a=[]:=afP (by omega);have h2:b=[]:=afP (by omega);rw[h1,h2]
 |n+1,a,b,ha,hb,h=>by
  have h1:=jY a 0;have h2:=jY b 0;have hw:∀(c:Words) (q:Nat),wd (c.drop 1) q=wd c (q+1):=fun c q=>by unfold wd;rw[agS,aiW]
  have:=Pj n (a.drop 1) (b.drop 1) (by simp;omega) (by simp;omega) (fun q=>by rw[hw,hw];exact h (q+1));simp only[List.drop_zero,Nat.zero_add] at h1 h2;rw[h1,h2,this,h 0]
theorem Cq{a b:Words}{n:Nat}(h:Alike a b n):nat (a.drop n)=nat (b.drop n):=by refine Pj (max (a.drop n).length (b.drop n).length) _ _ (ai2 _ _) (ahE _ _) (fun q => ?_);have:=h (n+q) (by omega);unfold wd at this ⊢;rw[agS,agS];exact this
theorem Ls(a:Words)(k:Nat):nat a=nat (a.take k)+4294967296^k*wd a k+4294967296^(k+1)*nat (a.drop (k+1)):=by
 by_cases h:k<a.length
 ·have hv:=afO h;rw[jK hv];exact yK a k hv
 ·rw[aT (by omega),xD (by omega),agv (by omega),show nat []=0 from rfl,ajJ,ajJ,ahw]
theorem yN{a b:Words}{k:Nat}(h:Alike a b (k+1))(bH:wd a k<wd b k):nat a<nat b:=by rw[Ls a k,Ls b k,Cq h];have h1:=eC (a.take k);have h2:=mD (show (a.take k).length≤k by simp;omega);have h3:4294967296^k*(wd a k+1)≤4294967296^k*wd b k:=aga _ bH;rw[agl] at h3;omega
theorem yO{a b:Words}{n:Nat}(ha:a.length≤n)(hb:b.length≤n):Alike a b n:=fun q hq=>by rw[xD (by omega),xD (by omega)]
theorem yP{a b:Words}(h:Alike a b 0):nat a=nat b:=by have:=Cq h;simpa using this
theorem wh{a b:Words}{n:Nat}(h:Alike a b (n+1))(he:wd a n=wd b n):Alike a b n:=fun q hq=>by
 by_cases QP:q=n
 ·rw[QP];exact he
 ·exact h q (by omega)
theorem compare(a b:Words)(ha:a.length<4611686018427387904)(hb:b.length<4611686018427387904):Cp 199 [af a,af b] (vI (dV (nat a) (nat b))):=by
 have loop:∀n:Nat,n<4611686018427387904→Alike a b n→da.ai a b ((n:Int)-1) (vI (dV (nat a) (nat b))):=by
  intro n
  induction n with
  |zero =>intro _ hd;rw[AL (by rw[yP hd])];exact da.uA a b _ (by omega)
  |succ n ih =>
   intro hn hd;have e:((n+1:Nat):Int)-1=(n:Int):=by omega
   have h1:=at' a n;have h2:=at' b n;rw[e];by_cases he:wd a n=wd b n
   ·exact da.kA a b _ _ _ (by omega) h1 h2 he (by unfold az;omega) (ih (by omega) (wh hd he))
   ·by_cases bH:wd a n<wd b n
    ·rw[qy (by have:=yN hd bH;omega)];exact da.l10 a b _ _ _ _ _ (by omega) h1 h2 he h1 h2 bH
    ·rw[oG (by have:=yN (a:=b) (b:=a) (fun q hq=>(hd q hq).symm) (show wd b n<wd a n by omega);omega)];exact da.c9 a b _ _ _ _ _ (by omega) h1 h2 he h1 h2 (by omega)
 exact da.e0 a b (by unfold az;omega) (loop _ (by omega) (yO (ai2 _ _) (ahE _ _)))
theorem Pk(a b:Words)(len:Nat)(hl:len=a.length)(ha:a.length<4611686018427387904)(hb:b.length<4611686018427387904) :
  au bp 199 [.row 100000 0 len 1,.pv (af b)] [(100000,ws a)] (.pv (vI (dV (nat a) (nat b)))) [(100000,ws a)]:=by
 have loop:∀n:Nat,n<4611686018427387904→Alike a b n→cO.ai len b ((n:Int)-1) a [(100000,ws a)] (.pv (vI (dV (nat a) (nat b)))) [(100000,ws a)]:=by
  intro n
  induction n with
  |zero =>intro _ hd;rw[AL (by rw[yP hd])];exact cO.uA len b _ a rfl rfl (by omega)
  |succ n ih =>
   intro hn hd;have e:((n+1:Nat):Int)-1=(n:Int):=by omega
   have h1:=atR a n len hl;have h2:=at' b n;rw[e];by_cases he:wd a n=wd b n
   ·exact cO.kA len b _ a a _ _ rfl (by omega) h1 h2 he (by unfold az;omega) (ih (by omega) (wh hd he))
   ·by_cases bH:wd a n<wd b n
    ·rw[qy (by have:=yN hd bH;omega)];exact cO.l10 len b _ a a _ _ a _ _ rfl rfl (by omega) h1 h2 he h1 h2 bH
    ·rw[oG (by have:=yN (a:=b) (b:=a) (fun q hq=>(hd q hq).symm) (show wd b n<wd a n by omega);omega)];exact cO.c9 len b _ a a _ _ a _ _ rfl rfl (by omega) h1 h2 he h1 h2 (by omega)
 exact cO.e0 a len b (by unfold az;omega) (loop _ (by omega) (yO (by omega) (ahE _ _)))
theorem MS(a b:Words)(len kQ:Nat)(hl:len=a.length)(I8:kQ=b.length)(ha:a.length<4611686018427387904)(hb:b.length<4611686018427387904) :
  au bp 199 [.row 100000 0 len 1,.row 100001 0 kQ 1] [(100000,ws a),(100001,ws b)] (.pv (vI (dV (nat a) (nat b)))) [(100000,ws a),(100001,ws b)]:=by
 have loop:∀n:Nat,n<4611686018427387904→Alike a b n→cI.ai len kQ ((n:Int)-1) a b [(100000,ws a),(100001,ws b)] (.pv (vI (dV (nat a) (nat b)))) [(100000,ws a),(100001,ws b)]:=by
  intro n
  induction n with
  |zero =>intro _ hd;rw[AL (by rw[yP hd])];exact cI.uA len kQ _ a b rfl rfl (by omega)
  |succ n ih =>
   intro hn hd;have e:((n+1:Nat):Int)-1=(n:Int):=by omega
   have h1:=atR a n len hl;have h2:=atR b n kQ I8;rw[e];by_cases he:wd a n=wd b n
   ·exact cI.kA len kQ _ a b a _ b _ rfl (by omega) h1 h2 he (by unfold az;omega) (ih (by omega) (wh hd he))
   ·by_cases bH:wd a n<wd b n
    ·rw[qy (by have:=yN hd bH;omega)];exact cI.l10 len kQ _ a b a _ b _ a _ b _ rfl rfl (by omega) h1 h2 he h1 h2 bH
    ·rw[oG (by have:=yN (a:=b) (b:=a) (fun q hq=>(hd q hq).symm) (show wd b n<wd a n by omega);omega)];exact cI.c9 len kQ _ a b a _ b _ a _ b _ rfl rfl (by omega) h1 h2 he h1 h2 (by omega)
 exact cI.e0 a len b kQ (by unfold az;omega) (loop _ (by omega) (yO (by omega) (by omega)))
theorem Ic(l:Words)(w:UInt32):nat (l++[w])=nat l+4294967296^l.length*w.toNat:=by rw[np];simp[nat]
theorem plus(a b:Words)(ha:a.length≤2199023255552)(hb:b.length≤2199023255552):Cp 198 [af a,af b] (af (words (nat a+nat b))):=by
 have loop:∀(j t carry:Nat) (site:Words),max a.length b.length+1-t=j→t≤max a.length b.length+1→site.length=t→carry≤1 →
   nat site+4294967296^t*carry=nat (a.take t)+nat (b.take t)→gb.ai a b site carry t (af (words (nat a+nat b))):=by
  intro j
  induction j with
  |zero =>
   intro t carry site hj ht hs hc hinv;have Ap:t=max a.length b.length+1:=by omega
   have Kf:nat site=nat a+nat b:=by
    rw[aT (by omega),aT (by omega)] at hinv;have h1:=eC a;have h2:=eC b;have h3:=mD (show a.length≤t-1 by omega);have h4:=mD (show b.length≤t-1 by omega);have h5:(4294967296:Nat)^t=4294967296^(t-1)*4294967296:=by rw[←agb];congr 1;omega
    have zS:carry=0:=by
     cases carry with
     |zero=>rfl
     |succ c =>have h6:4294967296^t*1≤4294967296^t*(c+1):=aga _ (by omega);omega
    subst zS;simpa using hinv
   have:=gb.c9 a b site carry t (words (nat site)) (by omega) (trim site (by omega));rwa[Kf] at this
  |succ j ih =>
   intro t carry site hj ht hs hc hinv;have h1:=nV a t;have h2:=nV b t;obtain⟨w,hw⟩:=iw ((wd a t+wd b t+carry)%4294967296) (by omega);have Pc:(2:Nat)^min 32 64=4294967296:=by decide
   refine gb.l10 a b site carry t _ _ (wd a t+wd b t) (wd a t+wd b t+carry) w ((wd a t+wd b t+carry)/4294967296) (by omega) (at' a t) (at' b t) (by omega) (by omega) hw.symm (by simp;omega) (by rw[Pc]) (by omega) ?_;refine ih (t+1) _ (site++[w]) (by omega) (by omega) (by simpa using hs) (by omega) ?_;rw[Ic,hs,eb a t,eb b t,hw,agb,agr];have h6:4294967296^t*((wd a t+wd b t+carry)%4294967296)+4294967296^t*(4294967296*((wd a t+wd b t+carry)/4294967296))=4294967296^t*carry+4294967296^t*wd a t+4294967296^t*wd b t:=by
    rw[←agl,←agl,←agl]
    congr 1
    omega
   omega
 exact gb.e0 a b (by omega) (loop _ 0 0 _ rfl (by omega) rfl (by omega) (by simp[nat]))
theorem wi{p q borrow:Nat}(hp:p<4294967296)(hq:q<4294967296)(hb:borrow≤1) :
  ∃s d d1 x z nb:Nat,(4294967296+p)%18446744073709551616=s∧((s:Nat)-(q:Nat):Int)%18446744073709551616=(d:Int)∧((d:Nat)-(borrow:Nat):Int)%18446744073709551616=(d1:Int)∧d1%4294967296=x∧d1/2^min 32 64=z ∧
   ((1:Nat)-(z:Nat):Int)%18446744073709551616=(nb:Int)∧nb≤1∧x<4294967296∧x+q+borrow=p+4294967296*nb:=by
 have e:(2:Nat)^min 32 64=4294967296:=by decide
 rw[e];refine⟨4294967296+p,4294967296+p-q,4294967296+p-q-borrow,_,_,1-(4294967296+p-q-borrow)/4294967296,by omega,by omega,by omega,rfl,rfl,?_,?_,?_,?_⟩
 ·have h1:(4294967296+p-q-borrow)/4294967296≤1:=by omega
  generalize (4294967296+p-q-borrow)/4294967296=u at h1 ⊢;omega
 ·omega
 ·omega
 ·by_cases h:q+borrow≤p
  ·have h1:(4294967296+p-q-borrow)/4294967296=1:=by omega
   rw[h1];omega
  ·have h1:(4294967296+p-q-borrow)/4294967296=0:=by omega
   rw[h1];omega
theorem minus(a b:Words)(ha:a.length≤2199023255552)(gM:nat b≤nat a):Cp 200 [af a,af b] (af (words (nat a-nat b))):=by
 have loop:∀(j t borrow:Nat) (site:Words),a.length-t=j→t≤a.length→site.length=t→borrow≤1 →
   nat site+nat (b.take t)=nat (a.take t)+4294967296^t*borrow→fL.ai a b site borrow t (af (words (nat a-nat b))):=by
  intro j
  induction j with
  |zero =>
   intro t borrow site hj ht hs hc hinv;have Ap:t=a.length:=by omega
   have Kf:nat site=nat a-nat b:=by
    subst Ap;rw[aT (l:=a) (by omega)] at hinv;have h1:=eC a;have h2:=eC site;rw[hs] at h2;have h3:nat (b.take a.length)=nat b:=by
     by_cases hl:b.length≤a.length
     ·exact aT hl
     ·have h4:=km b a.length (by omega);have h5:nat (b.drop a.length)=0:=by
       refine ah9 fun hp => ?_
       have:=aga (4294967296^a.length) hp;omega
      rw[h5] at h4;omega
    have Lm:borrow=0:=by
     refine ah9 fun hp => ?_
     have:=aga (4294967296^a.length) hp;omega
    subst Lm;omega
   have:=fL.c9 a b site borrow t (words (nat site)) (by omega) (trim site (by omega));rwa[Kf] at this
  |succ j ih =>
   intro t borrow site hj ht hs hc hinv;obtain⟨s,d,d1,x,z,nb,g1,g2,g3,g4,g5,g6,g7,g8,g9⟩:=wi (nV a t) (nV b t) hc;obtain⟨w,hw⟩:=iw x g8;refine fL.l10 a b site borrow t _ s _ d d1 w z nb (by omega) (at' a t) g1 (at' b t) g2 g3 (by omega) (by simp;omega) g5 g6 (by omega) ?_;refine ih (t+1) nb (site++[w]) (by omega) (by omega) (by simpa using hs) g7 ?_;rw[Ic,hs,eb a t,eb b t,hw,agb,agr];have h6:4294967296^t*x+4294967296^t*wd b t+4294967296^t*borrow=4294967296^t*wd a t+4294967296^t*(4294967296*nb):=by rw[←agl,←agl,←agl,g9]
   omega
 exact fL.e0 a b (loop _ 0 0 _ rfl (by omega) rfl (by omega) (by simp[nat]))
theorem Ie{a b U:Words}{borrow:Nat}(hl:U.length=a.length)(gM:nat b≤nat a)(hinv:nat (U.take a.length)+nat (b.take a.length)=nat (a.take a.length)+4294967296^a.length*borrow):nat U=nat a-nat b:=by
 rw[aT (by omega),aT (l:=a) (by omega)] at hinv;have h1:=eC a;have h2:=eC U;rw[hl] at h2;have h3:nat (b.take a.length)=nat b:=by
  by_cases hl:b.length≤a.length
  ·exact aT hl
  ·have h4:=km b a.length (by omega);have h5:nat (b.drop a.length)=0:=by
    refine ah9 fun hp => ?_
    have:=aga (4294967296^a.length) hp;omega
   rw[h5] at h4;omega
 have Lm:borrow=0:=by
  refine ah9 fun hp => ?_
  have:=aga (4294967296^a.length) hp;omega
 subst Lm;omega
theorem ED{a b U:Words}{borrow nb t:Nat}{w:UInt32}(ht:t<a.length)(hl:U.length=a.length)(hinv:nat (U.take t)+nat (b.take t)=nat (a.take t)+4294967296^t*borrow)(h:w.toNat+wd b t+borrow=wd a t+4294967296*nb) :
  nat ((U.set t w).take (t+1))+nat (b.take (t+1))=nat (a.take (t+1))+4294967296^(t+1)*nb:=by
 rw[gL (by omega),eb a t,eb b t,agb,agr];have h6:4294967296^t*w.toNat+4294967296^t*wd b t+4294967296^t*borrow=4294967296^t*wd a t+4294967296^t*(4294967296*nb):=by rw[←agl,←agl,←agl,h]
 omega
theorem uG{l:Words}{t q:Nat}{w:UInt32}(h:q≠t):wd (l.set t w) q=wd l q:=by unfold wd;rw[ah1 (by omega)]
theorem take(a b:Words)(len:Nat)(hlen:len=a.length)(ha:a.length≤2199023255553)(gM:nat b≤nat a) :
  ∃U:Words,U.length=a.length∧nat U=nat a-nat b∧au bp 215 [.row 100000 0 len 1,.pv (af b)] [(100000,ws a)] (.pv (.aF [])) [(100000,ws U)]:=by
 subst hlen;have loop:∀(j t borrow:Nat) (U:Words),a.length-t=j→t≤a.length→U.length=a.length→borrow≤1→(∀q,t≤q→wd U q=wd a q) →
   nat (U.take t)+nat (b.take t)=nat (a.take t)+4294967296^t*borrow →
   ∃V:Words,V.length=a.length∧nat V=nat a-nat b∧gd.ai a.length b borrow t U [(100000,ws a)] (.pv (.aF [])) [(100000,ws V)]:=by
  intro j
  induction j with
  |zero =>
   intro t borrow U hj ht hl hb ij hinv;have Ap:t=a.length:=by omega
   subst Ap;exact⟨U,hl,Ie hl gM hinv,gd.c9 _ b borrow _ U (sin:=[(100000,ws a)]) rfl rfl (afY _)⟩
  |succ j ih =>intro t borrow U hj ht hl hb ij hinv;obtain⟨s,d,d1,x,z,nb,g1,g2,g3,g4,g5,g6,g7,g8,g9⟩:=wi (nV a t) (nV b t) hb;obtain⟨w,hw⟩:=iw x g8;obtain⟨V,h1,h2,h3⟩:=ih (t+1) nb (U.set t w) (by omega) (by omega) (by simpa using hl) g7 (fun q hq=>by rw[uG (by omega)];exact ij q (by omega)) (ED (by omega) hl hinv (by rw[hw];exact g9));refine⟨V,h1,h2,gd.l10 _ b borrow t U U _ s _ d d1 w z nb rfl (by omega) (atR U t a.length hl.symm) (by rw[ij t (afY t)];exact g1) (at' b t) g2 g3 (by omega) g5 g6 (by omega) (by omega) h3⟩
 obtain⟨V,h1,h2,h3⟩:=loop _ 0 0 a rfl (by omega) rfl (by omega) (fun _ _=>rfl) (by simp[nat]);exact⟨V,h1,h2,gd.e0 a a.length b h3⟩
theorem Xm(a b:Words)(len kQ:Nat)(hlen:len=a.length)(Xn:kQ=b.length)(ha:a.length≤2199023255553)(gM:nat b≤nat a) :
  ∃U:Words,U.length=a.length∧nat U=nat a-nat b∧au bp 215 [.row 100000 0 len 1,.row 100001 0 kQ 1] [(100000,ws a),(100001,ws b)] (.pv (.aF [])) [(100000,ws U),(100001,ws b)]:=by
 subst hlen;have loop:∀(j t borrow:Nat) (U:Words),a.length-t=j→t≤a.length→U.length=a.length→borrow≤1→(∀q,t≤q→wd U q=wd a q) →
   nat (U.take t)+nat (b.take t)=nat (a.take t)+4294967296^t*borrow →
   ∃V:Words,V.length=a.length∧nat V=nat a-nat b∧fN.ai a.length kQ borrow t U b [(100000,ws a),(100001,ws b)] (.pv (.aF [])) [(100000,ws V),(100001,ws b)]:=by
  intro j
  induction j with
  |zero =>
   intro t borrow U hj ht hl hb ij hinv;have Ap:t=a.length:=by omega
   subst Ap;exact⟨U,hl,Ie hl gM hinv,fN.c9 _ _ borrow _ U b (sin:=[(100000,ws a),(100001,ws b)]) rfl rfl (afY _)⟩
  |succ j ih =>intro t borrow U hj ht hl hb ij hinv;obtain⟨s,d,d1,x,z,nb,g1,g2,g3,g4,g5,g6,g7,g8,g9⟩:=wi (nV a t) (nV b t) hb;obtain⟨w,hw⟩:=iw x g8;obtain⟨V,h1,h2,h3⟩:=ih (t+1) nb (U.set t w) (by omega) (by omega) (by simpa using hl) g7 (fun q hq=>by rw[uG (by omega)];exact ij q (by omega)) (ED (by omega) hl hinv (by rw[hw];exact g9));refine⟨V,h1,h2,fN.l10 _ _ borrow t U b U _ s b _ d d1 w z nb rfl (by omega) (atR U t a.length hl.symm) (by rw[ij t (afY t)];exact g1) (atR b t kQ Xn) g2 g3 (by omega) g5 g6 (by omega) (by omega) h3⟩
 obtain⟨V,h1,h2,h3⟩:=loop _ 0 0 a rfl (by omega) rfl (by omega) (fun _ _=>rfl) (by simp[nat]);exact⟨V,h1,h2,fN.e0 a a.length b kQ h3⟩
theorem MT{x y:Nat}(hx:x<4294967296)(hy:y<4294967296):((x/2)%18446744073709551616) ||| ((y*2^min 31 64)%18446744073709551616%18446744073709551616)=(y*4294967296+x)/2:=by
 have e:(2:Nat)^min 31 64=2147483648:=by decide
 rw[e,ajl,agu (show x/2<18446744073709551616 by omega),agu (show y*2147483648<18446744073709551616 by omega),Nat.or_comm,agR y];have:=ahQ (i:=31) (show x/2<2^31 by omega) y;rw[show (2:Nat)^31=2147483648 from rfl] at this;rw[←this];omega
theorem MU{a U:Words}{t:Nat}{w:UInt32}(ht:t<a.length)(hl:U.length=a.length)(hinv:nat (U.take t)=(nat a/2)%4294967296^t)(hw:w.toNat=(wd a (t+1)*4294967296+wd a t)/2%4294967296) :
  nat ((U.set t w).take (t+1))=(nat a/2)%4294967296^(t+1):=by
 rw[gL (by omega),hinv,hw];have g1:nat a/2/4294967296^t=nat (a.drop t)/2:=by rw[ahU,agR,←ahU,tV a t (by omega)]
 have g2:nat (a.drop t)/2%4294967296=(wd a (t+1)*4294967296+wd a t)/2%4294967296:=by rw[jY a t,jY a (t+1)];generalize nat (a.drop (t+1+1))=r;generalize wd a (t+1)=y;generalize wd a t=x;omega
 have g3:=Nat.mod_mul (a:=4294967296^t) (b:=4294967296) (x:=nat a/2);rw[agb,g3,g1,g2]
theorem Ig(a:Words)(len:Nat)(hlen:len=a.length)(ha:a.length≤2199023255553) :
  au bp 214 [.row 100000 0 len 1] [(100000,ws a)] (.row 100000 0 (words (nat a/2)).length 1) [(100000,ws (words (nat a/2)))]:=by
 subst hlen;have e1:(2:Nat)^min 1 64=2:=by decide
 have loop:∀(j t:Nat) (U:Words),a.length-t=j→t≤a.length→U.length=a.length→(∀q,t≤q→wd U q=wd a q)→nat (U.take t)=(nat a/2)%4294967296^t →
   fM.ai a.length t U [(100000,ws a)] (.row 100000 0 (words (nat a/2)).length 1) [(100000,ws (words (nat a/2)))]:=by
  intro j
  induction j with
  |zero =>
   intro t U hj ht hl ij hinv;have Ap:t=a.length:=by omega
   subst Ap;rw[aT (by omega),agu (ahg (ahe _ _) (eC a))] at hinv;have hc:=cut U (by omega);rw[hinv,hl] at hc;have:=fM.c9 a.length a.length U (words (nat a/2)) (words (nat a/2)).length (sin:=[(100000,ws a)]) rfl rfl (afY _) hc;rw[agd (afY _)] at this;exact this
  |succ j ih =>intro t U hj ht hl ij hinv;have h1:=nV a t;have h2:=nV a (t+1);obtain⟨w,hw⟩:=iw ((wd a (t+1)*4294967296+wd a t)/2%4294967296) (ahy _ (by omega));have hA:=atR U t a.length hl.symm;have hB:=atR U (t+1) a.length hl.symm;rw[ij t (afY t)] at hA;rw[ij (t+1) (by omega)] at hB;refine fM.l10 a.length t U U _ _ U _ _ ((wd a (t+1)*4294967296+wd a t)/2) w rfl (by omega) hA (by rw[e1]) (by omega) hB rfl (MT h1 h2) hw.symm (by omega) ?_;exact ih (t+1) (U.set t w) (by omega) (by omega) (by simpa using hl) (fun q hq=>by rw[uG (by omega)];exact ij q (by omega)) (MU (by omega) hl hinv hw)
 exact fM.e0 a a.length (loop _ 0 a rfl (by omega) rfl (fun _ _=>rfl) (by simp[nat,Nat.mod_one]))
end yM
namespace yM
open cF
theorem times(a b:Words)(ha:a.length≤2199023255552)(hb:b.length≤2199023255552):Cp 201 [af a,af b] (af (words (nat a*nat b))):=by
 have inner:∀(i:Nat) (v:UInt32) (r:PV),a[i]? = some v→i<a.length→(∀site:Words,site.length=a.length+b.length→nat site=nat (a.take i)*nat b+4294967296^i*(v.toNat*nat b)→(∀q,i+1+b.length≤q→q<site.length→wd site q=0)→cE.ai a b (i+1) site r) →
   ∀(j k carry:Nat) (site:Words),b.length-k=j→k≤b.length→site.length=a.length+b.length→carry<4294967296→(∀q,i+b.length≤q→q<site.length→wd site q=0) →
   nat site+4294967296^(i+k)*carry=nat (a.take i)*nat b+4294967296^i*(v.toNat*nat (b.take k))→cE.bD a b i carry i k site r:=by
  intro i v r hv hi JE j
  induction j with
  |zero =>
   intro k carry site hj hk hs hc hz hinv;have hke:k=b.length:=by omega
   subst hke;obtain⟨w,hw⟩:=iw carry hc;refine cE.FM a b i carry i b.length site w (by omega) (by omega) (by omega) (by omega) (by omega) (by omega) (JE _ (by simpa using hs) ?_ ?_)
   ·obtain⟨u,hu⟩:∃u,site[i+b.length]? = some u:=⟨_,afO (by omega)⟩;have h0:=hz (i+b.length) (by omega) (by omega);rw[jK hu] at h0;have h1:=qx site (i+b.length) w u hu;rw[h0,hw] at h1;rw[aT (l:=b) (by omega)] at hinv;omega
   ·intro q Wg Ed;rw[aip] at Ed;have:=hz q (by omega) Ed;unfold wd at this ⊢;rw[ah1 (by omega)];exact this
  |succ j ih =>
   intro k carry site hj hk hs hc hz hinv;obtain⟨u,hu⟩:∃u,b[k]? = some u:=⟨_,afO (by omega)⟩;obtain⟨x,hx⟩:∃x,site[i+k]? = some x:=⟨_,afO (by omega)⟩;have h1:=xE (ju v) (ju u);have h2:=ju x;generalize hp:v.toNat*u.toNat=p at *;obtain⟨w,hw⟩:=iw ((carry+(p+x.toNat))%4294967296) (by omega);have e:(2:Nat)^min 32 64=4294967296:=by decide
   refine cE.BZ a b i carry i k site v u p x (p+x.toNat) (carry+(p+x.toNat)) w ((carry+(p+x.toNat))/4294967296) (by omega) hv hu (by rw[hp];omega) (by omega) (by omega) hx (by omega) (by omega) hw.symm (by rw[e]) (by omega) (by omega) ?_;refine ih (k+1) _ (site.set (i+k) w) (by omega) (by omega) (by simpa using hs) (by omega) ?_ ?_
   ·intro q Wg Ed;rw[aip] at Ed;have:=hz q Wg Ed;unfold wd at this ⊢;rw[ah1 (by omega)];exact this
   ·have g1:=qx site (i+k) w x hx;rw[hw] at g1;rw[bL hu,show i+(k+1)=i+k+1 from rfl,agb,agr];have g2:4294967296^(i+k)*((carry+(p+x.toNat))%4294967296)+4294967296^(i+k)*(4294967296*((carry+(p+x.toNat))/4294967296))=4294967296^(i+k)*carry+4294967296^(i+k)*p+4294967296^(i+k)*x.toNat:=by
     rw[←agl,←agl,←agl];congr 1;omega
    have g3:4294967296^i*(v.toNat*(nat (b.take k)+4294967296^k*u.toNat))=4294967296^i*(v.toNat*nat (b.take k))+4294967296^(i+k)*p:=by
     rw[←hp,ahG,agl,agl]
     congr 1
     rw[agr];congr 1;rw[aiK]
    omega
 have loop:∀(j t:Nat) (site:Words),a.length-t=j→t≤a.length→site.length=a.length+b.length→nat site=nat (a.take t)*nat b→(∀q,t+b.length≤q→q<site.length→wd site q=0) →
   cE.ai a b t site (af (words (nat a*nat b))):=by
  intro j
  induction j with
  |zero =>intro t site hj ht hs hinv _;rw[aT (by omega)] at hinv;have:=cE.c9 a b t site (words (nat site)) (by omega) (by omega) (trim site (by omega));rwa[hinv] at this
  |succ j ih =>
   intro t site hj ht hs hinv hz;obtain⟨v,hv⟩:∃v,a[t]? = some v:=⟨_,afO (by omega)⟩;refine cE.l10 a b t site (by omega) ?_;refine inner t v _ hv (by omega) (fun O7 NY WO QK => ?_) _ 0 0 site rfl (by omega) hs (by omega) hz ?_
   ·refine ih (t+1) O7 (by omega) (by omega) NY ?_ QK;rw[WO,bL hv,agF,agr]
   ·simp[nat,hinv]
 refine cE.e0 a b (by omega) (by omega) (loop _ 0 _ rfl (by omega) (by simp) (by simp[nat,nr]) ?_);intro q _ hq;unfold wd;rw[ahk];split
 ·rename_i w h;split at h
  ·injection h with h;subst h;rfl
  ·cases h
 ·rfl
theorem EE(k:Nat):(4294967296:Nat)^k=2^(32*k):=by rw[ajC]
theorem U4{l:Words}{k:Nat}(h:l.length=k+1):nat l=nat (l.take k)+4294967296^k*wd l k:=by have:=eb l k;rwa[aT (by omega)] at this
theorem bits(a:Words)(hc:cn a=true)(ha:a.length≤2199023255553):Cp 233 [af a] (vI (blen (nat a))):=by
 by_cases h0:a.length=0
 ·have:a=[]:=afP h0;subst this;exact dQ.e0 [] rfl
 ·have loop:∀(j:Nat) (n:Int) (x:UInt32),x.toNat≤j→az (n+j)→az n→dQ.ai n x (vI (n+blen x.toNat)):=by
   intro j
   induction j with
   |zero =>
    intro n x hx _ _;have e:x.toNat=0:=by omega
    rw[e,uD];have:=dQ.c9 n x (by omega);rwa[show n+((0:Nat):Int)=n from by omega]
   |succ j ih =>
    intro n x hx hn Wh;by_cases h:x.toNat=0
    ·rw[h,uD];have:=dQ.c9 n x (by omega);rwa[show n+((0:Nat):Int)=n from by omega]
    ·obtain⟨z,hz⟩:=iw (x.toNat/2) (by have:=ju x;omega);have e:blen x.toNat=1+blen (x.toNat/2):=by
      have:=tU (n:=x.toNat) (k:=1);by_cases h1:x.toNat=1
      ·rw[h1];rfl
      ·exact this (by omega)
     unfold az at hn Wh;have:=ih (n+1) z (by omega) (by unfold az;omega) (by unfold az;omega);rw[hz] at this;rw[e,show n+((1+blen (x.toNat/2):Nat):Int)=n+1+(blen (x.toNat/2):Nat) from by omega];exact dQ.l10 n x z (by omega) (by unfold az;omega) (by rw[hz];rfl) this
  obtain⟨k,hk⟩:∃k,a.length=k+1:=⟨a.length-1,by omega⟩;obtain⟨v,hv⟩:∃v,a[k]? = some v:=⟨_,afO (by omega)⟩;have h1:=(nH (v:=v) (by rw[hk];exact hv)).1 hc;have h2:=eC (a.take k);rw[agh,ah0 (by omega)] at h2;have h3:=U4 hk;rw[jK hv] at h3;have e:blen (nat a)=32*k+blen v.toNat:=by
   rw[EE] at h2 h3;have h4:2^(32*k)≤nat a:=by have:=aga (2^(32*k)) (show 1≤v.toNat by omega);omega
   rw[tU h4]
   congr 2
   rw[h3,Nat.add_mul_div_left _ _ (agL _),ai7 h2,agQ]
  have hw:=ju v;have:=loop v.toNat (32*((a.length:Int)-1)) v (afY _) (by unfold az;omega) (by unfold az;omega);rw[e,show((32*k+blen v.toNat:Nat):Int)=32*((a.length:Int)-1)+(blen v.toNat:Nat) from by omega];exact dQ.e1 a k v h0 (by unfold az;omega) (by unfold az;omega) (by omega) hv this
theorem Pm{v c:Nat}(hv:v<4294967296)(hc:c≤1):((v*2^(min 1 32))%4294967296%4294967296) ||| (c%4294967296)=(2*v)%4294967296+c:=by
 have e:(2:Nat)^min 1 32=2:=by decide
 rw[e,ajl,agu (show c<4294967296 by omega)];obtain⟨u,hu⟩:∃u,(v*2)%4294967296=2*u:=⟨(v*2)%4294967296/2,by omega⟩;rw[hu];have:=ahQ (i:=1) (show c<2^1 by omega) u;rw[show (2:Nat)^1=2 from rfl] at this;rw[←this];omega
theorem U5{v s:Nat}(hs:s<32)(hv:v%2^(s+1)=0)(hl:v<4294967296):(v%4294967296) ||| (((1*2^(min (s%32) 32))%4294967296)%4294967296)=v+2^s:=by
 have h1:2^s<4294967296:=by have:=ahR (a:=2) (by omega) hs;omega
 rw[agu hs,ah0 (by omega),ahr,ajl,agu hl,agu h1];have h2:v=2^(s+1)*(v/2^(s+1)):=by have:=ahA v (2^(s+1));omega
 have h3:=ahQ (i:=s+1) (show 2^s<2^(s+1) by rw[agb];have:=agL s;omega) (v/2^(s+1));rw[←h2] at h3;exact h3.symm
theorem Pn(a:Words)(t:Nat)(ht:t≤a.length):wd a t=nat a/4294967296^t%4294967296:=by rw[tV a t ht,jY a t];have:=nV a t;omega
theorem U6(a:Words)(t s Q:Nat)(hs:s<32)(ht:t≤a.length)(h:nat a=Q*2^(32*t+s+1)):wd a t%2^(s+1)=0:=by
 rw[Pn a t ht,h,EE,show 32*t+s+1=(s+1)+32*t from by omega,ahG,←agr,Nat.mul_div_cancel _ (agL _)];have:(4294967296:Nat)=2^(s+1)*2^(32-(s+1)):=by rw[←ahG,show s+1+(32-(s+1))=32 from by omega]
 rw[this,Nat.mod_mul_right_mod,Nat.mul_mod_left]
theorem U7(a:Words)(k:Nat)(hk:k/32≤a.length):wd a (k/32)/2^(k%32)%2=nat a/2^k%2:=by
 rw[Pn a _ hk,EE];have e:(4294967296:Nat)=2^(k%32)*2^(32-k%32):=by rw[←ahG,show k%32+(32-k%32)=32 from by omega]
 have e2:(2:Nat)^(32-k%32)=2*2^(31-k%32):=by rw[show 32-k%32=(31-k%32)+1 from by omega,agb,agR]
 rw[e,Nat.mod_mul_right_div_self,e2,Nat.mod_mul_right_mod,ahU,←ahG,ahA]
theorem dbl(a b:Words)(hb:b.length≤2199023255552):∀(i:Int) (q R:Words) (bit:Nat) (r:PV),R.length=b.length+1→nat R<nat b→bit≤1 →
  (∀(c:UInt32) (t:Nat) (U:Words),b.length+1≤t→U.length=b.length+1→nat U=2*nat R+bit→bR.bD a b i c t q U r) →
  ∀(j t:Nat) (c:UInt32) (U:Words),b.length+1-t=j→t≤b.length+1→U.length=b.length+1→c.toNat≤1→(∀p,t≤p→wd U p=wd R p) →
  nat (U.take t)+4294967296^t*c.toNat=2*nat (R.take t)+bit→bR.bD a b i c t q U r:=by
 have aea:=eC b;have Te:2*nat b<4294967296^(b.length+1):=by rw[agb];omega
 intro i q R bit r hR hRb U8 JE j
 induction j with
 |zero =>
  intro t c U hj ht hU hc ij hinv;have Ap:t=b.length+1:=by omega
  rw[←Ap] at Te;refine JE c _ U (by omega) hU ?_;rw[aT (by omega),aT (by omega)] at hinv;clear Ap;generalize 4294967296^t=P at hinv Te;have:c.toNat=0:=by
   refine ah9 fun hp => ?_
   have:=aga P (show 1≤c.toNat from hp);omega
  rw[this] at hinv;omega
 |succ j ih =>
  intro t c U hj ht hU hc ij hinv;obtain⟨v,hv⟩:∃v,U[t]? = some v:=⟨_,afO (by omega)⟩;have EC:=ij t (afY t);rw[jK hv] at EC;have Bj:=ju v;obtain⟨z,hz⟩:=iw ((v.toNat*2^(min 1 32))%4294967296) (ahy _ (by omega));obtain⟨z1,H7⟩:=iw ((2*v.toNat)%4294967296+c.toNat) (by omega);obtain⟨z2,TQ⟩:=iw (v.toNat/2147483648) (by omega);have e31:(2:Nat)^min 31 32=2147483648:=by decide
  refine bR.BZ a b i c t q U v z z1 z2 (by omega) hv hz.symm (by rw[hz,H7];exact Pm Bj hc) (by rw[e31,TQ]) (by omega) (by omega) ?_;refine ih (t+1) z2 (U.set t z1) (by omega) (by omega) (by simpa using hU) (by omega) (fun p hp=>by rw[uG (by omega)];exact ij p (by omega)) ?_;rw[gL (by omega),eb R t,←EC,H7,TQ,agb,agr];have h6:4294967296^t*((2*v.toNat)%4294967296+c.toNat)+4294967296^t*(4294967296*(v.toNat/2147483648))=4294967296^t*c.toNat+2*(4294967296^t*v.toNat):=by
   rw[aiK 2,←agl,←agl]
   congr 1
   omega
  omega
theorem qU(a b:Words)(Ta:cn a=true)(Lm:0<nat b)(ha:a.length≤2199023255552)(hb:b.length≤2199023255552) :
  Cp 202 [af a,af b] (.aF [af (words (nat a/nat b)),af (words (nat a%nat b))]):=by
 have loop:∀(n Q:Nat) (q R:Words),q.length=a.length→R.length=b.length+1→n≤blen (nat a)→n≤32*a.length→nat a/2^n=Q*nat b+nat R→nat R<nat b→nat q=Q*2^n →
   bR.ai a b ((n:Int)-1) q R (.aF [af (words (nat a/nat b)),af (words (nat a%nat b))]):=by
  intro n
  induction n with
  |zero =>
   intro Q q R hq hR _ _ hdiv bH QP;have h1:=trim q (by omega);have h2:=trim R (by omega);rw[aiX,Nat.div_one] at hdiv;rw[aiX,ai6] at QP;have e1:nat a/nat b=nat q:=by rw[QP,hdiv,aiW,Nat.add_mul_div_right _ _ Lm,ai7 bH,agQ]
   have e2:nat a%nat b=nat R:=by rw[hdiv,aiW,Nat.add_mul_mod_self_right,agu bH]
   rw[e1,e2];exact bR.c9 a b _ q R _ _ (by omega) (by omega) (by omega) h1 h2
  |succ n ih =>
   intro Q q R hq hR hn Ej hdiv bH QP;have MH:n/32<a.length:=by omega
   obtain⟨v,hv⟩:∃v,a[n/32]? = some v:=⟨_,afO MH⟩;have Bj:=ju v;have hs:n%32<32:=ahy _ (by omega);obtain⟨z,hz⟩:=iw (v.toNat/2^(n%32)) (ahg (ahe _ _) Bj);obtain⟨z1,H7⟩:=iw (nat a/2^n%2) (by omega);have U8:=U7 a n (by omega);rw[jK hv] at U8;rw[show ((n+1:Nat):Int)-1=(n:Int) from by omega];refine bR.l10 a b (n:Int) q R n v n z z1 (by omega) rfl (by omega) hv rfl (by rw[ah0 (by omega),hz]) ?_ ?_
   ·rw[show (1:Nat)%4294967296=1 from rfl,Nat.and_one_is_mod,H7,←U8,hz];have:=ahg (ahe v.toNat (2^(n%32))) Bj;omega
   ·have Ld:nat a/2^n=2*(nat a/2^(n+1))+nat a/2^n%2:=by
     rw[agb,←ahU];omega
    have s7:nat a/2^n%2≤1:=by omega
    generalize hbv:nat a/2^n%2=bit at *;refine dbl a b hb (n:Int) q R bit _ hR bH s7 ?_ _ 0 z1 R rfl (by omega) hR (by omega) (fun _ _=>rfl) (by simp[nat];exact H7);intro c t U ht hU hUn;have Co:=Pk U b (b.length+1) hU.symm (by omega) (by omega);by_cases DD:nat b≤nat U
    ·obtain⟨V,hV1,hV2,hV3⟩:=take U b (b.length+1) hU.symm (by omega) DD;obtain⟨u,hu⟩:∃u,q[n/32]? = some u:=⟨_,afO (by omega)⟩;have yg:=ju u;have xF:=U6 q (n/32) (n%32) Q hs (by omega) (by rw[QP,show 32*(n/32)+n%32+1=n+1 from by omega]);rw[jK hu] at xF;have h2s:2^(n%32)<4294967296:=by
      have:=ahR (a:=2) (by omega) hs;omega
     obtain⟨z2,TQ⟩:=iw ((1*2^(min (n%32) 32))%4294967296) (ahy _ (by omega));have RQ:=U5 hs xF yg;rw[agu hs] at RQ;have hbound:u.toNat+2^(n%32)<4294967296:=by rw[←RQ];exact Nat.or_lt_two_pow (n:=32) (ahy _ (by omega)) (ahy _ (by omega))
     obtain⟨z3,hz3⟩:=iw _ hbound;refine bR.FM a b (n:Int) c t q U U _ V n u n z2 z3 ht Co (by unfold dV;split<;>(try split)<;>omega) hV3 rfl (by omega) MH hu rfl TQ.symm (by rw[TQ,hz3];exact RQ) (by omega) (by unfold az;omega) ?_;refine ih (2*Q+1) (q.set (n/32) z3) V (by simpa using hq) (by omega) (by omega) (by omega) ?_ ?_ ?_
     ·rw[Ld,hdiv,hV2,hUn,agF,agl,agr];omega
     ·omega
     ·have g:=qx q (n/32) z3 u hu;rw[hz3,agl,QP,EE,←ahG,show 32*(n/32)+n%32=n from by omega] at g;rw[agb] at g;have:(2*Q+1)*2^n=Q*(2^n*2)+2^n:=by rw[agF,ahr,agR 2 Q,agr,agR 2 (2^n)]
      omega
    ·refine bR.RC a b (n:Int) c t q U U _ ht Co (by unfold dV;split<;>(try split)<;>omega) (by unfold az;omega) ?_;refine ih (2*Q) q U hq hU (by omega) (by omega) ?_ (by omega) ?_
     ·rw[Ld,hdiv,hUn,agl,agr];omega
     ·rw[QP,agb,agR 2 Q,agr,agR 2 (2^n)]
 have Xo:=bits a Ta (by omega);have Ez:blen (nat a)≤32*a.length:=sC (by rw[←EE];exact eC a);refine bR.e0 a b _ (by omega) (by omega) (by omega) Xo (by unfold az;omega) ?_;refine loop (blen (nat a)) 0 _ _ (by simp) (by simp) (afY _) Ez ?_ ?_ ?_
 ·rw[nr,ai7 (RN _)];simp
 ·rw[nr];exact Lm
 ·rw[nr];simp
theorem xH{p:Nat}(hp:0<p):∃v z:UInt32,0<(words p).length∧(words p)[0]? = some v∧(v.toNat%4294967296) &&& (1%4294967296)=z.toNat∧z.toNat=p%2:=by have hl:0<(words p).length:=aju (by rw[Ne,dF];omega);obtain⟨v,hv⟩:∃v,(words p)[0]? = some v:=⟨_,afO hl⟩;obtain⟨z,hz⟩:=iw (p%2) (by omega);refine⟨v,z,hl,hv,?_,hz⟩;have h:=Pn (words p) 0 (by omega);rw[jK hv,aB,aiX,Nat.div_one] at h;rw[show (1:Nat)%4294967296=1 from rfl,Nat.and_one_is_mod,hz,h];omega
theorem Ih{p q:Nat}(hp:p%2=0)(hq:q%2=1):Nat.gcd (p/2) q=Nat.gcd p q:=by
 have hc:Nat.Coprime 2 q:=by unfold Nat.Coprime;rw[Nat.gcd_rec,hq];rfl
 have:=Nat.Coprime.gcd_mul_left_cancel (p/2) hc;rw[←this]
 congr 1
 omega
theorem AM{p q k:Nat}(hq:0<q)(h:(words q).length≤k):(words (Nat.gcd p q)).length≤k:=ag3 (dZ (Nat.le_of_dvd hq (Nat.gcd_dvd_right p q))) h
theorem F6(p:Nat)(hp:(words p).length≤2199023255553):au bp 214 [.row 100000 0 (words p).length 1] [(100000,ws (words p))] (.row 100000 0 (words (p/2)).length 1) [(100000,ws (words (p/2)))]:=by have:=Ig (words p) _ rfl hp;rwa[aB] at this
theorem Tf(p q:Nat)(hp:(words p).length≤2199023255553)(Ro:q≤p):∃U:Words,U.length=(words p).length ∧
  au bp 215 [.row 100000 0 (words p).length 1,.row 100001 0 (words q).length 1] [(100000,ws (words p)),(100001,ws (words q))] (.pv (.aF [])) [(100000,ws U),(100001,ws (words q))] ∧
  au bp 216 [.row 100000 0 (words p).length 1] [(100000,ws U)] (.row 100000 0 (words (p-q)).length 1) [(100000,ws (words (p-q)))]:=by
 obtain⟨U,h1,h2,h3⟩:=Xm (words p) (words q) _ _ rfl rfl hp (by rw[aB,aB];exact Ro);have hc:=cut U (by omega);rw[aB,aB] at h2;rw[h2,h1] at hc;exact⟨U,h1,h3,hc⟩
theorem gcd(a b:Words)(ha:a.length≤1099511627776)(hb:b.length≤1099511627776):Cp 169 [af a,af b] (af (words (Nat.gcd (nat a) (nat b)))):=by
 have t1:=Td a (by omega);have t2:=Td b (by omega);have la:=Cl a;have lb:=Cl b;generalize nat a=A at *;generalize nat b=B at *;by_cases hA:A=0
 ·subst hA;rw[Nat.gcd_zero_left];exact aV.e0 a b _ _ _ _ t1 t2 (by rw[fJ];rfl) rfl
 by_cases hB:B=0
 ·subst hB;rw[aiC];exact aV.e1 a b _ _ _ _ t1 t2 (by rw[Ne,dF];exact hA) (by rw[fJ];rfl) rfl
 refine aV.e2 a b _ _ _ _ t1 t2 (by rw[Ne,dF];exact hA) (by rw[Ne,dF];exact hB) ?_;have fin:∀(j m t64 t65:Nat),t64-t65=j→t64<9223372036854775808→(words (m*2^j)).length≤1099511627776→aV.H0 (words m) t64 t65 (af (words (m*2^j))):=by
  intro j
  induction j with
  |zero =>intro m t64 t65 hj _ _;rw[aiX,ai6];exact aV.l41 _ _ _ (by omega)
  |succ j ih =>
   intro m t64 t65 hj ht hl;have e:m*2^(j+1)=(m+m)*2^j:=by rw[agb,agF,←agr];omega
   have hm:(words m).length≤1099511627776:=by refine ag3 (dZ ?_) hl;have:=aga m (agL (j+1));omega
   have hp:=plus (words m) (words m) (by omega) (by omega);rw[aB] at hp;rw[e] at hl ⊢;exact aV.l40 _ _ _ _ (by omega) hp (by omega) (ih (m+m) t64 (t65+1) (by omega) ht hl)
 have rounds:∀(s p q tw:Nat),p+q≤s→0<q→(words p).length≤1099511627776→(words q).length≤1099511627776→tw<9223372036854775808→(words (Nat.gcd p q*2^tw)).length≤1099511627776 →
   ((p%2=1∨q%2=1)→aV.bD (words p).length (words q).length tw (words p) (words q) (af (words (Nat.gcd p q*2^tw)))) ∧
   (0<p→(p%2=1∨q%2=1)→aV.mT (words p).length (words q).length tw (words p) (words q) (af (words (Nat.gcd p q*2^tw)))) ∧
   (p%2=1→aV.B9 (words p).length (words q).length tw (words p) (words q) (af (words (Nat.gcd p q*2^tw)))):=by
  intro s
  induction s with
  |zero=>intro p q tw h1 h2;omega
  |succ s ih =>
   intro p q tw hs hq lp lq U9 hl;have L5:p%2=1→aV.B9 (words p).length (words q).length tw (words p) (words q) (af (words (Nat.gcd p q*2^tw))):=by
    intro hp;obtain⟨v,z,g1,g2,g3,g4⟩:=xH hq;by_cases he:q%2=0
    ·have hg:=Ih (p:=q) (q:=p) he hp;have:=(ih p (q/2) tw (by omega) (by omega) lp (ag3 (dZ (ahe q 2)) lq) U9 (by rw[aiG,hg,aiG];exact hl)).2.2 hp;rw[aiG,hg,aiG] at this;exact aV.l50 _ _ tw _ _ v z _ _ g1 g2 g3 (by omega) (F6 q (by omega)) this
    ·have hc:=MS (words p) (words q) _ _ rfl rfl (by omega) (by omega);rw[aB,aB] at hc;by_cases bH:p<q
     ·obtain⟨U,u1,u2,u3⟩:=Tf q p (by omega) (by omega);have hg:Nat.gcd (q-p) p=Nat.gcd p q:=by rw[Nat.gcd_sub_self_left (by omega),aiG]
      have:=(ih (q-p) p tw (by omega) (by omega) (ag3 (dZ (Nat.sub_le q p)) lq) lp U9 (by rw[hg];exact hl)).1 (by omega);rw[hg] at this;exact aV.l51 _ _ tw _ _ v z _ _ _ U _ _ _ g1 g2 g3 (by omega) hc (by unfold dV;split<;>(try split)<;>omega) u2 u3 this
     ·obtain⟨U,u1,u2,u3⟩:=Tf p q (by omega) (by omega);have hg:Nat.gcd (p-q) q=Nat.gcd p q:=Nat.gcd_sub_self_left (by omega);have:=(ih (p-q) q tw (by omega) hq (ag3 (dZ (Nat.sub_le p q)) lp) lq U9 (by rw[hg];exact hl)).1 (by omega);rw[hg] at this;exact aV.l52 _ _ tw _ _ v z _ _ _ U _ _ _ g1 g2 g3 (by omega) hc (by unfold dV;split<;>(try split)<;>omega) u2 u3 this
   have L3:0<p→(p%2=1∨q%2=1)→aV.mT (words p).length (words q).length tw (words p) (words q) (af (words (Nat.gcd p q*2^tw))):=by
    intro hp Xp;obtain⟨v,z,g1,g2,g3,g4⟩:=xH hp;by_cases he:p%2=0
    ·have hg:=Ih (p:=p) (q:=q) he (by omega);have:=(ih (p/2) q tw (by omega) hq (ag3 (dZ (ahe p 2)) lp) lq U9 (by rw[hg];exact hl)).2.1 (by omega) (by omega);rw[hg] at this;exact aV.l30 _ _ tw _ _ v z _ _ g1 g2 g3 (by omega) (F6 p (by omega)) this
    ·exact aV.l31 _ _ tw _ _ v z g1 g2 g3 (by omega) (L5 (by omega))
   refine⟨fun Xp => ?_,L3,L5⟩;by_cases hp:p=0
   ·subst hp;rw[Nat.gcd_zero_left] at hl ⊢;exact aV.FM _ _ tw _ _ (by rw[fJ];simp) rfl (fin tw q tw 0 rfl U9 hl)
   ·exact aV.BZ _ _ tw _ _ (aju (by rw[Ne,dF];exact hp)) (L3 (by omega) Xp)
 have first:∀(s p q tw:Nat),p+q≤s→0<p→0<q→(words p).length≤1099511627776→(words q).length≤1099511627776→(words (Nat.gcd p q*2^tw)).length≤1099511627776 →
   aV.ai (words p).length (words q).length tw (words p) (words q) (af (words (Nat.gcd p q*2^tw))):=by
  intro s
  induction s with
  |zero=>intro p q tw h1 h2;omega
  |succ s ih =>
   intro p q tw hs hp hq lp lq hl;have U9:tw+1<9223372036854775808:=by have h1:2^tw≤Nat.gcd p q*2^tw:=aj5 _ (ai9 _ hp);have h2:=ko (Nat.gcd p q*2^tw);rw[EE] at h2;have h3:=(Nat.pow_lt_pow_iff_right (a:=2) (by omega)).1 (ahg h1 h2);omega
   obtain⟨v,z,g1,g2,g3,g4⟩:=xH hp;by_cases he:p%2=0
   ·obtain⟨v',z',Oo,Nz,YF,Yz⟩:=xH hq;by_cases gQ:q%2=0
    ·have hg:Nat.gcd (p/2) (q/2)*2^(tw+1)=Nat.gcd p q*2^tw:=by
      have h:=Nat.gcd_mul_left 2 (p/2) (q/2);rw[show 2*(p/2)=p from by omega,show 2*(q/2)=q from by omega] at h;rw[h,agb,agR 2,agr,agR 2]
     have:=ih (p/2) (q/2) (tw+1) (by omega) (by omega) (by omega) (ag3 (dZ (ahe p 2)) lp) (ag3 (dZ (ahe q 2)) lq) (by rw[hg];exact hl);rw[hg] at this;exact aV.l10 _ _ tw _ _ v z v' z' _ _ _ _ g1 g2 g3 (by omega) Oo Nz YF (by omega) (F6 p (by omega)) (F6 q (by omega)) U9 this
    ·exact aV.c9 _ _ tw _ _ v z v' z' g1 g2 g3 (by omega) Oo Nz YF (by omega) ((rounds (p+q) p q tw (afY _) hq lp lq (by omega) hl).1 (by omega))
   ·exact aV.kA _ _ tw _ _ v z g1 g2 g3 (by omega) ((rounds (p+q) p q tw (afY _) hq lp lq (by omega) hl).1 (by omega))
 have:=first (A+B) A B 0 (afY _) (by omega) (by omega) (by omega) (by omega) (by rw[aiX,ai6];exact AM (by omega) (by omega))
 rwa[aiX,ai6] at this
end yM
namespace yM
open cF
theorem Sign(a:av)(h:Fit a.cD):Cp 151 [a.pv] (vI (pL a.val)):=by
 have hm:=cD a h;by_cases h0:a.val=0
 ·rw[h0,Ib];exact iX.e0 a _ hm (by rw[h0];rfl)
 ·have hg:=neg a h;have hl:(words a.val.natAbs).length≠0:=by rw[Ne,dF];omega
  by_cases hn:a.val<0
  ·rw[Lq hn];exact iX.e1 a _ _ hm hl hg (agq hn)
  ·rw[Lr (by omega)];exact iX.e2 a _ _ hm hl hg (ags hn)
theorem Neg(a:av)(h:Fit a.cD):Cp 154 [a.pv] (Sym.whole (-a.val)).pv:=by
 have h3:=cD a h;have h5:=neg a h;have la:=ba a;have hw:=form (!decide (a.val<0)) (words a.val.natAbs) (by have:(words a.val.natAbs).length≤a.cD.length:=la;omega);have e:(bif !decide (a.val<0) then -(nat (words a.val.natAbs):Int) else (nat (words a.val.natAbs):Int)) = -a.val:=by
  rw[aB];by_cases h:a.val<0
  ·simp[h];omega
  ·simp[h];omega
 rw[e] at hw;exact qm.e0 a _ _ _ h5 h3 hw
theorem Add(a b:av)(ha:Fit a.cD)(hb:Fit b.cD):Cp 152 [a.pv,b.pv] (Sym.whole (a.val+b.val)).pv:=by
 have h1:=cD a ha;have h2:=cD b hb;have h3:=neg a ha;have h4:=neg b hb;have la:(words a.val.natAbs).length≤a.cD.length:=ba a;have lb:(words b.val.natAbs).length≤b.cD.length:=ba b;by_cases hs:decide (a.val<0)=decide (b.val<0)
 ·have hp:=plus (words a.val.natAbs) (words b.val.natAbs) (by omega) (by omega);rw[aB,aB] at hp;have hl:=fo (n:=a.val.natAbs+b.val.natAbs) (k:=max (words a.val.natAbs).length (words b.val.natAbs).length+1) (by
   have g1:=ko a.val.natAbs;have g2:=ko b.val.natAbs;have g3:=mD (ai2 (words a.val.natAbs).length (words b.val.natAbs).length);have g4:=mD (ahE (words a.val.natAbs).length (words b.val.natAbs).length);rw[agb];omega)
  have hw:=form (decide (a.val<0)) (words (a.val.natAbs+b.val.natAbs)) (by omega);rw[aB] at hw;have e:(bif decide (a.val<0) then -((a.val.natAbs+b.val.natAbs:Nat):Int) else ((a.val.natAbs+b.val.natAbs:Nat):Int))=a.val+b.val:=by
   by_cases h:a.val<0
   ·have:b.val<0:=by simpa[h] using hs.symm
    simp[h];omega
   ·have:¬b.val<0:=by simpa[h] using hs.symm
    simp[h];omega
  rw[e] at hw;exact jH.e0 a b _ _ _ _ _ _ _ h1 h2 h3 h4 hs h3 hp hw
 ·have hc:=compare (words a.val.natAbs) (words b.val.natAbs) (by omega) (by omega);rw[aB,aB] at hc;by_cases DD:b.val.natAbs≤a.val.natAbs
  ·have hl:=minus (words a.val.natAbs) (words b.val.natAbs) (by omega) (by rw[aB,aB];exact DD);rw[aB,aB] at hl;have hlen:=dZ (show a.val.natAbs-b.val.natAbs≤a.val.natAbs by omega);have hw:=form (decide (a.val<0)) (words (a.val.natAbs-b.val.natAbs)) (by omega);rw[aB] at hw;have e:(bif decide (a.val<0) then -((a.val.natAbs-b.val.natAbs:Nat):Int) else ((a.val.natAbs-b.val.natAbs:Nat):Int))=a.val+b.val:=by
    by_cases h:a.val<0
    ·have:¬b.val<0:=by simpa[h] using hs
     simp[h];omega
    ·have:b.val<0:=by simpa[h] using hs
     simp[h];omega
   rw[e] at hw;exact jH.e1 a b _ _ _ _ _ _ _ _ h1 h2 h3 h4 hs hc (by unfold dV;split<;>(try split)<;>omega) h3 hl hw
  ·have hl:=minus (words b.val.natAbs) (words a.val.natAbs) (by omega) (by rw[aB,aB];omega);rw[aB,aB] at hl;have hlen:=dZ (show b.val.natAbs-a.val.natAbs≤b.val.natAbs by omega);have hw:=form (decide (b.val<0)) (words (b.val.natAbs-a.val.natAbs)) (by omega);rw[aB] at hw;have e:(bif decide (b.val<0) then -((b.val.natAbs-a.val.natAbs:Nat):Int) else ((b.val.natAbs-a.val.natAbs:Nat):Int))=a.val+b.val:=by
    by_cases h:b.val<0
    ·have:¬a.val<0:=by intro h';simp[h,h'] at hs
     simp[h];omega
    ·have:a.val<0:=by
      refine afV fun h' => ?_
      simp[h,h'] at hs
     simp[h];omega
   rw[e] at hw;exact jH.e2 a b _ _ _ _ _ _ _ _ h1 h2 h3 h4 hs hc (by unfold dV;split<;>(try split)<;>omega) h4 hl hw
theorem Sub(a b:av)(ha:Fit a.cD)(hb:Fit b.cD):Cp 168 [a.pv,b.pv] (Sym.whole (a.val-b.val)).pv:=by
 have h1:=Neg b hb;have h2:=Add a (Sym.whole (-b.val)) ha (by have:=ba b;show(words (-b.val).natAbs).length≤_;rw[aix];have:(words b.val.natAbs).length≤b.cD.length:=this;omega)
 rw[aC,←ajv] at h2;exact qn.e0 a b _ _ h1 h2
theorem Mul(a b:av)(ha:Fit a.cD)(hb:Fit b.cD):Cp 153 [a.pv,b.pv] (Sym.whole (a.val*b.val)).pv:=by
 have h1:=cD a ha;have h2:=cD b hb;have h3:=neg a ha;have h4:=neg b hb;have la:(words a.val.natAbs).length≤a.cD.length:=ba a;have lb:(words b.val.natAbs).length≤b.cD.length:=ba b;have ht:=times (words a.val.natAbs) (words b.val.natAbs) (by omega) (by omega);rw[aB,aB] at ht;have hl:(words (a.val.natAbs*b.val.natAbs)).length≤(words a.val.natAbs).length+(words b.val.natAbs).length:=by have:=eo a.val b.val;unfold wl at this;rw[agW] at this;exact this
 have hw:=form (!(decide (a.val<0)==decide (b.val<0))) (words (a.val.natAbs*b.val.natAbs)) (by omega);rw[aB] at hw;have e:(bif !(decide (a.val<0)==decide (b.val<0)) then -((a.val.natAbs*b.val.natAbs:Nat):Int) else ((a.val.natAbs*b.val.natAbs:Nat):Int))=a.val*b.val:=by
  by_cases h:a.val<0<;>by_cases h':b.val<0<;>simp only[h,h',decide_true,decide_false,beq_self_eq_true,Bool.not_true,cond_false,Bool.not_false,cond_true,show(true==false)=false from rfl,show(false==true)=false from rfl]
  ·rw[←agW,aim (aiY (by omega) (by omega))]
  ·rw[←agW,aii (aiZ (by omega) (by omega))];omega
  ·rw[←agW,aii (aj0 (by omega) (by omega))];omega
  ·rw[←agW,aim (Int.mul_nonneg (by omega) (by omega))]
 rw[e] at hw;exact qk.e0 a b _ _ _ _ _ _ h3 h4 h1 h2 ht hw
theorem Of(n:Int)(h:az n):Cp 88 [vI n] (Sym.whole n).pv:=by
 obtain⟨g1,g2⟩:=h;have Pc:(2:Nat)^min 32 64=4294967296:=by decide
 have key:∀m:Nat,m=n.natAbs→∃w w1:UInt32,m%4294967296=w.toNat∧m/4294967296%4294967296=w1.toNat∧Cp 156 [(vB (decide (n<0))),(af [w,w1])] (Sym.whole n).pv:=by
  intro m hm;obtain⟨w,hw⟩:=iw (m%4294967296) (by omega);obtain⟨w1,KY⟩:=iw (m/4294967296%4294967296) (by omega);refine⟨w,w1,hw.symm,KY.symm,?_⟩;have:=form (decide (n<0)) [w,w1] (by simp);have e:nat [w,w1]=m:=by simp only[nat,hw,KY];omega
  rw[e,hm] at this;have e2:(bif decide (n<0) then -(n.natAbs:Int) else (n.natAbs:Int))=n:=by
   by_cases h:n<0
   ·simp[h];omega
   ·simp[h];omega
  rw[e2] at this;exact this
 by_cases hn:n<0
 ·obtain⟨w,w1,q1,q2,q3⟩:=key n.natAbs rfl;exact ni.e0 n (n%18446744073709551616).toNat n.natAbs w _ w1 _ (by omega) hn (by omega) q1 (by rw[Pc]) q2 q3
 ·obtain⟨w,w1,q1,q2,q3⟩:=key n.natAbs rfl;exact ni.e1 n n.natAbs w _ w1 _ (by omega) (by omega) q1 (by rw[Pc]) q2 q3
theorem Div(a b:av)(ha:Fit a.cD)(hb:Fit b.cD)(h0:b.val≠0) :
  Cp 155 [a.pv,b.pv] (.aF [(Sym.whole (a.val/b.val)).pv,(Sym.whole (a.val%b.val)).pv,vI 0]):=by
 have h1:=cD a ha;have h2:=cD b hb;have h3:=neg a ha;have h4:=neg b hb;have la:(words a.val.natAbs).length≤a.cD.length:=ba a;have lb:(words b.val.natAbs).length≤b.cD.length:=ba b;have Xq:=Sign b hb;have NC:pL b.val≠0:=by unfold pL dV;split<;>(try split)<;>omega
 have Tc:0<b.val.natAbs:=by omega
 have hd:=qU (words a.val.natAbs) (words b.val.natAbs) (ix _) (by rw[aB];omega) (by omega) (by omega);rw[aB,aB] at hd;have hq:=dZ (ahe a.val.natAbs b.val.natAbs);have hr:=dZ (aja (ahy a.val.natAbs Tc));have Je:=ahA a.val.natAbs b.val.natAbs;have hml:=ahy a.val.natAbs Tc;generalize hQ:a.val.natAbs/b.val.natAbs=q at *;generalize hR:a.val.natAbs%b.val.natAbs=r at *;have sb:b.val=if b.val<0 then -(b.val.natAbs:Int) else (b.val.natAbs:Int):=by split<;>omega
 have uniq:∀x y:Int,a.val=b.val*x+y→0≤y→y<b.val.natAbs→a.val/b.val=x∧a.val%b.val=y:=by
  intro x y e1 e2 e3;rcases Int.lt_or_gt_of_ne h0 with fw|fw
  ·exact(Int.ediv_emod_unique' fw).2 ⟨by omega,e2,by omega⟩
  ·exact(Int.ediv_emod_unique fw).2 ⟨by omega,e2,by omega⟩
 by_cases hn:a.val<0
 ·by_cases G6:r=0
  ·have hw:=form (!(decide (a.val<0)==decide (b.val<0))) (words q) (by omega);have BH:=form false (words r) (by omega);rw[aB] at hw BH;subst G6;have e:a.val/b.val=(bif !(decide (a.val<0)==decide (b.val<0)) then -(q:Int) else (q:Int))∧a.val%b.val=0:=by
    refine uniq _ 0 ?_ (by omega) (by omega);have uv:(a.val.natAbs:Int)=(b.val.natAbs:Int)*q:=by rw[←Je];simp
    by_cases h':b.val<0
    ·simp only[hn,h',decide_true,beq_self_eq_true,Bool.not_true,cond_false];have:(b.val.natAbs:Int) = -b.val:=by omega
     rw[this] at uv;have:(a.val.natAbs:Int) = -a.val:=by omega
     rw[this,ajm] at uv;omega
    ·simp only[hn,h',decide_true,decide_false,show(true==false)=false from rfl,Bool.not_false,cond_true];have:(b.val.natAbs:Int)=b.val:=by omega
     rw[this] at uv;have:(a.val.natAbs:Int) = -a.val:=by omega
     rw[this] at uv;rw[ajn];omega
   rw[e.1,e.2];exact jI.e2 a b _ _ _ _ _ _ _ _ _ _ Xq NC h1 h2 hd h3 (agq hn) (by rw[fJ];simp) h3 h4 hw BH
  ·have hp:=plus (words q) [1] (by omega) (by simp);have hl:=minus (words b.val.natAbs) (words r) (by omega) (by rw[aB,aB];omega);rw[aB] at hp;rw[aB,aB] at hl;have e1:nat [1]=1:=rfl;rw[e1] at hp;have I8:=fo (n:=q+1) (k:=(words q).length+1) (by have:=ko q;rw[agb];omega);have I9:=dZ (show b.val.natAbs-r≤b.val.natAbs by omega);have hw:=form (!(decide (a.val<0)==decide (b.val<0))) (words (q+1)) (by omega);have BH:=form false (words (b.val.natAbs-r)) (by omega);rw[aB] at hw BH;have e:a.val/b.val=(bif !(decide (a.val<0)==decide (b.val<0)) then -((q+1:Nat):Int) else ((q+1:Nat):Int))∧a.val%b.val=((b.val.natAbs-r:Nat):Int):=by
    refine uniq _ _ ?_ (by omega) (by omega);have uv:(a.val.natAbs:Int)=(b.val.natAbs:Int)*q+r:=by rw[←Je];simp
    by_cases h':b.val<0
    ·simp only[hn,h',decide_true,beq_self_eq_true,Bool.not_true,cond_false];have e5:(b.val.natAbs:Int) = -b.val:=by omega
     rw[e5] at uv;have:(a.val.natAbs:Int) = -a.val:=by omega
     rw[this,ajm] at uv;rw[show ((q+1:Nat):Int)=(q:Int)+1 from by omega,ajP];omega
    ·simp only[hn,h',decide_true,decide_false,show(true==false)=false from rfl,Bool.not_false,cond_true];have:(b.val.natAbs:Int)=b.val:=by omega
     rw[this] at uv;have:(a.val.natAbs:Int) = -a.val:=by omega
     rw[this] at uv;rw[show ((q+1:Nat):Int)=(q:Int)+1 from by omega,ajn,ajP];omega
   rw[e.1,e.2];exact jI.e1 a b _ _ _ _ _ _ _ _ _ _ _ _ _ Xq NC h1 h2 hd h3 (agq hn) (by have:=(dF (n:=r)).1;omega) hp h2 hl h3 h4 hw BH
 ·have hw:=form (!(decide (a.val<0)==decide (b.val<0))) (words q) (by omega);have BH:=form false (words r) (by omega);rw[aB] at hw BH;have e:a.val/b.val=(bif !(decide (a.val<0)==decide (b.val<0)) then -(q:Int) else (q:Int))∧a.val%b.val=(r:Int):=by
   refine uniq _ _ ?_ (by omega) (by omega);have uv:(a.val.natAbs:Int)=(b.val.natAbs:Int)*q+r:=by rw[←Je];simp
   by_cases h':b.val<0
   ·simp only[hn,h',decide_true,decide_false,show(false==true)=false from rfl,Bool.not_false,cond_true];have e5:(b.val.natAbs:Int) = -b.val:=by omega
    rw[e5] at uv;have:(a.val.natAbs:Int)=a.val:=by omega
    rw[this,ajm] at uv;rw[ajn];omega
   ·simp only[hn,h',decide_false,beq_self_eq_true,Bool.not_true,cond_false];have:(b.val.natAbs:Int)=b.val:=by omega
    rw[this] at uv;have:(a.val.natAbs:Int)=a.val:=by omega
    rw[this] at uv;omega
  rw[e.1,e.2];exact jI.e3 a b _ _ _ _ _ _ _ _ _ _ Xq NC h1 h2 hd h3 (ags hn) h3 h4 hw BH
theorem xG(a b:av)(ha:a.cD.length<1099511627776)(hb:b.cD.length<1099511627776):Cp 100 [a.pv,b.pv] (vI (dV a.val b.val)):=by
 have h1:=Sub a b (by omega) (by omega);have h2:=Sign (Sym.whole (a.val-b.val)) (by have g1:=yL a.val (-b.val);have g2:=ba a;have g3:=ba b;rw[gj,←ajv] at g1;show wl (a.val-b.val)≤_;omega)
 rw[aC] at h2;have e:pL (a.val-b.val)=dV a.val b.val:=by unfold pL dV;split<;>split<;>(try split)<;>(try split)<;>omega
 rw[←e];exact qg.e0 a b _ _ h1 h2
theorem Gcd(a b:av)(ha:Fit a.cD)(hb:Fit b.cD):Cp 101 [a.pv,b.pv] (Sym.whole (Nat.gcd a.val.natAbs b.val.natAbs)).pv:=by
 have la:(words a.val.natAbs).length≤a.cD.length:=ba a;have lb:(words b.val.natAbs).length≤b.cD.length:=ba b;have hg:=gcd (words a.val.natAbs) (words b.val.natAbs) (by omega) (by omega);rw[aB,aB] at hg;have hl:(words (Nat.gcd a.val.natAbs b.val.natAbs)).length≤1099511627776:=by
  by_cases h:b.val.natAbs=0
  ·rw[h,aiC];omega
  ·exact AM (by omega) (by omega)
 have hw:=form false (words (Nat.gcd a.val.natAbs b.val.natAbs)) (by omega);rw[aB] at hw;exact qh.e0 a b _ _ _ _ (cD a ha) (cD b hb) hg hw
end yM
end Go.Proofs.YtcpnocgollpbhaaGreatDoor.Sym
namespace Go.Proofs.YtcpnocgollpbhaaGreatDoor.Sym
open cF
set_option linter.unusedVariables false
def ag.valid(a:ag):Bool :=
 bif a.num.isEmpty&&a.den.isEmpty then !a.neg else !a.num.isEmpty&&(!a.den.isEmpty&&(cn a.num&&(cn a.den&&Nat.beq (Nat.gcd (nat a.num) (nat a.den)) 1)))
def ag.val(a:ag):Rat:=bif a.valid && !a.num.isEmpty then Rat.divInt (bif a.neg then -(nat a.num:Int) else (nat a.num:Int)) (nat a.den:Int) else 0
def aI(q:Rat):ag:=bif q.num.natAbs.beq 0 then ⟨false,[],[]⟩ else ⟨decide (q.num<0),words q.num.natAbs,words q.den⟩
theorem beq_iff{a b:Nat} : Nat.beq a b=true↔a=b:=⟨ag0,fun h=>by subst h;exact aiD a⟩
theorem jc{a b:Nat} : Nat.beq a b=false↔a≠b:=by
 constructor
 ·intro h e;rw[beq_iff.2 e] at h;cases h
 ·intro h;cases hb:Nat.beq a b with
  |true=>exact absurd (beq_iff.1 hb) h
  |false=>rfl
theorem nW:aI 0=⟨false,[],[]⟩:=rfl
theorem sD{q:Rat}(h:q≠0):aI q=⟨decide (q.num<0),words q.num.natAbs,words q.den⟩:=by unfold aI;rw[jc.2 (by intro e;exact h (aiH.1 (by omega))),agf]
theorem DN{n:Nat} : (words n).isEmpty=Nat.beq n 0:=by
 by_cases h:n=0
 ·subst h;rfl
 ·rw[jc.2 h,dj];rw[ags (by rw[dF];exact h)]
theorem rp(q:Rat):(aI q).valid=true:=by
 by_cases h:q=0
 ·subst h;rfl
 ·rw[sD h];unfold ag.valid;have h1:q.num.natAbs≠0:=by intro e;exact h (aiH.1 (by omega))
  simp only[DN,jc.2 h1,jc.2 q.den_nz,Bool.and_self,Bool.not_false,cond_false,ix,aB,Bool.true_and];exact beq_iff.2 q.reduced
theorem nX{a:ag}(hv:a.valid=true)(h0:a.num≠[]):a.den≠[]∧cn a.num=true∧cn a.den=true∧Nat.gcd (nat a.num) (nat a.den)=1:=by
 have h1:a.num.isEmpty=false:=by cases h:a.num with
  |nil=>exact absurd h h0
  |cons=>rfl
 unfold ag.valid at hv;rw[h1,ahf,agf,aho,ahc] at hv;simp only[Bool.and_eq_true] at hv;obtain⟨g1,g2,g3,g4⟩:=hv;refine⟨?_,g2,g3,beq_iff.1 g4⟩;intro e;rw[e] at g1;cases g1
theorem Kg{a:ag}(hv:a.valid=true)(h0:a.num=[]):a=⟨false,[],[]⟩:=by
 obtain⟨n,m,d⟩:=a;subst h0;unfold ag.valid at hv;cases d with
 |nil=>cases n with
  |false=>rfl
  |true=>cases hv
 |cons=>cases hv
theorem uH{a:ag}(hv:a.valid=true)(h0:a.num≠[]):a.val.num=(bif a.neg then -(nat a.num:Int) else (nat a.num:Int))∧a.val.den=nat a.den:=by
 obtain⟨g1,g2,g3,g4⟩:=nX hv h0;have h1:a.num.isEmpty=false:=by cases h:a.num with
  |nil=>exact absurd h h0
  |cons=>rfl
 have hd:=qT g3 g1;unfold ag.val;rw[hv,h1,aho,Bool.and_self,afZ,aiv];have hr:Nat.Coprime (bif a.neg then -(nat a.num:Int) else (nat a.num:Int)).natAbs (nat a.den):=by cases a.neg<;>simp<;>exact g4
 rw[←Rat.mk_eq_mkRat _ _ (by omega) hr];exact⟨rfl,rfl⟩
theorem F7{a:ag}(hv:a.valid=true)(h0:a.num≠[]):a.val≠0:=by obtain⟨g1,g2,g3,g4⟩:=nX hv h0;have:=qT g2 h0;intro e;have h:=(uH hv h0).1;rw[e] at h;have h:(0:Int)=_:=h;cases hn:a.neg<;>rw[hn] at h<;>simp at h<;>omega
theorem F8{a:ag}(hv:a.valid=false):a.val=0:=by unfold ag.val;rw[hv];rfl
theorem xI{a:ag}(h:a.num=[]):a.val=0:=by unfold ag.val;rw[h];simp
theorem yQ{a:ag}(hv:a.valid=true):aI a.val=a:=by
 by_cases h0:a.num=[]
 ·rw[xI h0,Kg hv h0];rfl
 ·obtain⟨g1,g2,g3,g4⟩:=nX hv h0;have hp:=qT g2 h0;obtain⟨e1,e2⟩:=uH hv h0;rw[sD (F7 hv h0),e1,e2,fk g3];obtain⟨n,m,d⟩:=a;cases n
  ·simp only[cond_false,Int.natAbs_natCast,fk g2,ag.mk.injEq,and_true,decide_eq_false_iff_not];omega
  ·simp only[cond_true,Int.natAbs_neg,Int.natAbs_natCast,fk g2,ag.mk.injEq,and_true,decide_eq_true_eq];simp only at hp;omega
theorem Lt{p q:Rat}(h:aI p=aI q):p=q:=by
 by_cases hp:p=0
 ·subst hp;by_cases hq:q=0
  ·exact hq.symm
  ·rw[nW,sD hq] at h;injection h with _ h _
   have:=uC.1 h.symm;exact absurd (aiH.1 (by omega)) hq
 ·by_cases hq:q=0
  ·subst hq;rw[nW,sD hp] at h;injection h with _ h _
   have:=uC.1 h;exact absurd (aiH.1 (by omega)) hp
  ·rw[sD hp,sD hq] at h;injection h with h1 h2 h3
   have h2:=ah8 nat h2;have h3:=ah8 nat h3;rw[aB,aB] at h2 h3;refine Rat.ext ?_ h3;by_cases h:p.num<0
   ·have:q.num<0:=by simpa[h] using h1.symm
    omega
   ·have:¬q.num<0:=by simpa[h] using h1.symm
    omega
theorem b9(q:Rat):(aI q).val=q:=Lt (yQ (rp q))
def ht(q:Rat):Nat:=max (wl q.num) (wl (q.den:Int))
abbrev kS(a:ag):Prop:=a.num.length≤274877906944∧a.den.length≤274877906944
theorem k7:ht 0=1:=by decide
theorem F9(q:Rat):1≤ht q:=by
 have h:(words q.den).length≠0:=by rw[Ne,dF];exact q.den_nz
 have:wl (q.den:Int)≤ht q:=ahE _ _;have h2:wl (q.den:Int)=(words q.den).length:=rfl;omega
theorem eQ(q:Rat):wl q.num≤ht q:=ai2 _ _
theorem fK(q:Rat):wl (q.den:Int)≤ht q:=ahE _ _
theorem oH{q:Rat}(h:ht q≤274877906944):kS (aI q):=by
 by_cases h0:q=0
 ·subst h0;constructor<;>simp[nW]
 ·rw[sD h0];exact⟨ag3 (eQ q) h,ag3 (fK q) h⟩
theorem gm{a:ag}{k:Nat}(h1:a.num.length≤k)(h2:a.den.length≤k)(hk:1≤k):ht a.val≤k:=by
 by_cases hv:a.valid=true
 ·by_cases h0:a.num=[]
  ·rw[xI h0,k7];exact hk
  ·obtain⟨g1,g2,g3,g4⟩:=nX hv h0;obtain⟨e1,e2⟩:=uH hv h0;unfold ht;rw[e1,e2];refine ajB.2 ⟨?_,?_⟩
   ·have e:(bif a.neg then -(nat a.num:Int) else (nat a.num:Int)).natAbs=nat a.num:=by cases a.neg<;>simp
    show(words _).length≤k;rw[e,fk g2];exact h1
   ·show(words _).length≤k;rw[agi,fk g3];exact h2
 ·rw[F8 (by simpa using hv),k7];exact hk
theorem wj{i j:Int}(h:i.natAbs≤j.natAbs):wl i≤wl j:=dZ h
theorem uI(n d:Int):ht (Rat.divInt n d)≤max (wl n) (max (wl d) 1):=by
 by_cases hd:d=0
 ·subst hd;rw[Rat.divInt_zero,k7];omega
 ·unfold ht;refine ajB.2 ⟨ag3 (wj ?_) (ai2 _ _),ag3 (wj (j:=d) ?_) (ag3 (ai2 _ _) (ahE _ _))⟩
  ·rw[Rat.num_divInt];have h1:=Int.natAbs_ediv_of_dvd (a:=d.sign*n) (b:=(d.gcd n:Int)) (by
    exact Int.dvd_mul_of_dvd_right (Int.gcd_dvd_right d n))
   rw[h1,agW,Int.natAbs_sign_of_ne_zero hd,ahr];exact ahe _ _
  ·rw[Rat.den_divInt,ag7 hd,agi];exact ahe _ _
theorem Va:wl 1=1:=rfl
theorem Ii(n:Int)(d:Nat):ht (mkRat n d)≤max (wl n) (max (wl (d:Int)) 1):=by rw[←aiv];exact uI n d
theorem Cr(a:Rat):ht (-a)=ht a:=by unfold ht;rw[Rat.neg_num,gj,Rat.neg_den]
theorem pA(a b:Rat):ht (a*b)≤ht a+ht b:=by rw[Rat.mul_def'];have h1:=Ii (a.num*b.num) (a.den*b.den);have h2:=eo a.num b.num;have h3:=eo (a.den:Int) (b.den:Int);have h4:=eQ a;have h5:=fK a;have h6:=eQ b;have h7:=fK b;have h8:=F9 a;rw[←agz] at h3;omega
theorem wk(a b:Rat):ht (a+b)≤ht a+ht b+1:=by rw[Rat.add_def'];have h1:=Ii (a.num*b.den+b.num*a.den) (a.den*b.den);have h2:=eo a.num b.den;have h3:=eo b.num a.den;have h9:=yL (a.num*b.den) (b.num*a.den);have cw:=eo (a.den:Int) (b.den:Int);have h4:=eQ a;have h5:=fK a;have h6:=eQ b;have h7:=fK b;have h8:=F9 a;rw[←agz] at cw;omega
theorem Kh(a b:Rat):ht (a-b)≤ht a+ht b+1:=by rw[Rat.sub_eq_add_neg,←Cr b];exact wk a (-b)
theorem Po(a:Rat):ht a⁻¹≤ht a:=by rw[Rat.inv_def];have h1:=uI (a.den:Int) a.num;have h4:=eQ a;have h5:=fK a;have h8:=F9 a;omega
theorem yR(a b:Rat):ht (a/b)≤ht a+ht b:=by rw[ahs];have:=pA a b⁻¹;have:=Po b;omega
theorem Ga(n:Int):ht (n:Rat)=max (wl n) 1:=by unfold ht;rw[Rat.num_intCast,Rat.den_intCast];rfl
def iy(p q:Rat):Int:=if p<q then -1 else if p=q then 0 else 1
theorem Pp(p q:Rat):dV (p.num*q.den) (q.num*p.den)=iy p q:=by
 unfold dV iy;have h1:=Rat.lt_iff p q;have h2:p=q↔p.num*q.den=q.num*p.den:=by
  constructor
  ·intro h;subst h;rfl
  ·intro h;have g1:=(Rat.le_iff p q).2 (by omega);have g2:=(Rat.le_iff q p).2 (by omega);exact Rat.le_antisymm g1 g2
 simp only[h1,h2]
theorem Vb(p:Rat):p.num<0↔p<0:=by rw[Rat.lt_iff];simp
theorem Pq(p q:Rat):pL (p-q).num=iy p q:=by
 unfold pL dV iy;have h1:(p-q).num<0↔p<q:=by rw[Vb];constructor<;>intro h<;>grind
 have h2:(p-q).num=0↔p=q:=by rw[aiH];constructor<;>intro h<;>grind
 simp only[h1,h2]
theorem EF(p:Rat):pL p.num=iy p 0:=by have:=Pq p 0;rwa[show p-0=p from by grind] at this
theorem Gb{p q:Rat} : iy p q<0↔p<q:=by
 unfold iy;split
 ·simp_all
 ·split
  ·simp_all
  ·simp_all
theorem hJ{p q:Rat} : iy p q=0↔p=q:=by
 unfold iy;split
 ·rename_i h;constructor
  ·intro h;cases h
  ·intro e;subst e;exact absurd h (aiL)
 ·split
  ·simp_all
  ·simp_all
theorem Lu{p q:Rat} : 0<iy p q↔q<p:=by
 unfold iy;split
 ·rename_i h;constructor
  ·intro h;cases h
  ·intro e;grind
 ·split
  ·rename_i h1 h;subst h;simp[Rat.lt_irrefl]
  ·rename_i h1 h2;constructor
   ·intro _;grind
   ·intro _;decide
def DO(p q:Rat):Rat:=if iy p q≤0 then p else q
theorem Gc{n d:Int}(hd:0<d)(g:Nat)(hg:g=Nat.gcd n.natAbs d.natAbs):(Rat.divInt n d).num=n/(g:Int)∧((Rat.divInt n d).den:Int)=d/(g:Int):=by
 have e:d.gcd n=g:=by rw[hg,aiG];rfl
 refine⟨?_,?_⟩
 ·rw[Rat.num_divInt,e,Int.sign_eq_one_of_pos hd,Int.one_mul]
 ·rw[Rat.den_divInt,ag7 (by omega),e,Int.natCast_ediv,aim (by omega)]
open Go Path
theorem Ij{a:ag}(h1:a.num.length=0)(h2:a.den.length=0):a.valid = !a.neg:=by unfold ag.valid;rw[dj,dj,agq h1,agq h2];rfl
theorem Ik{a:ag}(h1:a.num.length=0)(h2:a.den.length≠0):a.valid=false:=by unfold ag.valid;rw[dj,dj,agq h1,ags h2];rfl
theorem Il{a:ag}(h1:a.num.length≠0)(h2:a.den.length=0):a.valid=false:=by unfold ag.valid;rw[dj,dj,ags h1,agq h2];rfl
theorem Im{a:ag}(h1:a.num.length≠0)(h2:a.den.length≠0):a.valid=(cn a.num&&(cn a.den&&Nat.beq (Nat.gcd (nat a.num) (nat a.den)) 1)):=by unfold ag.valid;rw[dj,dj,ags h1,ags h2];rfl
theorem wo{m:Words}(h:m.length≠0):(⟨false,m⟩:av).valid=cn m:=by unfold av.valid;rw[dj,ags h];rfl
theorem xJ{m:Words}(h:m.length≠0)(hc:cn m=true):(⟨false,m⟩:av).val=(nat m:Int):=by unfold av.val;rw[wo h,hc];rfl
theorem Lw(g:Nat):(dV (g:Int) 1==0)=Nat.beq g 1:=by
 by_cases h:g=1
 ·subst h;rfl
 ·rw[jc.2 h];unfold dV;split
  ·rfl
  ·rw[ag7 (by omega)];rfl
theorem Io{a:ag}(hv:a.valid=true)(h0:a.num.length≠0):Sym.whole a.val.num=⟨a.neg,a.num⟩∧Sym.whole (a.val.den:Int)=⟨false,a.den⟩:=by
 have YT:a.num≠[]:=by intro e;rw[e] at h0;exact h0 rfl
 obtain⟨g1,g2,g3,g4⟩:=nX hv YT;obtain⟨e1,e2⟩:=uH hv YT;have hp:=qT g2 YT;rw[e1,e2];refine⟨?_,?_⟩
 ·unfold Sym.whole;cases hn:a.neg
  ·simp only[cond_false,Int.natAbs_natCast,fk g2,av.mk.injEq,and_true,decide_eq_false_iff_not];omega
  ·simp only[cond_true,Int.natAbs_neg,Int.natAbs_natCast,fk g2,av.mk.injEq,and_true,decide_eq_true_eq];omega
 ·unfold Sym.whole;simp only[Int.natAbs_natCast,fk g3,av.mk.injEq,and_true,decide_eq_false_iff_not];omega
theorem yS{a b:Int}{k:Nat}(ha:wl a≤k)(hb:wl b≤k):wl ((Nat.gcd a.natAbs b.natAbs:Nat):Int)≤k:=by
 by_cases h:b=0
 ·subst h;rw[Int.natAbs_zero,aiC];show(words _).length≤k;rw[agi];exact ha
 ·exact ag3 (wj (by rw[agi];exact Nat.le_of_dvd (by omega) (Nat.gcd_dvd_right _ _))) hb
theorem formed{n d:Int}(hn:n≠0)(hd:0<d)(g:Nat)(hg:g=Nat.gcd n.natAbs d.natAbs):aI (Rat.divInt n d)=⟨decide (n/(g:Int)<0),(Sym.whole (n/(g:Int))).cD,(Sym.whole (d/(g:Int))).cD⟩:=by
 obtain⟨e1,e2⟩:=Gc (n:=n) hd g hg;have et:Rat.divInt n d≠0:=by
  intro e;rw[e] at e1;have e1:(0:Int)=n/(g:Int):=e1;have h1:(g:Int)∣n:=by rw[hg];exact Int.ofNat_dvd_left.2 (ajF _ _)
  have:=Int.ediv_mul_cancel h1;rw[←e1] at this;omega
 rw[sD et,e1];unfold Sym.whole;simp only[ag.mk.injEq,true_and];rw[←e2,agi]
theorem Cs{n:Int}(hn:n≠0)(g:Nat)(hg:g∣n.natAbs):decide (n/(g:Int)<0)=decide (n<0)∧(n/(g:Int)).natAbs=((n.natAbs:Int)/(g:Int)).natAbs:=by
 have h1:(g:Int)∣n:=Int.ofNat_dvd_left.2 hg;have h2:=Int.ediv_mul_cancel h1;have AJ:0<g:=Nat.pos_of_dvd_of_pos hg (by omega);refine⟨?_,?_⟩
 ·congr 1
  refine propext ⟨fun h => ?_,fun h => ?_⟩
  ·have:=Int.mul_neg_of_neg_of_pos h (show (0:Int)<g by omega);omega
  ·exact Int.ediv_neg_of_neg_of_pos h (by omega)
 ·rw[Int.natAbs_ediv_of_dvd h1,agi,←Int.natCast_ediv,agi]
namespace tf
theorem one:Cp 57 [] (Sym.whole 1).pv:=xr.e0 _ (cF.Of 1 (by unfold az;omega))
theorem Valid(a:ag)(h:kS a):Cp 102 [a.pv] (vB a.valid):=by
 obtain⟨l1,l2⟩:=h;by_cases h1:a.num.length=0
 ·by_cases h2:a.den.length=0
  ·rw[Ij h1 h2];exact gf.e0 a h1 h2
  ·rw[Ik h1 h2];exact gf.e1 a h1 h2
 ·by_cases h2:a.den.length=0
  ·rw[Il h1 h2];exact gf.e2 a h1 h2
  ·rw[Im h1 h2];have v1:=cF.Valid ⟨false,a.num⟩ (show a.num.length≤_ by omega);have v2:=cF.Valid ⟨false,a.den⟩ (show a.den.length≤_ by omega);rw[wo h1] at v1;rw[wo h2] at v2;cases Gd:cn a.num with
   |false=>rw[ahf];exact gf.e3 a _ h1 h2 v1 Gd
   |true =>
    rw[ahc];cases HQ:cn a.den with
    |false=>rw[ahf];exact gf.e4 a _ _ h1 h2 v1 Gd v2 HQ
    |true =>have hg:=cF.Gcd ⟨false,a.num⟩ ⟨false,a.den⟩ (show a.num.length≤_ by omega) (show a.den.length≤_ by omega);rw[xJ h1 Gd,xJ h2 HQ,agi,agi] at hg;have gl:=yS (a:=(nat a.num:Int)) (b:=(nat a.den:Int)) (k:=274877906944) (by show(words _).length≤_;rw[agi,fk Gd];exact l1) (by show(words _).length≤_;rw[agi,fk HQ];exact l2);rw[agi,agi] at gl;have hc:=cF.xG (Sym.whole (Nat.gcd (nat a.num) (nat a.den):Nat)) (Sym.whole 1) (show wl _≤_ by omega) (show wl 1≤_ by decide);rw[aC,aC] at hc;rw[ahc,←Lw];exact gf.e5 a _ _ _ _ _ h1 h2 v1 Gd v2 HQ hg one hc
theorem lO(a:ag)(h:kS a):Cp 52 [a.pv] (.aF [(Sym.whole a.val.num).pv,(Sym.whole (a.val.den:Int)).pv]):=by
 have hv:=Valid a h;cases hc:a.valid with
 |false=>rw[F8 hc];exact mA.e0 a _ _ hv hc one
 |true =>
  by_cases h0:a.num.length=0
  ·rw[xI (afP h0)];exact mA.e1 a _ _ hv hc h0 one
  ·obtain⟨e1,e2⟩:=Io hc h0;rw[e1,e2];exact mA.e2 a _ hv hc h0 (by have:=h.1;simp;omega) (by have:=h.2;simp;omega)
theorem form(n d:av)(hn:n.cD.length≤1099511627776)(hd:d.cD.length≤1099511627776)(h0:d.val≠0):Cp 55 [n.pv,d.pv] (aI (Rat.divInt n.val d.val)).pv:=by
 have sn:=cF.Sign n hn;have sd:=cF.Sign d hd;have wn:=ba n;have wd':=ba d;by_cases hz:n.val=0
 ·rw[hz,Rat.zero_divInt];exact jz.e0 n d _ sn (by rw[hz];rfl)
 ·have HH:pL n.val≠0:=by unfold pL dV;split<;>(try split)<;>omega
  by_cases hneg:d.val<0
  ·have e:Rat.divInt n.val d.val=Rat.divInt (-n.val) (-d.val):=by rw[Rat.divInt_neg',Int.neg_neg]
   have n1:=cF.Neg n hn;have d1:=cF.Neg d hd;have l1:(Sym.whole (-n.val)).cD.length≤1099511627776:=by show wl _≤_;rw[gj];omega
   have l2:(Sym.whole (-d.val)).cD.length≤1099511627776:=by show wl _≤_;rw[gj];omega
   have g:=cF.Gcd _ _ l1 l2;rw[aC,aC] at g;have Dq:=yS (a := -n.val) (b := -d.val) (k:=1099511627776) (by rw[gj];omega) (by rw[gj];omega);have s2:=cF.Sign _ l1;rw[aC] at s2;rw[e,formed (by omega) (by omega) _ rfl];obtain⟨f1,f2⟩:=Cs (n := -n.val) (by omega) (Nat.gcd (-n.val).natAbs (-d.val).natAbs) (ajF _ _);have AJ:((Nat.gcd (-n.val).natAbs (-d.val).natAbs:Nat):Int)≠0:=by have:=ai9 (-d.val).natAbs (show 0<(-n.val).natAbs by omega);omega
   rw[f1,show(Sym.whole (-n.val/((Nat.gcd (-n.val).natAbs (-d.val).natAbs:Nat):Int))).cD=(Sym.whole (((-n.val).natAbs:Int)/((Nat.gcd (-n.val).natAbs (-d.val).natAbs:Nat):Int))).cD from by unfold Sym.whole;rw[f2]];generalize hG:((Nat.gcd (-n.val).natAbs (-d.val).natAbs:Nat):Int)=G at *;have dd:=cF.Div (Sym.whole (-d.val)) (Sym.whole G) l2 Dq (by rw[aC];exact AJ);rw[aC,aC] at dd;by_cases hs : -n.val<0
   ·have n2:=cF.Neg _ l1;rw[aC] at n2;have dn:=cF.Div (Sym.whole (- -n.val)) (Sym.whole G) (by show wl _≤_;rw[gj,gj];omega) Dq (by rw[aC];exact AJ);rw[aC,aC] at dn;rw[show ((-n.val).natAbs:Int) = - -n.val from by omega];have:=jz.e1 n d _ _ _ _ _ _ _ _ _ none _ _ none sn HH sd (by unfold pL dV;rw[ag9 hneg];omega) n1 d1 g s2 (by unfold pL dV;rw[ag9 hs];omega) n2 dn dd;rw[show decide (pL (-n.val)<0)=decide (-n.val<0) from by unfold pL dV;rw[ag9 hs,agq hs];rfl] at this;exact this
   ·have dn:=cF.Div (Sym.whole (-n.val)) (Sym.whole G) l1 Dq (by rw[aC];exact AJ);rw[aC,aC] at dn;rw[show ((-n.val).natAbs:Int) = -n.val from by omega];have Xr:pL (-n.val)=1:=by unfold pL dV;rw[ag7 hs,ag7 (by omega)]
    have:=jz.e2 n d _ _ _ _ _ _ _ _ none _ _ none sn HH sd (by unfold pL dV;rw[ag9 hneg];omega) n1 d1 g s2 (by rw[Xr];omega) dn dd;rw[show decide (pL (-n.val)<0)=decide (-n.val<0) from by rw[Xr,ags hs];rfl] at this;exact this
  ·have g:=cF.Gcd _ _ hn hd;have Dq:=yS (a:=n.val) (b:=d.val) (k:=1099511627776) (by omega) (by omega);rw[formed hz (by omega) _ rfl];obtain⟨f1,f2⟩:=Cs hz (Nat.gcd n.val.natAbs d.val.natAbs) (ajF _ _);have AJ:((Nat.gcd n.val.natAbs d.val.natAbs:Nat):Int)≠0:=by
    have:=ai9 d.val.natAbs (show 0<n.val.natAbs by omega);omega
   rw[f1,show(Sym.whole (n.val/((Nat.gcd n.val.natAbs d.val.natAbs:Nat):Int))).cD=(Sym.whole ((n.val.natAbs:Int)/((Nat.gcd n.val.natAbs d.val.natAbs:Nat):Int))).cD from by unfold Sym.whole;rw[f2]];generalize hG:((Nat.gcd n.val.natAbs d.val.natAbs:Nat):Int)=G at *;have dd:=cF.Div d (Sym.whole G) hd Dq (by rw[aC];exact AJ);rw[aC] at dd;have YU:0≤pL d.val:=by unfold pL dV;rw[ag7 hneg];split<;>omega
   by_cases hs:n.val<0
   ·have n2:=cF.Neg _ hn;have dn:=cF.Div (Sym.whole (-n.val)) (Sym.whole G) (by show wl _≤_;rw[gj];omega) Dq (by rw[aC];exact AJ);rw[aC,aC] at dn;rw[show (n.val.natAbs:Int) = -n.val from by omega];have:=jz.e3 n d _ _ _ _ _ _ _ none _ _ none sn HH sd YU g sn (by unfold pL dV;rw[ag9 hs];omega) n2 dn dd;rw[show decide (pL n.val<0)=decide (n.val<0) from by unfold pL dV;rw[ag9 hs,agq hs];rfl] at this;exact this
   ·have dn:=cF.Div n (Sym.whole G) hn Dq (by rw[aC];exact AJ);rw[aC] at dn;rw[show (n.val.natAbs:Int)=n.val from by omega];have Xr:pL n.val=1:=by unfold pL dV;rw[ag7 hs,ag7 (by omega)]
    have:=jz.e4 n d _ _ _ _ _ _ none _ _ none sn HH sd YU g sn (by rw[Xr];omega) dn dd;rw[show decide (pL n.val<0)=decide (n.val<0) from by rw[Xr,ags hs];rfl] at this;exact this
theorem vv(n d:Int)(hn:wl n≤1099511627776)(hd:wl d≤1099511627776)(h0:d≠0):Cp 55 [(Sym.whole n).pv,(Sym.whole d).pv] (aI (Rat.divInt n d)).pv:=by have:=form (Sym.whole n) (Sym.whole d) hn hd (by rw[aC];exact h0);rwa[aC,aC] at this
theorem Vc(n d:av)(hn:n.cD.length≤1099511627776)(hd:d.cD.length≤1099511627776)(h0:d.val≠0):Cp 138 [n.pv,d.pv] (.aF [(aI (Rat.divInt n.val d.val)).pv,.ay]) :=
 vo.e1 n d _ _ (cF.Sign d hd) (by unfold pL dV;split<;>(try split)<;>omega) (form n d hn hd h0)
theorem Of(n:Int)(h:az n):Cp 18 [vI n] (aI (n:Rat)).pv:=by have hw:wl n≤2:=mU (by unfold az at h;omega);have:=vv n 1 (by omega) (by decide) (by omega);rw[show Rat.divInt n 1=(n:Rat) from by rw[agK];grind] at this;exact zL.e0 n _ _ _ (cF.Of n h) one this
theorem Neg(a:ag)(h:kS a):Cp 128 [a.pv] (aI (-a.val)).pv:=by have hp:=lO a h;have hh:=gm h.1 h.2 (by omega);have h1:=eQ a.val;have h2:=fK a.val;have hn:=cF.Neg (Sym.whole a.val.num) (show wl _≤_ by omega);rw[aC] at hn;have hf:=vv (-a.val.num) a.val.den (by rw[gj];omega) (by omega) (by have:=a.val.den_nz;omega);rw[←Rat.neg_divInt,ai5] at hf;exact xx.e0 a _ _ _ _ hp hn hf
theorem Sign(a:ag)(h:kS a):Cp 119 [a.pv] (vI (iy a.val 0)):=by have hp:=lO a h;have hh:=gm h.1 h.2 (by omega);have h1:=eQ a.val;have hs:=cF.Sign (Sym.whole a.val.num) (show wl _≤_ by omega);rw[aC,EF] at hs;exact vn.e0 a _ _ _ hp hs
theorem Add(a b:ag)(ha:kS a)(hb:kS b):Cp 62 [a.pv,b.pv] (aI (a.val+b.val)).pv:=by
 have pa:=lO a ha;have pb:=lO b hb;have la:=gm ha.1 ha.2 (by omega);have lb:=gm hb.1 hb.2 (by omega);have h1:=eQ a.val;have h2:=fK a.val;have h3:=eQ b.val;have h4:=fK b.val;have m1:=cF.Mul (Sym.whole a.val.num) (Sym.whole (b.val.den:Int)) (show wl _≤_ by omega) (show wl _≤_ by omega);have m2:=cF.Mul (Sym.whole b.val.num) (Sym.whole (a.val.den:Int)) (show wl _≤_ by omega) (show wl _≤_ by omega);have m3:=cF.Mul (Sym.whole (a.val.den:Int)) (Sym.whole (b.val.den:Int)) (show wl _≤_ by omega) (show wl _≤_ by omega);rw[aC,aC] at m1 m2 m3;have w1:=eo a.val.num b.val.den;have w2:=eo b.val.num a.val.den;have w3:=eo (a.val.den:Int) b.val.den;have s:=cF.Add (Sym.whole (a.val.num*b.val.den)) (Sym.whole (b.val.num*a.val.den)) (show wl _≤_ by omega) (show wl _≤_ by omega);rw[aC,aC] at s;have w4:=yL (a.val.num*b.val.den) (b.val.num*a.val.den);have hf:=vv (a.val.num*b.val.den+b.val.num*a.val.den) ((a.val.den:Int)*(b.val.den:Int)) (by omega) (by omega) (by have:=a.val.den_nz;have:=b.val.den_nz;exact ai3 (by omega) (by omega))
 rw[←agz,aiv,←Rat.add_def',agz] at hf;exact xu.e0 a b _ _ _ _ _ _ _ _ _ pa pb m1 m2 s m3 hf
theorem Sub(a b:ag)(ha:kS a)(hb:kS b):Cp 186 [a.pv,b.pv] (aI (a.val-b.val)).pv:=by have hn:=Neg b hb;have lb:=gm hb.1 hb.2 (by omega);have hs:=Add a (aI (-b.val)) ha (oH (by rw[Cr];exact lb));rw[b9,←Rat.sub_eq_add_neg] at hs;exact xz.e0 a b _ _ hn hs
theorem Mul(a b:ag)(ha:kS a)(hb:kS b):Cp 117 [a.pv,b.pv] (aI (a.val*b.val)).pv:=by
 have pa:=lO a ha;have pb:=lO b hb;have la:=gm ha.1 ha.2 (by omega);have lb:=gm hb.1 hb.2 (by omega);have h1:=eQ a.val;have h2:=fK a.val;have h3:=eQ b.val;have h4:=fK b.val;have m1:=cF.Mul (Sym.whole a.val.num) (Sym.whole b.val.num) (show wl _≤_ by omega) (show wl _≤_ by omega);have m3:=cF.Mul (Sym.whole (a.val.den:Int)) (Sym.whole (b.val.den:Int)) (show wl _≤_ by omega) (show wl _≤_ by omega);rw[aC,aC] at m1 m3;have w1:=eo a.val.num b.val.num;have w3:=eo (a.val.den:Int) b.val.den;have hf:=vv (a.val.num*b.val.num) ((a.val.den:Int)*(b.val.den:Int)) (by omega) (by omega) (by have:=a.val.den_nz;have:=b.val.den_nz;exact ai3 (by omega) (by omega))
 rw[←agz,aiv,←Rat.mul_def',agz] at hf;exact xw.e0 a b _ _ _ _ _ _ _ pa pb m1 m3 hf
theorem Div(a b:ag)(ha:kS a)(hb:kS b)(h0:b.val≠0):Cp 180 [a.pv,b.pv] (.aF [(aI (a.val/b.val)).pv,.ay]):=by
 have pa:=lO a ha;have pb:=lO b hb;have la:=gm ha.1 ha.2 (by omega);have lb:=gm hb.1 hb.2 (by omega);have h1:=eQ a.val;have h2:=fK a.val;have h3:=eQ b.val;have h4:=fK b.val;have m1:=cF.Mul (Sym.whole a.val.num) (Sym.whole (b.val.den:Int)) (show wl _≤_ by omega) (show wl _≤_ by omega);have m3:=cF.Mul (Sym.whole (a.val.den:Int)) (Sym.whole b.val.num) (show wl _≤_ by omega) (show wl _≤_ by omega);rw[aC,aC] at m1 m3;have w1:=eo a.val.num b.val.den;have w3:=eo (a.val.den:Int) b.val.num;have hf:=Vc (Sym.whole (a.val.num*b.val.den)) (Sym.whole ((a.val.den:Int)*b.val.num)) (show wl _≤_ by omega) (show wl _≤_ by omega) (by rw[aC];have:=a.val.den_nz;refine ai3 (by omega) (fun e=>h0 (aiH.1 e)))
 rw[aC,aC,←Rat.divInt_mul_divInt,ai5,←Rat.inv_def,←ahs] at hf;exact xy.e0 a b _ _ _ _ _ _ _ none pa pb m1 m3 hf
theorem Xs(a:ag)(h:kS a):Cp 188 [a.pv] (Sym.whole a.val.floor).pv:=by have hp:=lO a h;have hh:=gm h.1 h.2 (by omega);have h1:=eQ a.val;have h2:=fK a.val;have hd:=cF.Div (Sym.whole a.val.num) (Sym.whole (a.val.den:Int)) (show wl _≤_ by omega) (show wl _≤_ by omega) (by rw[aC];have:=a.val.den_nz;omega);rw[aC,aC,←Rat.floor_def] at hd;exact tM.e0 a _ _ _ _ none hp hd
theorem xG(a b:ag)(ha:kS a)(hb:kS b):Cp 17 [a.pv,b.pv] (vI (iy a.val b.val)):=by have pa:=lO a ha;have pb:=lO b hb;have la:=gm ha.1 ha.2 (by omega);have lb:=gm hb.1 hb.2 (by omega);have h1:=eQ a.val;have h2:=fK a.val;have h3:=eQ b.val;have h4:=fK b.val;have m1:=cF.Mul (Sym.whole a.val.num) (Sym.whole (b.val.den:Int)) (show wl _≤_ by omega) (show wl _≤_ by omega);have m2:=cF.Mul (Sym.whole b.val.num) (Sym.whole (a.val.den:Int)) (show wl _≤_ by omega) (show wl _≤_ by omega);rw[aC,aC] at m1 m2;have w1:=eo a.val.num b.val.den;have w2:=eo b.val.num a.val.den;have hc:=cF.xG (Sym.whole (a.val.num*b.val.den)) (Sym.whole (b.val.num*a.val.den)) (show wl _≤_ by omega) (show wl _≤_ by omega);rw[aC,aC,Pp] at hc;exact xp.e0 a b _ _ _ _ _ _ _ pa pb m1 m2 hc
end tf
namespace Vd
theorem one:Cp 89 [] (Sym.whole 1).pv:=qp.e0 _ (yM.Of 1 (by unfold az;omega))
theorem plain(m:Words)(h:m.length≤274877906944):Cp 99 [af m] (vB (!m.isEmpty&&cn m)):=by
 rw[dj];by_cases h0:m.length=0
 ·rw[agq h0,ahD,ahf];exact kJ.e1 m (by omega)
 ·rw[ags h0,aho,ahc];obtain⟨v,hv⟩:∃v,m[m.length-1]? = some v:=⟨_,afO (by omega)⟩;have:=kJ.e0 m (m.length-1) v (by omega) (by unfold az;omega) (by omega) hv;have e:cn m=((v.toNat:Int) != 0):=by
   have h1:=nH hv;by_cases h2:v.toNat=0
   ·have h3:((v.toNat:Int) != 0)=false:=by simp[h2]
    rw[h3];cases hc:cn m with
    |true=>exact absurd h2 (h1.1 hc)
    |false=>rfl
   ·have h3:((v.toNat:Int) != 0)=true:=by simp;omega
    rw[h3];exact h1.2 h2
  rw[e];exact this
theorem Pr{m:Words}(h:m.length≤274877906944)(h0:m.length≠0):Cp 99 [af m] (vB (cn m)):=by have:=plain m h;rwa[dj,ags h0,aho,ahc] at this
theorem Ps{m:Words}(h0:m.length=0):Cp 99 [af m] (vB false):=by have:=plain m (by omega);rwa[dj,agq h0,ahD,ahf] at this
theorem Valid(a:ag)(h:kS a):Cp 50 [a.pv] (vB a.valid):=by
 obtain⟨l1,l2⟩:=h;by_cases h1:a.num.length=0
 ·by_cases h2:a.den.length=0
  ·rw[Ij h1 h2];exact cW.e0 a h1 h2
  ·rw[Ik h1 h2];exact cW.e3 a _ h1 h2 (Ps h1) rfl
 ·have p1:=Pr l1 h1;by_cases h2:a.den.length=0
  ·rw[Il h1 h2];cases Gd:cn a.num with
   |false=>exact cW.e6 a _ h1 p1 Gd
   |true=>exact cW.e5 a _ _ h1 p1 Gd (Ps h2) rfl
  ·have p2:=Pr l2 h2;rw[Im h1 h2];cases Gd:cn a.num with
   |false=>rw[ahf];exact cW.e6 a _ h1 p1 Gd
   |true =>
    rw[ahc];cases HQ:cn a.den with
    |false=>rw[ahf];exact cW.e5 a _ _ h1 p1 Gd p2 HQ
    |true =>have hg:=yM.Gcd ⟨false,a.num⟩ ⟨false,a.den⟩ (show a.num.length≤_ by omega) (show a.den.length≤_ by omega);rw[xJ h1 Gd,xJ h2 HQ,agi,agi] at hg;have gl:=yS (a:=(nat a.num:Int)) (b:=(nat a.den:Int)) (k:=274877906944) (by show(words _).length≤_;rw[agi,fk Gd];exact l1) (by show(words _).length≤_;rw[agi,fk HQ];exact l2);rw[agi,agi] at gl;have hc:=yM.xG (Sym.whole (Nat.gcd (nat a.num) (nat a.den):Nat)) (Sym.whole 1) (show wl _<_ by omega) (show wl 1<_ by decide);rw[aC,aC] at hc;rw[ahc,←Lw];exact cW.e4 a _ _ _ _ _ h1 p1 Gd p2 HQ hg one hc
theorem lO(a:ag)(h:kS a):Cp 150 [a.pv] (.aF [(Sym.whole a.val.num).pv,(Sym.whole (a.val.den:Int)).pv]):=by
 have hv:=Valid a h;cases hc:a.valid with
 |false=>rw[F8 hc];exact gZ.e0 a _ _ hv hc one
 |true =>
  by_cases h0:a.num.length=0
  ·rw[xI (afP h0)];exact gZ.e1 a _ _ hv hc h0 one
  ·obtain⟨e1,e2⟩:=Io hc h0;rw[e1,e2];exact gZ.e2 a _ hv hc h0
theorem form(n d:av)(hn:n.cD.length≤1099511627776)(hd:d.cD.length≤1099511627776)(h0:d.val≠0):Cp 87 [n.pv,d.pv] (aI (Rat.divInt n.val d.val)).pv:=by
 have sn:=yM.Sign n hn;have sd:=yM.Sign d hd;have wn:=ba n;have wd':=ba d;by_cases hz:n.val=0
 ·rw[hz,Rat.zero_divInt];exact ja.e0 n d _ sn (by rw[hz];rfl)
 ·have HH:pL n.val≠0:=by unfold pL dV;split<;>(try split)<;>omega
  by_cases hneg:d.val<0
  ·have e:Rat.divInt n.val d.val=Rat.divInt (-n.val) (-d.val):=by rw[Rat.divInt_neg',Int.neg_neg]
   have n1:=yM.Neg n hn;have d1:=yM.Neg d hd;have l1:(Sym.whole (-n.val)).cD.length≤1099511627776:=by show wl _≤_;rw[gj];omega
   have l2:(Sym.whole (-d.val)).cD.length≤1099511627776:=by show wl _≤_;rw[gj];omega
   have g:=yM.Gcd _ _ l1 l2;rw[aC,aC] at g;have Dq:=yS (a := -n.val) (b := -d.val) (k:=1099511627776) (by rw[gj];omega) (by rw[gj];omega);rw[e,formed (by omega) (by omega) _ rfl];have AJ:((Nat.gcd (-n.val).natAbs (-d.val).natAbs:Nat):Int)≠0:=by have:=ai9 (-d.val).natAbs (show 0<(-n.val).natAbs by omega);omega
   generalize hG:((Nat.gcd (-n.val).natAbs (-d.val).natAbs:Nat):Int)=G at *;have dd:=yM.Div (Sym.whole (-d.val)) (Sym.whole G) l2 Dq (by rw[aC];exact AJ);have dn:=yM.Div (Sym.whole (-n.val)) (Sym.whole G) l1 Dq (by rw[aC];exact AJ);rw[aC,aC] at dd dn;exact ja.e1 n d _ _ _ _ _ _ _ _ _ _ _ sn HH sd (by unfold pL dV;rw[ag9 hneg];omega) n1 d1 g dn dd
  ·have g:=yM.Gcd _ _ hn hd;have Dq:=yS (a:=n.val) (b:=d.val) (k:=1099511627776) (by omega) (by omega);rw[formed hz (by omega) _ rfl];have AJ:((Nat.gcd n.val.natAbs d.val.natAbs:Nat):Int)≠0:=by
    have:=ai9 d.val.natAbs (show 0<n.val.natAbs by omega);omega
   generalize hG:((Nat.gcd n.val.natAbs d.val.natAbs:Nat):Int)=G at *;have dd:=yM.Div d (Sym.whole G) hd Dq (by rw[aC];exact AJ);have dn:=yM.Div n (Sym.whole G) hn Dq (by rw[aC];exact AJ);rw[aC] at dd dn;have YU:0≤pL d.val:=by unfold pL dV;rw[ag7 hneg];split<;>omega
   exact ja.e2 n d _ _ _ _ _ _ _ _ _ sn HH sd YU g dn dd
theorem vv(n d:Int)(hn:wl n≤1099511627776)(hd:wl d≤1099511627776)(h0:d≠0):Cp 87 [(Sym.whole n).pv,(Sym.whole d).pv] (aI (Rat.divInt n d)).pv:=by have:=form (Sym.whole n) (Sym.whole d) hn hd (by rw[aC];exact h0);rwa[aC,aC] at this
theorem Of(n:Int)(h:az n):Cp 36 [vI n] (aI (n:Rat)).pv:=by have hw:wl n≤2:=mU (by unfold az at h;omega);have:=vv n 1 (by omega) (by decide) (by omega);rw[show Rat.divInt n 1=(n:Rat) from by rw[agK];grind] at this;exact rk.e0 n _ _ _ (yM.Of n h) one this
theorem Neg(a:ag)(h:kS a):Cp 149 [a.pv] (aI (-a.val)).pv:=by have hp:=lO a h;have hh:=gm h.1 h.2 (by omega);have h1:=eQ a.val;have h2:=fK a.val;have hn:=yM.Neg (Sym.whole a.val.num) (show wl _≤_ by omega);rw[aC] at hn;have hf:=vv (-a.val.num) a.val.den (by rw[gj];omega) (by omega) (by have:=a.val.den_nz;omega);rw[←Rat.neg_divInt,ai5] at hf;exact qq.e0 a _ _ _ _ hp hn hf
theorem Sign(a:ag)(h:kS a):Cp 85 [a.pv] (vI (iy a.val 0)):=by have hp:=lO a h;have hh:=gm h.1 h.2 (by omega);have h1:=eQ a.val;have hs:=yM.Sign (Sym.whole a.val.num) (show wl _≤_ by omega);rw[aC,EF] at hs;exact pn.e0 a _ _ _ hp hs
theorem Add(a b:ag)(ha:kS a)(hb:kS b):Cp 86 [a.pv,b.pv] (aI (a.val+b.val)).pv:=by
 have pa:=lO a ha;have pb:=lO b hb;have la:=gm ha.1 ha.2 (by omega);have lb:=gm hb.1 hb.2 (by omega);have h1:=eQ a.val;have h2:=fK a.val;have h3:=eQ b.val;have h4:=fK b.val;have m1:=yM.Mul (Sym.whole a.val.num) (Sym.whole (b.val.den:Int)) (show wl _≤_ by omega) (show wl _≤_ by omega);have m2:=yM.Mul (Sym.whole b.val.num) (Sym.whole (a.val.den:Int)) (show wl _≤_ by omega) (show wl _≤_ by omega);have m3:=yM.Mul (Sym.whole (a.val.den:Int)) (Sym.whole (b.val.den:Int)) (show wl _≤_ by omega) (show wl _≤_ by omega);rw[aC,aC] at m1 m2 m3;have w1:=eo a.val.num b.val.den;have w2:=eo b.val.num a.val.den;have w3:=eo (a.val.den:Int) b.val.den;have s:=yM.Add (Sym.whole (a.val.num*b.val.den)) (Sym.whole (b.val.num*a.val.den)) (show wl _≤_ by omega) (show wl _≤_ by omega);rw[aC,aC] at s;have w4:=yL (a.val.num*b.val.den) (b.val.num*a.val.den);have hf:=vv (a.val.num*b.val.den+b.val.num*a.val.den) ((a.val.den:Int)*(b.val.den:Int)) (by omega) (by omega) (by have:=a.val.den_nz;have:=b.val.den_nz;exact ai3 (by omega) (by omega))
 rw[←agz,aiv,←Rat.add_def',agz] at hf;exact qo.e0 a b _ _ _ _ _ _ _ _ _ pa pb m1 m2 s m3 hf
theorem Mul(a b:ag)(ha:kS a)(hb:kS b):Cp 157 [a.pv,b.pv] (aI (a.val*b.val)).pv:=by
 have pa:=lO a ha;have pb:=lO b hb;have la:=gm ha.1 ha.2 (by omega);have lb:=gm hb.1 hb.2 (by omega);have h1:=eQ a.val;have h2:=fK a.val;have h3:=eQ b.val;have h4:=fK b.val;have m1:=yM.Mul (Sym.whole a.val.num) (Sym.whole b.val.num) (show wl _≤_ by omega) (show wl _≤_ by omega);have m3:=yM.Mul (Sym.whole (a.val.den:Int)) (Sym.whole (b.val.den:Int)) (show wl _≤_ by omega) (show wl _≤_ by omega);rw[aC,aC] at m1 m3;have w1:=eo a.val.num b.val.num;have w3:=eo (a.val.den:Int) b.val.den;have hf:=vv (a.val.num*b.val.num) ((a.val.den:Int)*(b.val.den:Int)) (by omega) (by omega) (by have:=a.val.den_nz;have:=b.val.den_nz;exact ai3 (by omega) (by omega))
 rw[←agz,aiv,←Rat.mul_def',agz] at hf;exact qt.e0 a b _ _ _ _ _ _ _ pa pb m1 m3 hf
end Vd
def dk(p:List ag):List Rat:=p.map ag.val
abbrev sE(k:Nat)(p:List ag):Prop:=∀a∈p,a.num.length≤k∧a.den.length≤k
abbrev Fl(k:Nat)(q:List Rat):Prop:=∀x∈q,ht x≤k
def aO:List Rat→List Rat
 |[]=>[]
 |a::r=>bif (aO r).isEmpty&&decide (a=0) then [] else a::aO r
theorem wu:∀q:List Rat,aO (q++[0])=aO q
 |[]=>rfl
 |a::r=>by show(bif (aO (r++[0])).isEmpty&&decide (a=0) then [] else a::aO (r++[0]))=_;rw[wu r];rfl
theorem Ct{v:Rat}(h:v≠0):∀{q:List Rat},aO (q++[v])=q++[v]
 |[]=>by show(bif (aO []).isEmpty&&decide (v=0) then [] else v::aO [])=[v];rw[ags h,Bool.and_false];rfl
 |a::r=>by show(bif (aO (r++[v])).isEmpty&&decide (a=0) then [] else a::aO (r++[v]))=_;rw[Ct h];cases r<;>rfl
theorem Lx{α:Type}{q:List α}{n:Nat}{v:α}(h:q[n]? = some v)(hl:q.length=n+1):q=q.take n++[v]:=by have:=agH (l:=q) (i:=n);rw[h,agd (by omega)] at this;exact this
theorem Ge{k:Nat}{p:List ag}(h:sE k p)(hk:1≤k):Fl k (dk p):=by intro x hx;unfold dk at hx;obtain⟨a,ha,rfl⟩:=agI.1 hx;exact gm (h a ha).1 (h a ha).2 hk
theorem Ly{q:List Rat}(h:Fl 274877906944 q):sE 274877906944 (q.map aI):=by intro a ha;obtain⟨x,hx,rfl⟩:=agI.1 ha;exact oH (h x hx)
theorem bK{q:Rat}{k:Nat}(h:ht q≤k):(aI q).num.length≤k∧(aI q).den.length≤k:=by
 by_cases h0:q=0
 ·subst h0;constructor<;>simp[nW]
 ·rw[sD h0];exact⟨ag3 (eQ q) h,ag3 (fK q) h⟩
theorem kT{q:List Rat}{k:Nat}(h:Fl k q):sE k (q.map aI):=by intro a ha;obtain⟨x,hx,rfl⟩:=agI.1 ha;exact bK (h x hx)
theorem mE(q:List Rat):dk (q.map aI)=q:=by
 unfold dk;rw[aia]
 conv=>rhs;rw[←ajO q]
 exact ahW (fun x _=>b9 x)
theorem MV{p:List ag}{n:Nat}{v:ag}(h:p[n]? = some v):(dk p).drop n=v.val::(dk p).drop (n+1):=by obtain⟨h1,h2⟩:=afQ.1 h;unfold dk;rw[ahp (by simpa using h1),List.getElem_map,h2]
def aQ(q:List Rat):Bool:=match q.getLast? with
 |none=>false
 |some v=>decide (v=0)
theorem Ki{p:List ag}(h:aQ (dk p)=true):∃v,0<p.length∧p[p.length-1]? = some v∧v.val=0:=by
 unfold aQ dk at h;rw[List.getLast?_map,ahX] at h;cases hv:p[p.length-1]? with
 |none=>rw[hv] at h;cases h
 |some v =>rw[hv] at h;have h:decide (v.val=0)=true:=h;exact⟨v,by have:=(afQ.1 hv).1;omega,rfl,ahI h⟩
theorem Ip{p:List ag}(h:aQ (dk p)=false)(h0:p.length≠0):∃v,p[p.length-1]? = some v∧v.val≠0:=by unfold aQ dk at h;rw[List.getLast?_map,ahX] at h;obtain⟨v,hv⟩:∃v,p[p.length-1]? = some v:=⟨_,afO (by omega)⟩;rw[hv] at h;have h:decide (v.val=0)=false:=h;exact⟨v,hv,of_decide_eq_false h⟩
def x8(p:List ag):Int:=if 65<p.length then 4 else bif p.all ag.valid then (bif aQ (dk p) then 8 else 0) else 2
def zT(n:Int):Option Int:=if n=0 then none else some n
theorem xK{n:Int}(h:n≠0):zT n=some n:=ag7 h
theorem Lz{p:List ag}(h:x8 p=0):p.length≤65:=by
 unfold x8 at h;split at h
 ·cases h
 ·omega
def evalL:List Rat→Rat→Rat
 |[],_=>0
 |a::r,x=>evalL r x*x+a
theorem uJ(q:List Rat)(x:Rat)(k:Nat)(h:Fl k q)(hx:ht x≤k):ht (evalL q x)≤q.length*(2*k+1)+1:=by
 induction q with
 |nil =>have:ht (evalL [] x)=1:=k7;omega
 |cons a r ih =>have h1:=ih (fun y hy=>h y (agm _ hy));have h2:=h a (agM ..);have h3:=pA (evalL r x) x;have h4:=wk (evalL r x*x) a;show ht (evalL r x*x+a)≤_;rw[agn,agF];omega
def gz:Nat→List Rat→List Rat
 |_,[]=>[]
 |i,a::r=>((i:Int):Rat)*a::gz (i+1) r
def an(q:List Rat):List Rat:=aO (gz 1 (q.drop 1))
theorem ru:∀(q:List Rat) (i:Nat),(gz i q).length=q.length
 |[],_=>rfl
 |a::r,i=>by rw[gz,agn,agn,ru r]
theorem EG:∀(q:List Rat) (i:Nat) (a:Rat),gz i (q++[a])=gz i q++[(((i+q.length:Nat):Int):Rat)*a]
 |[],i,a=>rfl
 |b::r,i,a=>by rw[aiR,gz,gz,EG r (i+1) a,agn,aiR,show i+1+r.length=i+(r.length+1) from by omega]
theorem MW{p:List ag}{i:Nat}{v:ag}(hv:p[i]? = some v)(h:1≤i):gz 1 (((dk p).take (i+1)).drop 1)=gz 1 (((dk p).take i).drop 1)++[((i:Int):Rat)*v.val]:=by
 have h1:=(afQ.1 hv).1;have hm:(dk p)[i]? = some v.val:=by unfold dk;rw[afT,hv];rfl
 have hl:((dk p).take i).length=i:=by unfold dk;simp;omega
 rw[agH,hm,List.drop_append_of_le_length (by omega)];show gz 1 (((dk p).take i).drop 1++[v.val])=_;rw[EG,ahT,hl,show 1+(i-1)=i from by omega]
theorem LA{k:Nat}(hk:k+2≤274877906944):∀(q:List Rat) (i:Nat),i+q.length≤18446744073709551615→Fl k q→Fl 274877906944 (gz i q)
 |[],_,_,_=>fun x hx=>by cases hx
 |a::r,i,hi,h=>by
  intro x hx;rw[agn] at hi;rcases agp.1 hx with e|hx
  ·rw[e];have h1:=pA ((i:Int):Rat) a;have h2:=h a (agM ..);have h3:ht ((i:Int):Rat)≤2:=by
    rw[Ga];have:wl (i:Int)≤2:=mU (by omega);omega
   omega
  ·exact LA hk r (i+1) (by omega) (fun y hy=>h y (agm _ hy)) x hx
namespace Iq
theorem DP(a:ag)(h:kS a):Cp 62 [a.pv,(⟨false,[],[]⟩:ag).pv] (aI a.val).pv:=by have hf:=tf.Add a ⟨false,[],[]⟩ h ⟨by simp,by simp⟩;rwa[xI (a:=⟨false,[],[]⟩) rfl,ai4] at hf
theorem Xt:∀(n:Nat) (q:List Rat),q.length=n→n<4611686018427387904→Fl 274877906944 q→kj.bD (q.map aI) (ae ((aO q).map aI)):=by
 intro n
 induction n with
 |zero =>intro q hq _ _;have:q=[]:=afP hq;subst this;exact kj.RC [] (by simp)
 |succ n ih =>
  intro q hq hb hf;obtain⟨v,hv⟩:∃v,q[n]? = some v:=⟨_,afO (by omega)⟩;have hs:=Lx hv hq;have hm:(q.map aI)[n]? = some (aI v):=by rw[afT,hv];rfl
  have H8:=hf v (ag4 hv);have sg:=tf.Sign (aI v) (oH H8);rw[b9] at sg;have hl:(q.map aI).length=n+1:=by rw[afW];exact hq
  by_cases h0:v=0
  ·refine kj.BZ (q.map aI) n (aI v) _ n (by omega) (by unfold az;omega) (by omega) (by omega) hm sg (hJ.2 h0) (by omega) (by omega) ?_;have:=ih (q.take n) (by rw[agh];omega) (by omega) (fun x hx=>hf x (aiP hx));rw[ahP] at this;rw[hs,h0,wu];rw[←hs.symm,←h0,←hs] at *;exact this
  ·rw[hs,Ct h0,←hs];exact kj.FM (q.map aI) n (aI v) _ (by omega) (by unfold az;omega) (by omega) (by omega) hm sg (fun e=>h0 (hJ.1 e))
theorem Trim(l:List ag)(hl:l.length≤1099511627776)(hf:sE 274877906944 l):Cp 82 [ae l] (ae ((aO (dk l)).map aI)):=by
 have loop:∀(j t:Nat) (site:List ag),l.length-t=j→t≤l.length→site=(l.take t).map (fun a=>aI a.val)→kj.ai site l t (ae ((aO (dk l)).map aI)):=by
  intro j
  induction j with
  |zero =>
   intro t site hj ht hs;have Ap:t=l.length:=by omega
   subst Ap;refine kj.c9 site l _ (afY _) ?_;rw[agd (afY _)] at hs;have:=Xt (dk l).length (dk l) rfl (by unfold dk;rw[afW];omega) (Ge hf (by omega));have e:site=(dk l).map aI:=by rw[hs];unfold dk;rw[aia];rfl
   rw[e];exact this
  |succ j ih =>
   intro t site hj ht hs;obtain⟨v,hv⟩:∃v,l[t]? = some v:=⟨_,afO (by omega)⟩;have ha:=DP v (hf v (ag4 hv));have Wi:site.length=t:=by rw[hs,afW,agh];omega
   refine kj.l10 site l t v _ (by omega) hv ha (by simp;omega) (by omega) (ih (t+1) _ (by omega) (by omega) ?_);rw[hs,agH,hv];simp
 exact kj.e0 l (loop _ 0 [] rfl (by omega) rfl)
theorem Ve:∀(j:Nat) (p:List ag) (t:Nat),p.length-t=j→t≤p.length→p.length≤65→sE 274877906944 p→(p.take t).all ag.valid=true →
  (p.all ag.valid=false→dR.ai p t (.iface 75 (vI 2)))∧(p.all ag.valid=true→aQ (dk p)=true→dR.ai p t (.iface 75 (vI 8)))∧(p.all ag.valid=true→aQ (dk p)=false→dR.ai p t .ay):=by
 intro j
 induction j with
 |zero =>
  intro p t hj ht hl hf hv;have Ap:t=p.length:=by omega
  subst Ap;rw[agd (afY _)] at hv;refine⟨fun h => ?_,fun _ hz => ?_,fun _ hz => ?_⟩
  ·rw[hv] at h;cases h
  ·obtain⟨v,h0,h1,h2⟩:=Ki hz;have sg:=tf.Sign v (hf v (ag4 h1));exact dR.kA p _ (p.length-1) v _ (afY _) h0 (by unfold az;omega) (by omega) h1 sg (hJ.2 h2)
  ·by_cases h0:p.length=0
   ·exact dR.Dp p _ (afY _) (by omega)
   ·obtain⟨v,h1,h2⟩:=Ip hz h0;have sg:=tf.Sign v (hf v (ag4 h1));exact dR.uA p _ (p.length-1) v _ (afY _) (by omega) (by unfold az;omega) (by omega) h1 sg (fun e=>h2 (hJ.1 e))
 |succ j ih =>
  intro p t hj ht hl hf hv;obtain⟨v,h1⟩:∃v,p[t]? = some v:=⟨_,afO (by omega)⟩;have YV:=tf.Valid v (hf v (ag4 h1));cases hc:v.valid with
  |false =>
   have Dw:p.all ag.valid=false:=by rw[List.all_eq_false];exact⟨v,ag4 h1,by rw[hc];simp⟩
   refine⟨fun _=>dR.l10 p t v _ (by omega) h1 YV hc,fun h => ?_,fun h => ?_⟩
   ·rw[Dw] at h;cases h
   ·rw[Dw] at h;cases h
  |true =>obtain⟨g1,g2,g3⟩:=ih p (t+1) (by omega) (by omega) hl hf (by rw[agH,h1];simp[hv,hc]);exact⟨fun h=>dR.c9 p t v _ (by omega) h1 YV hc (by omega) (g1 h),fun h h'=>dR.c9 p t v _ (by omega) h1 YV hc (by omega) (g2 h h'),fun h h'=>dR.c9 p t v _ (by omega) h1 YV hc (by omega) (g3 h h')⟩
theorem Check(p:List ag)(hf:sE 274877906944 p):Cp 121 [ae p] (bJ (zT (x8 p))):=by
 unfold x8;by_cases hl:p.length≤65
 ·rw[ag7 (by omega)];obtain⟨g1,g2,g3⟩:=Ve _ p 0 rfl (by omega) hl hf (by simp);cases hv:p.all ag.valid with
  |false=>exact dR.e1 p hl (g1 hv)
  |true =>
   cases hz:aQ (dk p) with
   |true=>exact dR.e1 p hl (g2 hv hz)
   |false=>exact dR.e1 p hl (g3 hv hz)
 ·rw[ag9 (by omega)];exact dR.e0 p (by omega)
theorem Xu(p:List ag)(x:ag)(hl:p.length≤65)(hp:sE 1073741824 p)(hx:x.num.length≤1073741824∧x.den.length≤1073741824):∀(n:Nat) (q:Rat),n≤p.length→q=evalL ((dk p).drop n) x.val →
  rl.ai p ((n:Int)-1) x (aI q) (.aF [(aI (evalL (dk p) x.val)).pv,.ay]):=by
 intro n
 induction n with
 |zero =>intro q _ hq;rw[ah3] at hq;rw[←hq];exact rl.c9 p _ x _ (by omega)
 |succ n ih =>
  intro q hn hq;obtain⟨v,hv⟩:∃v,p[n]? = some v:=⟨_,afO (by omega)⟩;have Wj:=hp v (ag4 hv);have b1:=gm Wj.1 Wj.2 (by omega);have b2:=gm hx.1 hx.2 (by omega);have b3:ht q≤65*2147483649+1:=by
   rw[hq];refine ag3 (uJ _ x.val 1073741824 (fun y hy=>Ge hp (by omega) y (List.mem_of_mem_drop hy)) b2) ?_;have:((dk p).drop (n+1)).length≤65:=by unfold dk;simp;omega
   omega
  have m:=tf.Mul (aI q) x (oH (by omega)) ⟨by omega,by omega⟩;rw[b9] at m;have b4:=pA q x.val;have s:=tf.Add (aI (q*x.val)) v (oH (by omega)) ⟨by omega,by omega⟩;rw[b9] at s;have:=ih (q*x.val+v.val) (by omega) (by rw[hq,MV hv];rfl);rw[show ((n+1:Nat):Int)-1=(n:Int) from by omega];exact rl.l10 p (n:Int) x _ _ n v _ (by omega) m rfl hv s (by unfold az;omega) this
theorem Eval(p:List ag)(x:ag)(hc:x8 p=0)(hp:sE 1073741824 p)(hx:x.num.length≤1073741824∧x.den.length≤1073741824):Cp 139 [ae p,x.pv] (.aF [(aI (evalL (dk p) x.val)).pv,.ay]):=by have hk:=Check p (fun a ha=>⟨by have:=(hp a ha).1;omega,by have:=(hp a ha).2;omega⟩);rw[hc] at hk;have hl:=Lz hc;exact rl.e0 p x hk (by unfold az;omega) (Xu p x hl hp hx p.length 0 (afY _) (by rw[agv (by unfold dk;simp)];rfl))
theorem derive(p:List ag)(hl:p.length≤65)(hp:sE 137438953472 p):Cp 134 [ae p] (ae ((an (dk p)).map aI)):=by
 have loop:∀(j i:Nat) (site:List ag),p.length-i=j→1≤i→site=(gz 1 (((dk p).take i).drop 1)).map aI→nR.ai p site i (ae ((an (dk p)).map aI)):=by
  intro j
  induction j with
  |zero =>intro i site hj h1 hs;rw[agd (by unfold dk;rw[afW];omega)] at hs;have q8:Fl 274877906944 (gz 1 ((dk p).drop 1)):=LA (k:=137438953472) (by omega) _ 1 (by unfold dk;simp;omega) (fun y hy=>Ge hp (by omega) y (List.mem_of_mem_drop hy));have ht:=Trim site (by rw[hs,afW,ru];unfold dk;simp;omega) (by rw[hs];exact Ly q8);rw[hs,mE] at ht;rw[hs];exact nR.c9 p _ i _ (by omega) ht
  |succ j ih =>
   intro i site hj h1 hs;obtain⟨v,hv⟩:∃v,p[i]? = some v:=⟨_,afO (by omega)⟩;have Wj:=hp v (ag4 hv);have ho:=tf.Of (i:Int) (by unfold az;omega);have b1:ht ((i:Int):Rat)≤2:=by rw[Ga];have:wl (i:Int)≤2:=mU (by omega);omega
   have m:=tf.Mul (aI ((i:Int):Rat)) v (oH (by omega)) ⟨by omega,by omega⟩;rw[b9] at m;have Wi:site.length=i-1:=by rw[hs,afW,ru];unfold dk;simp;omega
   refine nR.l10 p site i _ v _ (by omega) ho hv m (by simp;omega) (by omega) (ih (i+1) _ (by omega) (by omega) ?_);rw[hs,MW hv h1];simp
 exact nR.e0 p (loop _ 1 [] rfl (by omega) (by rw[show (((dk p).take 1).drop 1)=[] from by simp];rfl))
theorem Cu(p:List ag)(hc:x8 p=0)(hp:sE 137438953472 p):Cp 122 [ae p] (.aF [ae ((an (dk p)).map aI),.ay]):=by have hk:=Check p (fun a ha=>⟨by have:=(hp a ha).1;omega,by have:=(hp a ha).2;omega⟩);rw[hc] at hk;exact zM.e0 p _ hk (derive p (Lz hc) hp)
end Iq
end Go.Proofs.YtcpnocgollpbhaaGreatDoor.Sym
