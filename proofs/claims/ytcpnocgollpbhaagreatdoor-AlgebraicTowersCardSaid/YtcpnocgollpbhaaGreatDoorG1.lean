/- Lemmas for the statements of this seat. -/
import Derived.Test.YtcpnocgollpbhaaGreatDoorG0
import Derived.Test.YtcpnocgollpbhaaGreatDoorP1
import Derived.Test.YtcpnocgollpbhaaGreatDoorP2
namespace Go.Proofs.YtcpnocgollpbhaaGreatDoor.Sym
open Go Path
set_option linter.unusedVariables false
abbrev ws(a:Words):SC := .pure ((a:List UInt32).map aj).flatten
namespace wI
open cV
theorem Valid(a:az)(h:Fit a.cJ):Cp 217 [a.pv] (vB a.valid):=by
 unfold az.valid;rw[dC];by_cases h0:a.cJ.length=0
 ·simp only[h0,decide_true,cond_true];exact k8.e0 a h0
 ·simp only[h0,decide_false,cond_false];obtain⟨v,hv⟩:∃v,a.cJ[a.cJ.length-1]? = some v:=⟨_,afp (by omega)⟩;have:=k8.e1 a (a.cJ.length-1) v h0 (by unfold ay;omega) (by omega) hv;have e:cn a.cJ=((v.toNat:Int) != 0):=by
   have h1:=nY hv;by_cases h2:v.toNat=0
   ·have h3:((v.toNat:Int) != 0)=false:=by simp[h2]
    rw[h3];cases hc:cn a.cJ with
    |true=>exact absurd h2 (h1.1 hc)
    |false=>rfl
   ·have h3:((v.toNat:Int) != 0)=true:=by simp;omega
    rw[h3];exact h1.2 h2
  rw[e];exact this
theorem cJ(a:az)(h:Fit a.cJ):Cp 170 [a.pv] (af (words a.val.natAbs)):=by
 rw[GU];cases hv:a.valid with
 |false=>exact mL.e0 a a.valid (Valid a h) hv
 |true=>exact mL.e1 a a.valid (Valid a h) hv
theorem neg(a:az)(h:Fit a.cJ):Cp 197 [a.pv] (vB (decide (a.val<0))):=by
 rw[BW];cases hv:a.valid with
 |false=>exact mM.e1 a a.valid (Valid a h) hv
 |true=>rw[agU];exact mM.e0 a a.valid (Valid a h) hv
theorem trimmed{l:Words}{n:Nat}{v:UInt32}(hv:l[n]? = some v)(h0:v.toNat=0)(hn:n+1=l.length):nat (l.take n)=nat l:=by have:=bR hv;rw[aV (by omega),h0] at this;omega
theorem trim(a:Words)(h:a.length≤35184372088832):Cp 203 [af a] (af (words (nat a))):=by
 have loop:∀(n:Nat) (l:Words),l.length=n→n≤35184372088832→fw.ah l (af (words (nat l))):=by
  intro n
  induction n with
  |zero =>intro l hl _;have:l=[]:=afr hl;subst this;exact fw.jT [] (by simp)
  |succ n ih =>
   intro l hl hb;obtain⟨v,hv⟩:∃v,l[n]? = some v:=⟨_,afp (by omega)⟩;by_cases h0:v.toNat=0
   ·refine fw.l10 l n v n (by omega) (by unfold ay;omega) (by omega) (by omega) hv h0 (by omega) (by omega) ?_;have:=ih (l.take n) (by simp;omega) (by omega);rwa[trimmed hv h0 hl.symm] at this
   ·rw[uO ((nY (v:=v) (by rw[hl];exact hv)).2 h0) rfl];exact fw.cB l n v (by omega) (by unfold ay;omega) (by omega) (by omega) hv h0
 exact fw.e0 a (by simp;omega) (loop _ a rfl h)
theorem TI(a:Words)(h:a.length≤35184372088832):au bu 203 [.pv (af a)] [] (.row 0 0 (words (nat a)).length 1) [(0,ws (words (nat a)))]:=by
 have loop:∀(n:Nat) (l:Words),l.length=n→n≤35184372088832→eX.ah l [] (.row 0 0 (words (nat l)).length 1) [(0,ws (words (nat l)))]:=by
  intro n
  induction n with
  |zero =>intro l hl _;have:l=[]:=afr hl;subst this;exact eX.jT [] rfl rfl (by simp)
  |succ n ih =>
   intro l hl hb;obtain⟨v,hv⟩:∃v,l[n]? = some v:=⟨_,afp (by omega)⟩;by_cases h0:v.toNat=0
   ·refine eX.l10 l n v n rfl (by omega) (by unfold ay;omega) (by omega) (by omega) hv h0 (by omega) (by omega) ?_;have:=ih (l.take n) (by simp;omega) (by omega);rwa[trimmed hv h0 hl.symm] at this
   ·rw[uO ((nY (v:=v) (by rw[hl];exact hv)).2 h0) rfl];exact eX.cB l n v rfl rfl (by omega) (by unfold ay;omega) (by omega) (by omega) hv h0
 exact eX.e0 a (by simp;omega) (loop _ a rfl h)
theorem cut(a:Words)(h:a.length≤35184372088832):au bu 216 [.row 100000 0 a.length 1] [(100000,ws a)] (.row 100000 0 (words (nat a)).length 1) [(100000,ws (words (nat a)))]:=by
 have loop:∀n:Nat,n≤a.length→nat (a.take n)=nat a→fS.ah n a [(100000,ws a)] (.row 100000 0 (words (nat a)).length 1) [(100000,ws (words (nat a)))]:=by
  intro n
  induction n with
  |zero =>
   intro _ h2;have:nat a=0:=by rw[←h2];rfl
   rw[this,fW];have:=fS.jT 0 a (sin:=[(100000,ws a)]) rfl rfl (afy 0);exact this
  |succ n ih =>
   intro h1 h2;obtain⟨v,hv⟩:∃v,a[n]? = some v:=⟨_,afp (by omega)⟩;by_cases h0:v.toNat=0
   ·refine fS.l10 _ a n v n rfl (by omega) (by unfold ay;omega) (by omega) (by omega) hv h0 (by omega) (by omega) (ih (by omega) ?_);rw[bR hv,h0] at h2;omega
   ·have e:words (nat a)=a.take (n+1):=by
     refine uO ?_ h2;refine(nY (v:=v) ?_).2 h0;rw[afK,agx h1,ahU,agh,afI (by omega)];exact hv
    have:=fS.cB (n+1) a n v (sin:=[(100000,ws a)]) rfl rfl (by omega) (by unfold ay;omega) (by omega) (by omega) hv h0;rw[e,afK,agx h1];exact this
 exact fS.e0 a a.length (loop a.length (afy _) (aV (afy _)))
theorem form(neg:Bool)(m:Words)(h:m.length≤35184372088832):Cp 156 [vB neg,af m] (Sym.whole (bif neg then -(nat m:Int) else (nat m:Int))).pv:=by
 have ht:=trim m h;by_cases h0:nat m=0
 ·have:=lT.e0 neg m _ ht (by rw[h0,fW];rfl);rw[h0];cases neg<;>exact this
 ·have hl:(words (nat m)).length≠0:=by rw[Ne,dO];exact h0
  have:=lT.e1 neg m _ ht hl;cases neg with
  |false =>
   have e:decide ((nat m:Int)<0)=false:=by simp
   simp only[Sym.whole,cond_false,e,Int.natAbs_natCast];exact this
  |true =>
   have e:decide (-(nat m:Int)<0)=true:=by simp;omega
   simp only[Sym.whole,cond_true,e,Int.natAbs_neg,Int.natAbs_natCast];exact this
theorem at'(a:Words)(i:Nat):Cp 232 [af a,vI (i:Int)] (vU (wd a i)):=by
 unfold wd;cases h:a[i]? with
 |none =>have:=ahW.1 h;exact nK.e1 a i (by omega)
 |some v =>have:=(afs.1 h).1;exact nK.e0 a i i v (by omega) rfl h
theorem atR(a:Words)(i:Nat)(len:Nat)(hl:len=a.length):au bu 232 [.row 100000 0 len 1,.pv (vI (i:Int))] [(100000,ws a)] (.pv (vU (wd a i))) [(100000,ws a)]:=by
 subst hl;unfold wd;cases h:a[i]? with
 |none =>have:=ahW.1 h;exact mN.e1 a a.length i (by omega)
 |some v =>have:=(afs.1 h).1;exact mN.e0 a a.length i i v (by omega) rfl this h
def Alike(a b:Words)(n:Nat):Prop:=∀q,n≤q→wd a q=wd b q
theorem PY:∀(n:Nat) (a b:Words),a.length≤n→b.length≤n→(∀q,wd a q=wd b q)→nat a=nat b
 |0,a,b,ha,hb,_=>by have h1:a=[]:=afr (by omega);have h2:b=[]:=afr (by omega);rw[h1,h2]
 |n+1,a,b,ha,hb,h=>by
  have h1:=kq a 0;have h2:=kq b 0;have hw:∀(c:Words) (q:Nat),wd (c.drop 1) q=wd c (q+1):=fun c q=>by unfold wd;rw[agn,aiu]
  have:=PY n (a.drop 1) (b.drop 1) (by simp;omega) (by simp;omega) (fun q=>by rw[hw,hw];exact h (q+1));simp only[List.drop_zero,Nat.zero_add] at h1 h2;rw[h1,h2,this,h 0]
theorem DH{a b:Words}{n:Nat}(h:Alike a b n):nat (a.drop n)=nat (b.drop n):=by refine PY (max (a.drop n).length (b.drop n).length) _ _ (ahD _ _) (ahj _ _) (fun q => ?_);have:=h (n+q) (by omega);unfold wd at this ⊢;rw[agn,agn];exact this
theorem Mc(a:Words)(k:Nat):nat a=nat (a.take k)+4294967296^k*wd a k+4294967296^(k+1)*nat (a.drop (k+1)):=by
 by_cases h:k<a.length
 ·have hv:=afp h;rw[j8 hv];exact Ac a k hv
 ·rw[aV (by omega),yA (by omega),afV (by omega),show nat []=0 from rfl,aji,aji,aha]
theorem Ae{a b:Words}{k:Nat}(h:Alike a b (k+1))(dI:wd a k<wd b k):nat a<nat b:=by rw[Mc a k,Mc b k,DH h];have h1:=eQ (a.take k);have h2:=mV (show (a.take k).length≤k by simp;omega);have h3:4294967296^k*(wd a k+1)≤4294967296^k*wd b k:=afO _ dI;rw[afU] at h3;omega
theorem Af{a b:Words}{n:Nat}(ha:a.length≤n)(hb:b.length≤n):Alike a b n:=fun q hq=>by rw[yA (by omega),yA (by omega)]
theorem Ag{a b:Words}(h:Alike a b 0):nat a=nat b:=by have:=DH h;simpa using this
theorem xo{a b:Words}{n:Nat}(h:Alike a b (n+1))(he:wd a n=wd b n):Alike a b n:=fun q hq=>by
 by_cases Rq:q=n
 ·rw[Rq];exact he
 ·exact h q (by omega)
theorem compare(a b:Words)(ha:a.length<4611686018427387904)(hb:b.length<4611686018427387904):Cp 199 [af a,af b] (vI (ef (nat a) (nat b))):=by
 have loop:∀n:Nat,n<4611686018427387904→Alike a b n→dp.ah a b ((n:Int)-1) (vI (ef (nat a) (nat b))):=by
  intro n
  induction n with
  |zero =>intro _ hd;rw[BX (by rw[Ag hd])];exact dp.tN a b _ (by omega)
  |succ n ih =>
   intro hn hd;have e:((n+1:Nat):Int)-1=(n:Int):=by omega
   have h1:=at' a n;have h2:=at' b n;rw[e];by_cases he:wd a n=wd b n
   ·exact dp.jT a b _ _ _ (by omega) h1 h2 he (by unfold ay;omega) (ih (by omega) (xo hd he))
   ·by_cases dI:wd a n<wd b n
    ·rw[rA (by have:=Ae hd dI;omega)];exact dp.l10 a b _ _ _ _ _ (by omega) h1 h2 he h1 h2 dI
    ·rw[pd (by have:=Ae (a:=b) (b:=a) (fun q hq=>(hd q hq).symm) (show wd b n<wd a n by omega);omega)];exact dp.cB a b _ _ _ _ _ (by omega) h1 h2 he h1 h2 (by omega)
 exact dp.e0 a b (by unfold ay;omega) (loop _ (by omega) (Af (ahD _ _) (ahj _ _)))
theorem PZ(a b:Words)(len:Nat)(hl:len=a.length)(ha:a.length<4611686018427387904)(hb:b.length<4611686018427387904) :
  au bu 199 [.row 100000 0 len 1,.pv (af b)] [(100000,ws a)] (.pv (vI (ef (nat a) (nat b)))) [(100000,ws a)]:=by
 have loop:∀n:Nat,n<4611686018427387904→Alike a b n→cT.ah len b ((n:Int)-1) a [(100000,ws a)] (.pv (vI (ef (nat a) (nat b)))) [(100000,ws a)]:=by
  intro n
  induction n with
  |zero =>intro _ hd;rw[BX (by rw[Ag hd])];exact cT.tN len b _ a rfl rfl (by omega)
  |succ n ih =>
   intro hn hd;have e:((n+1:Nat):Int)-1=(n:Int):=by omega
   have h1:=atR a n len hl;have h2:=at' b n;rw[e];by_cases he:wd a n=wd b n
   ·exact cT.jT len b _ a a _ _ rfl (by omega) h1 h2 he (by unfold ay;omega) (ih (by omega) (xo hd he))
   ·by_cases dI:wd a n<wd b n
    ·rw[rA (by have:=Ae hd dI;omega)];exact cT.l10 len b _ a a _ _ a _ _ rfl rfl (by omega) h1 h2 he h1 h2 dI
    ·rw[pd (by have:=Ae (a:=b) (b:=a) (fun q hq=>(hd q hq).symm) (show wd b n<wd a n by omega);omega)];exact cT.cB len b _ a a _ _ a _ _ rfl rfl (by omega) h1 h2 he h1 h2 (by omega)
 exact cT.e0 a len b (by unfold ay;omega) (loop _ (by omega) (Af (by omega) (ahj _ _)))
theorem NI(a b:Words)(len lz:Nat)(hl:len=a.length)(HF:lz=b.length)(ha:a.length<4611686018427387904)(hb:b.length<4611686018427387904) :
  au bu 199 [.row 100000 0 len 1,.row 100001 0 lz 1] [(100000,ws a),(100001,ws b)] (.pv (vI (ef (nat a) (nat b)))) [(100000,ws a),(100001,ws b)]:=by
 have loop:∀n:Nat,n<4611686018427387904→Alike a b n→cO.ah len lz ((n:Int)-1) a b [(100000,ws a),(100001,ws b)] (.pv (vI (ef (nat a) (nat b)))) [(100000,ws a),(100001,ws b)]:=by
  intro n
  induction n with
  |zero =>intro _ hd;rw[BX (by rw[Ag hd])];exact cO.tN len lz _ a b rfl rfl (by omega)
  |succ n ih =>
   intro hn hd;have e:((n+1:Nat):Int)-1=(n:Int):=by omega
   have h1:=atR a n len hl;have h2:=atR b n lz HF;rw[e];by_cases he:wd a n=wd b n
   ·exact cO.jT len lz _ a b a _ b _ rfl (by omega) h1 h2 he (by unfold ay;omega) (ih (by omega) (xo hd he))
   ·by_cases dI:wd a n<wd b n
    ·rw[rA (by have:=Ae hd dI;omega)];exact cO.l10 len lz _ a b a _ b _ a _ b _ rfl rfl (by omega) h1 h2 he h1 h2 dI
    ·rw[pd (by have:=Ae (a:=b) (b:=a) (fun q hq=>(hd q hq).symm) (show wd b n<wd a n by omega);omega)];exact cO.cB len lz _ a b a _ b _ a _ b _ rfl rfl (by omega) h1 h2 he h1 h2 (by omega)
 exact cO.e0 a len b lz (by unfold ay;omega) (loop _ (by omega) (Af (by omega) (by omega)))
theorem IW(l:Words)(w:UInt32):nat (l++[w])=nat l+4294967296^l.length*w.toNat:=by rw[nP];simp[nat]
theorem plus(a b:Words)(ha:a.length≤2199023255552)(hb:b.length≤2199023255552):Cp 198 [af a,af b] (af (words (nat a+nat b))):=by
 have loop:∀(j t carry:Nat) (site:Words),max a.length b.length+1-t=j→t≤max a.length b.length+1→site.length=t→carry≤1 →
   nat site+4294967296^t*carry=nat (a.take t)+nat (b.take t)→gB.ah a b site carry t (af (words (nat a+nat b))):=by
  intro j
  induction j with
  |zero =>
   intro t carry site hj ht hs hc hinv;have yh:t=max a.length b.length+1:=by omega
   have KU:nat site=nat a+nat b:=by
    rw[aV (by omega),aV (by omega)] at hinv;have h1:=eQ a;have h2:=eQ b;have h3:=mV (show a.length≤t-1 by omega);have h4:=mV (show b.length≤t-1 by omega);have h5:(4294967296:Nat)^t=4294967296^(t-1)*4294967296:=by rw[←afM];congr 1;omega
    have Fy:carry=0:=by
     cases carry with
     |zero=>rfl
     |succ c =>have h6:4294967296^t*1≤4294967296^t*(c+1):=afO _ (by omega);omega
    subst Fy;simpa using hinv
   have:=gB.cB a b site carry t (words (nat site)) (by omega) (trim site (by omega));rwa[KU] at this
  |succ j ih =>
   intro t carry site hj ht hs hc hinv;have h1:=oq a t;have h2:=oq b t;obtain⟨w,hw⟩:=iR ((wd a t+wd b t+carry)%4294967296) (by omega);have PR:(2:Nat)^min 32 64=4294967296:=by decide
   refine gB.l10 a b site carry t _ _ (wd a t+wd b t) (wd a t+wd b t+carry) w ((wd a t+wd b t+carry)/4294967296) (by omega) (at' a t) (at' b t) (by omega) (by omega) hw.symm (by simp;omega) (by rw[PR]) (by omega) ?_;refine ih (t+1) _ (site++[w]) (by omega) (by omega) (by simpa using hs) (by omega) ?_;rw[IW,hs,ew a t,ew b t,hw,afM,afZ];have h6:4294967296^t*((wd a t+wd b t+carry)%4294967296)+4294967296^t*(4294967296*((wd a t+wd b t+carry)/4294967296))=4294967296^t*carry+4294967296^t*wd a t+4294967296^t*wd b t:=by
    rw[←afU,←afU,←afU]
    congr 1
    omega
   omega
 exact gB.e0 a b (by omega) (loop _ 0 0 _ rfl (by omega) rfl (by omega) (by simp[nat]))
theorem xp{p q borrow:Nat}(hp:p<4294967296)(hq:q<4294967296)(hb:borrow≤1) :
  ∃s d d1 x z nb:Nat,(4294967296+p)%18446744073709551616=s∧((s:Nat)-(q:Nat):Int)%18446744073709551616=(d:Int)∧((d:Nat)-(borrow:Nat):Int)%18446744073709551616=(d1:Int)∧d1%4294967296=x∧d1/2^min 32 64=z ∧
   ((1:Nat)-(z:Nat):Int)%18446744073709551616=(nb:Int)∧nb≤1∧x<4294967296∧x+q+borrow=p+4294967296*nb:=by
 have e:(2:Nat)^min 32 64=4294967296:=by decide
 rw[e];refine⟨4294967296+p,4294967296+p-q,4294967296+p-q-borrow,_,_,1-(4294967296+p-q-borrow)/4294967296,by omega,by omega,by omega,rfl,rfl,?_,?_,?_,?_⟩
 ·have h1:(4294967296+p-q-borrow)/4294967296≤1:=by omega
  generalize (4294967296+p-q-borrow)/4294967296=u at h1 ⊢;omega
 ·omega
 ·omega
 ·by_cases h:q+borrow≤p
  ·have h1:(4294967296+p-q-borrow)/4294967296=1:=by omega
   rw[h1];omega
  ·have h1:(4294967296+p-q-borrow)/4294967296=0:=by omega
   rw[h1];omega
theorem minus(a b:Words)(ha:a.length≤2199023255552)(fQ:nat b≤nat a):Cp 200 [af a,af b] (af (words (nat a-nat b))):=by
 have loop:∀(j t borrow:Nat) (site:Words),a.length-t=j→t≤a.length→site.length=t→borrow≤1 →
   nat site+nat (b.take t)=nat (a.take t)+4294967296^t*borrow→fZ.ah a b site borrow t (af (words (nat a-nat b))):=by
  intro j
  induction j with
  |zero =>
   intro t borrow site hj ht hs hc hinv;have yh:t=a.length:=by omega
   have KU:nat site=nat a-nat b:=by
    subst yh;rw[aV (l:=a) (by omega)] at hinv;have h1:=eQ a;have h2:=eQ site;rw[hs] at h2;have h3:nat (b.take a.length)=nat b:=by
     by_cases hl:b.length≤a.length
     ·exact aV hl
     ·have h4:=kJ b a.length (by omega);have h5:nat (b.drop a.length)=0:=by
       refine agJ fun hp => ?_
       have:=afO (4294967296^a.length) hp;omega
      rw[h5] at h4;omega
    have L7:borrow=0:=by
     refine agJ fun hp => ?_
     have:=afO (4294967296^a.length) hp;omega
    subst L7;omega
   have:=fZ.cB a b site borrow t (words (nat site)) (by omega) (trim site (by omega));rwa[KU] at this
  |succ j ih =>
   intro t borrow site hj ht hs hc hinv;obtain⟨s,d,d1,x,z,nb,g1,g2,g3,g4,g5,g6,g7,g8,g9⟩:=xp (oq a t) (oq b t) hc;obtain⟨w,hw⟩:=iR x g8;refine fZ.l10 a b site borrow t _ s _ d d1 w z nb (by omega) (at' a t) g1 (at' b t) g2 g3 (by omega) (by simp;omega) g5 g6 (by omega) ?_;refine ih (t+1) nb (site++[w]) (by omega) (by omega) (by simpa using hs) g7 ?_;rw[IW,hs,ew a t,ew b t,hw,afM,afZ];have h6:4294967296^t*x+4294967296^t*wd b t+4294967296^t*borrow=4294967296^t*wd a t+4294967296^t*(4294967296*nb):=by rw[←afU,←afU,←afU,g9]
   omega
 exact fZ.e0 a b (loop _ 0 0 _ rfl (by omega) rfl (by omega) (by simp[nat]))
theorem IX{a b U:Words}{borrow:Nat}(hl:U.length=a.length)(fQ:nat b≤nat a)(hinv:nat (U.take a.length)+nat (b.take a.length)=nat (a.take a.length)+4294967296^a.length*borrow):nat U=nat a-nat b:=by
 rw[aV (by omega),aV (l:=a) (by omega)] at hinv;have h1:=eQ a;have h2:=eQ U;rw[hl] at h2;have h3:nat (b.take a.length)=nat b:=by
  by_cases hl:b.length≤a.length
  ·exact aV hl
  ·have h4:=kJ b a.length (by omega);have h5:nat (b.drop a.length)=0:=by
    refine agJ fun hp => ?_
    have:=afO (4294967296^a.length) hp;omega
   rw[h5] at h4;omega
 have L7:borrow=0:=by
  refine agJ fun hp => ?_
  have:=afO (4294967296^a.length) hp;omega
 subst L7;omega
theorem FA{a b U:Words}{borrow nb t:Nat}{w:UInt32}(ht:t<a.length)(hl:U.length=a.length)(hinv:nat (U.take t)+nat (b.take t)=nat (a.take t)+4294967296^t*borrow)(h:w.toNat+wd b t+borrow=wd a t+4294967296*nb) :
  nat ((U.set t w).take (t+1))+nat (b.take (t+1))=nat (a.take (t+1))+4294967296^(t+1)*nb:=by
 rw[hZ (by omega),ew a t,ew b t,afM,afZ];have h6:4294967296^t*w.toNat+4294967296^t*wd b t+4294967296^t*borrow=4294967296^t*wd a t+4294967296^t*(4294967296*nb):=by rw[←afU,←afU,←afU,h]
 omega
theorem vA{l:Words}{t q:Nat}{w:UInt32}(h:q≠t):wd (l.set t w) q=wd l q:=by unfold wd;rw[agF (by omega)]
theorem take(a b:Words)(len:Nat)(hlen:len=a.length)(ha:a.length≤2199023255553)(fQ:nat b≤nat a) :
  ∃U:Words,U.length=a.length∧nat U=nat a-nat b∧au bu 215 [.row 100000 0 len 1,.pv (af b)] [(100000,ws a)] (.pv (.aF [])) [(100000,ws U)]:=by
 subst hlen;have loop:∀(j t borrow:Nat) (U:Words),a.length-t=j→t≤a.length→U.length=a.length→borrow≤1→(∀q,t≤q→wd U q=wd a q) →
   nat (U.take t)+nat (b.take t)=nat (a.take t)+4294967296^t*borrow →
   ∃V:Words,V.length=a.length∧nat V=nat a-nat b∧gC.ah a.length b borrow t U [(100000,ws a)] (.pv (.aF [])) [(100000,ws V)]:=by
  intro j
  induction j with
  |zero =>
   intro t borrow U hj ht hl hb gW hinv;have yh:t=a.length:=by omega
   subst yh;exact⟨U,hl,IX hl fQ hinv,gC.cB _ b borrow _ U (sin:=[(100000,ws a)]) rfl rfl (afy _)⟩
  |succ j ih =>intro t borrow U hj ht hl hb gW hinv;obtain⟨s,d,d1,x,z,nb,g1,g2,g3,g4,g5,g6,g7,g8,g9⟩:=xp (oq a t) (oq b t) hb;obtain⟨w,hw⟩:=iR x g8;obtain⟨V,h1,h2,h3⟩:=ih (t+1) nb (U.set t w) (by omega) (by omega) (by simpa using hl) g7 (fun q hq=>by rw[vA (by omega)];exact gW q (by omega)) (FA (by omega) hl hinv (by rw[hw];exact g9));refine⟨V,h1,h2,gC.l10 _ b borrow t U U _ s _ d d1 w z nb rfl (by omega) (atR U t a.length hl.symm) (by rw[gW t (afy t)];exact g1) (at' b t) g2 g3 (by omega) g5 g6 (by omega) (by omega) h3⟩
 obtain⟨V,h1,h2,h3⟩:=loop _ 0 0 a rfl (by omega) rfl (by omega) (fun _ _=>rfl) (by simp[nat]);exact⟨V,h1,h2,gC.e0 a a.length b h3⟩
theorem XM(a b:Words)(len lz:Nat)(hlen:len=a.length)(XN:lz=b.length)(ha:a.length≤2199023255553)(fQ:nat b≤nat a) :
  ∃U:Words,U.length=a.length∧nat U=nat a-nat b∧au bu 215 [.row 100000 0 len 1,.row 100001 0 lz 1] [(100000,ws a),(100001,ws b)] (.pv (.aF [])) [(100000,ws U),(100001,ws b)]:=by
 subst hlen;have loop:∀(j t borrow:Nat) (U:Words),a.length-t=j→t≤a.length→U.length=a.length→borrow≤1→(∀q,t≤q→wd U q=wd a q) →
   nat (U.take t)+nat (b.take t)=nat (a.take t)+4294967296^t*borrow →
   ∃V:Words,V.length=a.length∧nat V=nat a-nat b∧gb.ah a.length lz borrow t U b [(100000,ws a),(100001,ws b)] (.pv (.aF [])) [(100000,ws V),(100001,ws b)]:=by
  intro j
  induction j with
  |zero =>
   intro t borrow U hj ht hl hb gW hinv;have yh:t=a.length:=by omega
   subst yh;exact⟨U,hl,IX hl fQ hinv,gb.cB _ _ borrow _ U b (sin:=[(100000,ws a),(100001,ws b)]) rfl rfl (afy _)⟩
  |succ j ih =>intro t borrow U hj ht hl hb gW hinv;obtain⟨s,d,d1,x,z,nb,g1,g2,g3,g4,g5,g6,g7,g8,g9⟩:=xp (oq a t) (oq b t) hb;obtain⟨w,hw⟩:=iR x g8;obtain⟨V,h1,h2,h3⟩:=ih (t+1) nb (U.set t w) (by omega) (by omega) (by simpa using hl) g7 (fun q hq=>by rw[vA (by omega)];exact gW q (by omega)) (FA (by omega) hl hinv (by rw[hw];exact g9));refine⟨V,h1,h2,gb.l10 _ _ borrow t U b U _ s b _ d d1 w z nb rfl (by omega) (atR U t a.length hl.symm) (by rw[gW t (afy t)];exact g1) (atR b t lz XN) g2 g3 (by omega) g5 g6 (by omega) (by omega) h3⟩
 obtain⟨V,h1,h2,h3⟩:=loop _ 0 0 a rfl (by omega) rfl (by omega) (fun _ _=>rfl) (by simp[nat]);exact⟨V,h1,h2,gb.e0 a a.length b lz h3⟩
theorem NJ{x y:Nat}(hx:x<4294967296)(hy:y<4294967296):((x/2)%18446744073709551616) ||| ((y*2^min 31 64)%18446744073709551616%18446744073709551616)=(y*4294967296+x)/2:=by
 have e:(2:Nat)^min 31 64=2147483648:=by decide
 rw[e,aiU,ag1 (show x/2<18446744073709551616 by omega),ag1 (show y*2147483648<18446744073709551616 by omega),Nat.or_comm,agr y];have:=ahr (i:=31) (show x/2<2^31 by omega) y;rw[show (2:Nat)^31=2147483648 from rfl] at this;rw[←this];omega
theorem NK{a U:Words}{t:Nat}{w:UInt32}(ht:t<a.length)(hl:U.length=a.length)(hinv:nat (U.take t)=(nat a/2)%4294967296^t)(hw:w.toNat=(wd a (t+1)*4294967296+wd a t)/2%4294967296) :
  nat ((U.set t w).take (t+1))=(nat a/2)%4294967296^(t+1):=by
 rw[hZ (by omega),hinv,hw];have g1:nat a/2/4294967296^t=nat (a.drop t)/2:=by rw[ahw,agr,←ahw,uQ a t (by omega)]
 have g2:nat (a.drop t)/2%4294967296=(wd a (t+1)*4294967296+wd a t)/2%4294967296:=by rw[kq a t,kq a (t+1)];generalize nat (a.drop (t+1+1))=r;generalize wd a (t+1)=y;generalize wd a t=x;omega
 have g3:=Nat.mod_mul (a:=4294967296^t) (b:=4294967296) (x:=nat a/2);rw[afM,g3,g1,g2]
theorem Md(a:Words)(len:Nat)(hlen:len=a.length)(ha:a.length≤2199023255553) :
  au bu 214 [.row 100000 0 len 1] [(100000,ws a)] (.row 100000 0 (words (nat a/2)).length 1) [(100000,ws (words (nat a/2)))]:=by
 subst hlen;have e1:(2:Nat)^min 1 64=2:=by decide
 have loop:∀(j t:Nat) (U:Words),a.length-t=j→t≤a.length→U.length=a.length→(∀q,t≤q→wd U q=wd a q)→nat (U.take t)=(nat a/2)%4294967296^t →
   ga.ah a.length t U [(100000,ws a)] (.row 100000 0 (words (nat a/2)).length 1) [(100000,ws (words (nat a/2)))]:=by
  intro j
  induction j with
  |zero =>
   intro t U hj ht hl gW hinv;have yh:t=a.length:=by omega
   subst yh;rw[aV (by omega),ag1 (ah5 (agP _ _) (eQ a))] at hinv;have hc:=cut U (by omega);rw[hinv,hl] at hc;have:=ga.cB a.length a.length U (words (nat a/2)) (words (nat a/2)).length (sin:=[(100000,ws a)]) rfl rfl (afy _) hc;rw[afD (afy _)] at this;exact this
  |succ j ih =>intro t U hj ht hl gW hinv;have h1:=oq a t;have h2:=oq a (t+1);obtain⟨w,hw⟩:=iR ((wd a (t+1)*4294967296+wd a t)/2%4294967296) (ahd _ (by omega));have hA:=atR U t a.length hl.symm;have hB:=atR U (t+1) a.length hl.symm;rw[gW t (afy t)] at hA;rw[gW (t+1) (by omega)] at hB;refine ga.l10 a.length t U U _ _ U _ _ ((wd a (t+1)*4294967296+wd a t)/2) w rfl (by omega) hA (by rw[e1]) (by omega) hB rfl (NJ h1 h2) hw.symm (by omega) ?_;exact ih (t+1) (U.set t w) (by omega) (by omega) (by simpa using hl) (fun q hq=>by rw[vA (by omega)];exact gW q (by omega)) (NK (by omega) hl hinv hw)
 exact ga.e0 a a.length (loop _ 0 a rfl (by omega) rfl (fun _ _=>rfl) (by simp[nat,Nat.mod_one]))
end wI
namespace wI
open cV
theorem times(a b:Words)(ha:a.length≤2199023255552)(hb:b.length≤2199023255552):Cp 201 [af a,af b] (af (words (nat a*nat b))):=by
 have inner:∀(i:Nat) (v:UInt32) (r:PV),a[i]? = some v→i<a.length→(∀site:Words,site.length=a.length+b.length→nat site=nat (a.take i)*nat b+4294967296^i*(v.toNat*nat b)→(∀q,i+1+b.length≤q→q<site.length→wd site q=0)→cM.ah a b (i+1) site r) →
   ∀(j k carry:Nat) (site:Words),b.length-k=j→k≤b.length→site.length=a.length+b.length→carry<4294967296→(∀q,i+b.length≤q→q<site.length→wd site q=0) →
   nat site+4294967296^(i+k)*carry=nat (a.take i)*nat b+4294967296^i*(v.toNat*nat (b.take k))→cM.a8 a b i carry i k site r:=by
  intro i v r hv hi Km j
  induction j with
  |zero =>
   intro k carry site hj hk hs hc hz hinv;have hke:k=b.length:=by omega
   subst hke;obtain⟨w,hw⟩:=iR carry hc;refine cM.xe a b i carry i b.length site w (by omega) (by omega) (by omega) (by omega) (by omega) (by omega) (Km _ (by simpa using hs) ?_ ?_)
   ·obtain⟨u,hu⟩:∃u,site[i+b.length]? = some u:=⟨_,afp (by omega)⟩;have h0:=hz (i+b.length) (by omega) (by omega);rw[j8 hu] at h0;have h1:=rz site (i+b.length) w u hu;rw[h0,hw] at h1;rw[aV (l:=b) (by omega)] at hinv;omega
   ·intro q WE En;rw[ai1] at En;have:=hz q (by omega) En;unfold wd at this ⊢;rw[agF (by omega)];exact this
  |succ j ih =>
   intro k carry site hj hk hs hc hz hinv;obtain⟨u,hu⟩:∃u,b[k]? = some u:=⟨_,afp (by omega)⟩;obtain⟨x,hx⟩:∃x,site[i+k]? = some x:=⟨_,afp (by omega)⟩;have h1:=yB (jK v) (jK u);have h2:=jK x;generalize hp:v.toNat*u.toNat=p at *;obtain⟨w,hw⟩:=iR ((carry+(p+x.toNat))%4294967296) (by omega);have e:(2:Nat)^min 32 64=4294967296:=by decide
   refine cM.uF a b i carry i k site v u p x (p+x.toNat) (carry+(p+x.toNat)) w ((carry+(p+x.toNat))/4294967296) (by omega) hv hu (by rw[hp];omega) (by omega) (by omega) hx (by omega) (by omega) hw.symm (by rw[e]) (by omega) (by omega) ?_;refine ih (k+1) _ (site.set (i+k) w) (by omega) (by omega) (by simpa using hs) (by omega) ?_ ?_
   ·intro q WE En;rw[ai1] at En;have:=hz q WE En;unfold wd at this ⊢;rw[agF (by omega)];exact this
   ·have g1:=rz site (i+k) w x hx;rw[hw] at g1;rw[bR hu,show i+(k+1)=i+k+1 from rfl,afM,afZ];have g2:4294967296^(i+k)*((carry+(p+x.toNat))%4294967296)+4294967296^(i+k)*(4294967296*((carry+(p+x.toNat))/4294967296))=4294967296^(i+k)*carry+4294967296^(i+k)*p+4294967296^(i+k)*x.toNat:=by
     rw[←afU,←afU,←afU];congr 1;omega
    have g3:4294967296^i*(v.toNat*(nat (b.take k)+4294967296^k*u.toNat))=4294967296^i*(v.toNat*nat (b.take k))+4294967296^(i+k)*p:=by
     rw[←hp,ahq,afU,afU]
     congr 1
     rw[afZ];congr 1;rw[aim]
    omega
 have loop:∀(j t:Nat) (site:Words),a.length-t=j→t≤a.length→site.length=a.length+b.length→nat site=nat (a.take t)*nat b→(∀q,t+b.length≤q→q<site.length→wd site q=0) →
   cM.ah a b t site (af (words (nat a*nat b))):=by
  intro j
  induction j with
  |zero =>intro t site hj ht hs hinv _;rw[aV (by omega)] at hinv;have:=cM.cB a b t site (words (nat site)) (by omega) (by omega) (trim site (by omega));rwa[hinv] at this
  |succ j ih =>
   intro t site hj ht hs hinv hz;obtain⟨v,hv⟩:∃v,a[t]? = some v:=⟨_,afp (by omega)⟩;refine cM.l10 a b t site (by omega) ?_;refine inner t v _ hv (by omega) (fun PK OD Xa Rm => ?_) _ 0 0 site rfl (by omega) hs (by omega) hz ?_
   ·refine ih (t+1) PK (by omega) (by omega) OD ?_ Rm;rw[Xa,bR hv,age,afZ]
   ·simp[nat,hinv]
 refine cM.e0 a b (by omega) (by omega) (loop _ 0 _ rfl (by omega) (by simp) (by simp[nat,nQ]) ?_);intro q _ hq;unfold wd;rw[agL];split
 ·rename_i w h;split at h
  ·injection h with h;subst h;rfl
  ·cases h
 ·rfl
theorem FB(k:Nat):(4294967296:Nat)^k=2^(32*k):=by rw[ajq]
theorem VD{l:Words}{k:Nat}(h:l.length=k+1):nat l=nat (l.take k)+4294967296^k*wd l k:=by have:=ew l k;rwa[aV (by omega)] at this
theorem bits(a:Words)(hc:cn a=true)(ha:a.length≤2199023255553):Cp 233 [af a] (vI (blen (nat a))):=by
 by_cases h0:a.length=0
 ·have:a=[]:=afr h0;subst this;exact eg.e0 [] rfl
 ·have loop:∀(j:Nat) (n:Int) (x:UInt32),x.toNat≤j→ay (n+j)→ay n→eg.ah n x (vI (n+blen x.toNat)):=by
   intro j
   induction j with
   |zero =>
    intro n x hx _ _;have e:x.toNat=0:=by omega
    rw[e,vx];have:=eg.cB n x (by omega);rwa[show n+((0:Nat):Int)=n from by omega]
   |succ j ih =>
    intro n x hx hn VE;by_cases h:x.toNat=0
    ·rw[h,vx];have:=eg.cB n x (by omega);rwa[show n+((0:Nat):Int)=n from by omega]
    ·obtain⟨z,hz⟩:=iR (x.toNat/2) (by have:=jK x;omega);have e:blen x.toNat=1+blen (x.toNat/2):=by
      have:=uP (n:=x.toNat) (k:=1);by_cases h1:x.toNat=1
      ·rw[h1];rfl
      ·exact this (by omega)
     unfold ay at hn VE;have:=ih (n+1) z (by omega) (by unfold ay;omega) (by unfold ay;omega);rw[hz] at this;rw[e,show n+((1+blen (x.toNat/2):Nat):Int)=n+1+(blen (x.toNat/2):Nat) from by omega];exact eg.l10 n x z (by omega) (by unfold ay;omega) (by rw[hz];rfl) this
  obtain⟨k,hk⟩:∃k,a.length=k+1:=⟨a.length-1,by omega⟩;obtain⟨v,hv⟩:∃v,a[k]? = some v:=⟨_,afp (by omega)⟩;have h1:=(nY (v:=v) (by rw[hk];exact hv)).1 hc;have h2:=eQ (a.take k);rw[afK,agx (by omega)] at h2;have h3:=VD hk;rw[j8 hv] at h3;have e:blen (nat a)=32*k+blen v.toNat:=by
   rw[FB] at h2 h3;have h4:2^(32*k)≤nat a:=by have:=afO (2^(32*k)) (show 1≤v.toNat by omega);omega
   rw[uP h4]
   congr 2
   rw[h3,Nat.add_mul_div_left _ _ (agm _),ahG h2,agl]
  have hw:=jK v;have:=loop v.toNat (32*((a.length:Int)-1)) v (afy _) (by unfold ay;omega) (by unfold ay;omega);rw[e,show((32*k+blen v.toNat:Nat):Int)=32*((a.length:Int)-1)+(blen v.toNat:Nat) from by omega];exact eg.e1 a k v h0 (by unfold ay;omega) (by unfold ay;omega) (by omega) hv this
theorem P0{v c:Nat}(hv:v<4294967296)(hc:c≤1):((v*2^(min 1 32))%4294967296%4294967296) ||| (c%4294967296)=(2*v)%4294967296+c:=by
 have e:(2:Nat)^min 1 32=2:=by decide
 rw[e,aiU,ag1 (show c<4294967296 by omega)];obtain⟨u,hu⟩:∃u,(v*2)%4294967296=2*u:=⟨(v*2)%4294967296/2,by omega⟩;rw[hu];have:=ahr (i:=1) (show c<2^1 by omega) u;rw[show (2:Nat)^1=2 from rfl] at this;rw[←this];omega
theorem VF{v s:Nat}(hs:s<32)(hv:v%2^(s+1)=0)(hl:v<4294967296):(v%4294967296) ||| (((1*2^(min (s%32) 32))%4294967296)%4294967296)=v+2^s:=by
 have h1:2^s<4294967296:=by have:=ahv (a:=2) (by omega) hs;omega
 rw[ag1 hs,agx (by omega),agV,aiU,ag1 hl,ag1 h1];have h2:v=2^(s+1)*(v/2^(s+1)):=by have:=ahe v (2^(s+1));omega
 have h3:=ahr (i:=s+1) (show 2^s<2^(s+1) by rw[afM];have:=agm s;omega) (v/2^(s+1));rw[←h2] at h3;exact h3.symm
theorem P1(a:Words)(t:Nat)(ht:t≤a.length):wd a t=nat a/4294967296^t%4294967296:=by rw[uQ a t ht,kq a t];have:=oq a t;omega
theorem VG(a:Words)(t s Q:Nat)(hs:s<32)(ht:t≤a.length)(h:nat a=Q*2^(32*t+s+1)):wd a t%2^(s+1)=0:=by
 rw[P1 a t ht,h,FB,show 32*t+s+1=(s+1)+32*t from by omega,ahq,←afZ,Nat.mul_div_cancel _ (agm _)];have:(4294967296:Nat)=2^(s+1)*2^(32-(s+1)):=by rw[←ahq,show s+1+(32-(s+1))=32 from by omega]
 rw[this,Nat.mod_mul_right_mod,Nat.mul_mod_left]
theorem VH(a:Words)(k:Nat)(hk:k/32≤a.length):wd a (k/32)/2^(k%32)%2=nat a/2^k%2:=by
 rw[P1 a _ hk,FB];have e:(4294967296:Nat)=2^(k%32)*2^(32-k%32):=by rw[←ahq,show k%32+(32-k%32)=32 from by omega]
 have e2:(2:Nat)^(32-k%32)=2*2^(31-k%32):=by rw[show 32-k%32=(31-k%32)+1 from by omega,afM,agr]
 rw[e,Nat.mod_mul_right_div_self,e2,Nat.mod_mul_right_mod,ahw,←ahq,ahe]
theorem dbl(a b:Words)(hb:b.length≤2199023255552):∀(i:Int) (q R:Words) (bit:Nat) (r:PV),R.length=b.length+1→nat R<nat b→bit≤1 →
  (∀(c:UInt32) (t:Nat) (U:Words),b.length+1≤t→U.length=b.length+1→nat U=2*nat R+bit→cd.a8 a b i c t q U r) →
  ∀(j t:Nat) (c:UInt32) (U:Words),b.length+1-t=j→t≤b.length+1→U.length=b.length+1→c.toNat≤1→(∀p,t≤p→wd U p=wd R p) →
  nat (U.take t)+4294967296^t*c.toNat=2*nat (R.take t)+bit→cd.a8 a b i c t q U r:=by
 have ae9:=eQ b;have TJ:2*nat b<4294967296^(b.length+1):=by rw[afM];omega
 intro i q R bit r hR hRb VI Km j
 induction j with
 |zero =>
  intro t c U hj ht hU hc gW hinv;have yh:t=b.length+1:=by omega
  rw[←yh] at TJ;refine Km c _ U (by omega) hU ?_;rw[aV (by omega),aV (by omega)] at hinv;clear yh;generalize 4294967296^t=P at hinv TJ;have:c.toNat=0:=by
   refine agJ fun hp => ?_
   have:=afO P (show 1≤c.toNat from hp);omega
  rw[this] at hinv;omega
 |succ j ih =>
  intro t c U hj ht hU hc gW hinv;obtain⟨v,hv⟩:∃v,U[t]? = some v:=⟨_,afp (by omega)⟩;have Ep:=gW t (afy t);rw[j8 hv] at Ep;have Cz:=jK v;obtain⟨z,hz⟩:=iR ((v.toNat*2^(min 1 32))%4294967296) (ahd _ (by omega));obtain⟨z1,IS⟩:=iR ((2*v.toNat)%4294967296+c.toNat) (by omega);obtain⟨z2,Um⟩:=iR (v.toNat/2147483648) (by omega);have e31:(2:Nat)^min 31 32=2147483648:=by decide
  refine cd.uF a b i c t q U v z z1 z2 (by omega) hv hz.symm (by rw[hz,IS];exact P0 Cz hc) (by rw[e31,Um]) (by omega) (by omega) ?_;refine ih (t+1) z2 (U.set t z1) (by omega) (by omega) (by simpa using hU) (by omega) (fun p hp=>by rw[vA (by omega)];exact gW p (by omega)) ?_;rw[hZ (by omega),ew R t,←Ep,IS,Um,afM,afZ];have h6:4294967296^t*((2*v.toNat)%4294967296+c.toNat)+4294967296^t*(4294967296*(v.toNat/2147483648))=4294967296^t*c.toNat+2*(4294967296^t*v.toNat):=by
   rw[aim 2,←afU,←afU]
   congr 1
   omega
  omega
theorem mW(a b:Words)(TF:cn a=true)(L7:0<nat b)(ha:a.length≤2199023255552)(hb:b.length≤2199023255552) :
  Cp 202 [af a,af b] (.aF [af (words (nat a/nat b)),af (words (nat a%nat b))]):=by
 have loop:∀(n Q:Nat) (q R:Words),q.length=a.length→R.length=b.length+1→n≤blen (nat a)→n≤32*a.length→nat a/2^n=Q*nat b+nat R→nat R<nat b→nat q=Q*2^n →
   cd.ah a b ((n:Int)-1) q R (.aF [af (words (nat a/nat b)),af (words (nat a%nat b))]):=by
  intro n
  induction n with
  |zero =>
   intro Q q R hq hR _ _ hdiv dI Rq;have h1:=trim q (by omega);have h2:=trim R (by omega);rw[aiv,Nat.div_one] at hdiv;rw[aiv,ahF] at Rq;have e1:nat a/nat b=nat q:=by rw[Rq,hdiv,aiu,Nat.add_mul_div_right _ _ L7,ahG dI,agl]
   have e2:nat a%nat b=nat R:=by rw[hdiv,aiu,Nat.add_mul_mod_self_right,ag1 dI]
   rw[e1,e2];exact cd.cB a b _ q R _ _ (by omega) (by omega) (by omega) h1 h2
  |succ n ih =>
   intro Q q R hq hR hn Oe hdiv dI Rq;have Nn:n/32<a.length:=by omega
   obtain⟨v,hv⟩:∃v,a[n/32]? = some v:=⟨_,afp Nn⟩;have Cz:=jK v;have hs:n%32<32:=ahd _ (by omega);obtain⟨z,hz⟩:=iR (v.toNat/2^(n%32)) (ah5 (agP _ _) Cz);obtain⟨z1,IS⟩:=iR (nat a/2^n%2) (by omega);have VI:=VH a n (by omega);rw[j8 hv] at VI;rw[show ((n+1:Nat):Int)-1=(n:Int) from by omega];refine cd.l10 a b (n:Int) q R n v n z z1 (by omega) rfl (by omega) hv rfl (by rw[agx (by omega),hz]) ?_ ?_
   ·rw[show (1:Nat)%4294967296=1 from rfl,Nat.and_one_is_mod,IS,←VI,hz];have:=ah5 (agP v.toNat (2^(n%32))) Cz;omega
   ·have LV:nat a/2^n=2*(nat a/2^(n+1))+nat a/2^n%2:=by
     rw[afM,←ahw];omega
    have tS:nat a/2^n%2≤1:=by omega
    generalize hbv:nat a/2^n%2=bit at *;refine dbl a b hb (n:Int) q R bit _ hR dI tS ?_ _ 0 z1 R rfl (by omega) hR (by omega) (fun _ _=>rfl) (by simp[nat];exact IS);intro c t U ht hU hUn;have yD:=PZ U b (b.length+1) hU.symm (by omega) (by omega);by_cases EC:nat b≤nat U
    ·obtain⟨V,hV1,hV2,hV3⟩:=take U b (b.length+1) hU.symm (by omega) EC;obtain⟨u,hu⟩:∃u,q[n/32]? = some u:=⟨_,afp (by omega)⟩;have zF:=jK u;have yC:=VG q (n/32) (n%32) Q hs (by omega) (by rw[Rq,show 32*(n/32)+n%32+1=n+1 from by omega]);rw[j8 hu] at yC;have h2s:2^(n%32)<4294967296:=by
      have:=ahv (a:=2) (by omega) hs;omega
     obtain⟨z2,Um⟩:=iR ((1*2^(min (n%32) 32))%4294967296) (ahd _ (by omega));have WG:=VF hs yC zF;rw[ag1 hs] at WG;have hbound:u.toNat+2^(n%32)<4294967296:=by rw[←WG];exact Nat.or_lt_two_pow (n:=32) (ahd _ (by omega)) (ahd _ (by omega))
     obtain⟨z3,hz3⟩:=iR _ hbound;refine cd.xe a b (n:Int) c t q U U _ V n u n z2 z3 ht yD (by unfold ef;split<;>(try split)<;>omega) hV3 rfl (by omega) Nn hu rfl Um.symm (by rw[Um,hz3];exact WG) (by omega) (by unfold ay;omega) ?_;refine ih (2*Q+1) (q.set (n/32) z3) V (by simpa using hq) (by omega) (by omega) (by omega) ?_ ?_ ?_
     ·rw[LV,hdiv,hV2,hUn,age,afU,afZ];omega
     ·omega
     ·have g:=rz q (n/32) z3 u hu;rw[hz3,afU,Rq,FB,←ahq,show 32*(n/32)+n%32=n from by omega] at g;rw[afM] at g;have:(2*Q+1)*2^n=Q*(2^n*2)+2^n:=by rw[age,agV,agr 2 Q,afZ,agr 2 (2^n)]
      omega
    ·refine cd.Py a b (n:Int) c t q U U _ ht yD (by unfold ef;split<;>(try split)<;>omega) (by unfold ay;omega) ?_;refine ih (2*Q) q U hq hU (by omega) (by omega) ?_ (by omega) ?_
     ·rw[LV,hdiv,hUn,afU,afZ];omega
     ·rw[Rq,afM,agr 2 Q,afZ,agr 2 (2^n)]
 have XO:=bits a TF (by omega);have Fv:blen (nat a)≤32*a.length:=tq (by rw[←FB];exact eQ a);refine cd.e0 a b _ (by omega) (by omega) (by omega) XO (by unfold ay;omega) ?_;refine loop (blen (nat a)) 0 _ _ (by simp) (by simp) (afy _) Fv ?_ ?_ ?_
 ·rw[nQ,ahG (Si _)];simp
 ·rw[nQ];exact L7
 ·rw[nQ];simp
theorem yF{p:Nat}(hp:0<p):∃v z:UInt32,0<(words p).length∧(words p)[0]? = some v∧(v.toNat%4294967296) &&& (1%4294967296)=z.toNat∧z.toNat=p%2:=by have hl:0<(words p).length:=aj2 (by rw[Ne,dO];omega);obtain⟨v,hv⟩:∃v,(words p)[0]? = some v:=⟨_,afp hl⟩;obtain⟨z,hz⟩:=iR (p%2) (by omega);refine⟨v,z,hl,hv,?_,hz⟩;have h:=P1 (words p) 0 (by omega);rw[j8 hv,aH,aiv,Nat.div_one] at h;rw[show (1:Nat)%4294967296=1 from rfl,Nat.and_one_is_mod,hz,h];omega
theorem IY{p q:Nat}(hp:p%2=0)(hq:q%2=1):Nat.gcd (p/2) q=Nat.gcd p q:=by
 have hc:Nat.Coprime 2 q:=by unfold Nat.Coprime;rw[Nat.gcd_rec,hq];rfl
 have:=Nat.Coprime.gcd_mul_left_cancel (p/2) hc;rw[←this]
 congr 1
 omega
theorem yG{p q k:Nat}(hq:0<q)(h:(words q).length≤k):(words (Nat.gcd p q)).length≤k:=afJ (eu (Nat.le_of_dvd hq (Nat.gcd_dvd_right p q))) h
theorem GZ(p:Nat)(hp:(words p).length≤2199023255553):au bu 214 [.row 100000 0 (words p).length 1] [(100000,ws (words p))] (.row 100000 0 (words (p/2)).length 1) [(100000,ws (words (p/2)))]:=by have:=Md (words p) _ rfl hp;rwa[aH] at this
theorem TL(p q:Nat)(hp:(words p).length≤2199023255553)(RZ:q≤p):∃U:Words,U.length=(words p).length ∧
  au bu 215 [.row 100000 0 (words p).length 1,.row 100001 0 (words q).length 1] [(100000,ws (words p)),(100001,ws (words q))] (.pv (.aF [])) [(100000,ws U),(100001,ws (words q))] ∧
  au bu 216 [.row 100000 0 (words p).length 1] [(100000,ws U)] (.row 100000 0 (words (p-q)).length 1) [(100000,ws (words (p-q)))]:=by
 obtain⟨U,h1,h2,h3⟩:=XM (words p) (words q) _ _ rfl rfl hp (by rw[aH,aH];exact RZ);have hc:=cut U (by omega);rw[aH,aH] at h2;rw[h2,h1] at hc;exact⟨U,h1,h3,hc⟩
theorem gcd(a b:Words)(ha:a.length≤1099511627776)(hb:b.length≤1099511627776):Cp 169 [af a,af b] (af (words (Nat.gcd (nat a) (nat b)))):=by
 have t1:=TI a (by omega);have t2:=TI b (by omega);have la:=DE a;have lb:=DE b;generalize nat a=A at *;generalize nat b=B at *;by_cases hA:A=0
 ·subst hA;rw[Nat.gcd_zero_left];exact a7.e0 a b _ _ _ _ t1 t2 (by rw[fW];rfl) rfl
 by_cases hB:B=0
 ·subst hB;rw[aie];exact a7.e1 a b _ _ _ _ t1 t2 (by rw[Ne,dO];exact hA) (by rw[fW];rfl) rfl
 refine a7.e2 a b _ _ _ _ t1 t2 (by rw[Ne,dO];exact hA) (by rw[Ne,dO];exact hB) ?_;have fin:∀(j m t64 t65:Nat),t64-t65=j→t64<9223372036854775808→(words (m*2^j)).length≤1099511627776→a7.uG (words m) t64 t65 (af (words (m*2^j))):=by
  intro j
  induction j with
  |zero =>intro m t64 t65 hj _ _;rw[aiv,ahF];exact a7.l41 _ _ _ (by omega)
  |succ j ih =>
   intro m t64 t65 hj ht hl;have e:m*2^(j+1)=(m+m)*2^j:=by rw[afM,age,←afZ];omega
   have hm:(words m).length≤1099511627776:=by refine afJ (eu ?_) hl;have:=afO m (agm (j+1));omega
   have hp:=plus (words m) (words m) (by omega) (by omega);rw[aH] at hp;rw[e] at hl ⊢;exact a7.l40 _ _ _ _ (by omega) hp (by omega) (ih (m+m) t64 (t65+1) (by omega) ht hl)
 have rounds:∀(s p q tw:Nat),p+q≤s→0<q→(words p).length≤1099511627776→(words q).length≤1099511627776→tw<9223372036854775808→(words (Nat.gcd p q*2^tw)).length≤1099511627776 →
   ((p%2=1∨q%2=1)→a7.a8 (words p).length (words q).length tw (words p) (words q) (af (words (Nat.gcd p q*2^tw)))) ∧
   (0<p→(p%2=1∨q%2=1)→a7.j5 (words p).length (words q).length tw (words p) (words q) (af (words (Nat.gcd p q*2^tw)))) ∧
   (p%2=1→a7.Dw (words p).length (words q).length tw (words p) (words q) (af (words (Nat.gcd p q*2^tw)))):=by
  intro s
  induction s with
  |zero=>intro p q tw h1 h2;omega
  |succ s ih =>
   intro p q tw hs hq lp lq VJ hl;have L5:p%2=1→a7.Dw (words p).length (words q).length tw (words p) (words q) (af (words (Nat.gcd p q*2^tw))):=by
    intro hp;obtain⟨v,z,g1,g2,g3,g4⟩:=yF hq;by_cases he:q%2=0
    ·have hg:=IY (p:=q) (q:=p) he hp;have:=(ih p (q/2) tw (by omega) (by omega) lp (afJ (eu (agP q 2)) lq) VJ (by rw[aij,hg,aij];exact hl)).2.2 hp;rw[aij,hg,aij] at this;exact a7.l50 _ _ tw _ _ v z _ _ g1 g2 g3 (by omega) (GZ q (by omega)) this
    ·have hc:=NI (words p) (words q) _ _ rfl rfl (by omega) (by omega);rw[aH,aH] at hc;by_cases dI:p<q
     ·obtain⟨U,u1,u2,u3⟩:=TL q p (by omega) (by omega);have hg:Nat.gcd (q-p) p=Nat.gcd p q:=by rw[Nat.gcd_sub_self_left (by omega),aij]
      have:=(ih (q-p) p tw (by omega) (by omega) (afJ (eu (Nat.sub_le q p)) lq) lp VJ (by rw[hg];exact hl)).1 (by omega);rw[hg] at this;exact a7.l51 _ _ tw _ _ v z _ _ _ U _ _ _ g1 g2 g3 (by omega) hc (by unfold ef;split<;>(try split)<;>omega) u2 u3 this
     ·obtain⟨U,u1,u2,u3⟩:=TL p q (by omega) (by omega);have hg:Nat.gcd (p-q) q=Nat.gcd p q:=Nat.gcd_sub_self_left (by omega);have:=(ih (p-q) q tw (by omega) hq (afJ (eu (Nat.sub_le p q)) lp) lq VJ (by rw[hg];exact hl)).1 (by omega);rw[hg] at this;exact a7.l52 _ _ tw _ _ v z _ _ _ U _ _ _ g1 g2 g3 (by omega) hc (by unfold ef;split<;>(try split)<;>omega) u2 u3 this
   have L3:0<p→(p%2=1∨q%2=1)→a7.j5 (words p).length (words q).length tw (words p) (words q) (af (words (Nat.gcd p q*2^tw))):=by
    intro hp XP;obtain⟨v,z,g1,g2,g3,g4⟩:=yF hp;by_cases he:p%2=0
    ·have hg:=IY (p:=p) (q:=q) he (by omega);have:=(ih (p/2) q tw (by omega) hq (afJ (eu (agP p 2)) lp) lq VJ (by rw[hg];exact hl)).2.1 (by omega) (by omega);rw[hg] at this;exact a7.Xz _ _ tw _ _ v z _ _ g1 g2 g3 (by omega) (GZ p (by omega)) this
    ·exact a7.XA _ _ tw _ _ v z g1 g2 g3 (by omega) (L5 (by omega))
   refine⟨fun XP => ?_,L3,L5⟩;by_cases hp:p=0
   ·subst hp;rw[Nat.gcd_zero_left] at hl ⊢;exact a7.xe _ _ tw _ _ (by rw[fW];simp) rfl (fin tw q tw 0 rfl VJ hl)
   ·exact a7.uF _ _ tw _ _ (aj2 (by rw[Ne,dO];exact hp)) (L3 (by omega) XP)
 have first:∀(s p q tw:Nat),p+q≤s→0<p→0<q→(words p).length≤1099511627776→(words q).length≤1099511627776→(words (Nat.gcd p q*2^tw)).length≤1099511627776 →
   a7.ah (words p).length (words q).length tw (words p) (words q) (af (words (Nat.gcd p q*2^tw))):=by
  intro s
  induction s with
  |zero=>intro p q tw h1 h2;omega
  |succ s ih =>
   intro p q tw hs hp hq lp lq hl;have VJ:tw+1<9223372036854775808:=by have h1:2^tw≤Nat.gcd p q*2^tw:=aiE _ (ahH _ hp);have h2:=kK (Nat.gcd p q*2^tw);rw[FB] at h2;have h3:=(Nat.pow_lt_pow_iff_right (a:=2) (by omega)).1 (ah5 h1 h2);omega
   obtain⟨v,z,g1,g2,g3,g4⟩:=yF hp;by_cases he:p%2=0
   ·obtain⟨v',z',O0,Ob,YM,YG⟩:=yF hq;by_cases iu:q%2=0
    ·have hg:Nat.gcd (p/2) (q/2)*2^(tw+1)=Nat.gcd p q*2^tw:=by
      have h:=Nat.gcd_mul_left 2 (p/2) (q/2);rw[show 2*(p/2)=p from by omega,show 2*(q/2)=q from by omega] at h;rw[h,afM,agr 2,afZ,agr 2]
     have:=ih (p/2) (q/2) (tw+1) (by omega) (by omega) (by omega) (afJ (eu (agP p 2)) lp) (afJ (eu (agP q 2)) lq) (by rw[hg];exact hl);rw[hg] at this;exact a7.l10 _ _ tw _ _ v z v' z' _ _ _ _ g1 g2 g3 (by omega) O0 Ob YM (by omega) (GZ p (by omega)) (GZ q (by omega)) VJ this
    ·exact a7.cB _ _ tw _ _ v z v' z' g1 g2 g3 (by omega) O0 Ob YM (by omega) ((rounds (p+q) p q tw (afy _) hq lp lq (by omega) hl).1 (by omega))
   ·exact a7.jT _ _ tw _ _ v z g1 g2 g3 (by omega) ((rounds (p+q) p q tw (afy _) hq lp lq (by omega) hl).1 (by omega))
 have:=first (A+B) A B 0 (afy _) (by omega) (by omega) (by omega) (by omega) (by rw[aiv,ahF];exact yG (by omega) (by omega))
 rwa[aiv,ahF] at this
end wI
namespace wI
open cV
theorem Sign(a:az)(h:Fit a.cJ):Cp 151 [a.pv] (vI (qC a.val)):=by
 have hm:=cJ a h;by_cases h0:a.val=0
 ·rw[h0,IV];exact jr.e0 a _ hm (by rw[h0];rfl)
 ·have hg:=neg a h;have hl:(words a.val.natAbs).length≠0:=by rw[Ne,dO];omega
  by_cases hn:a.val<0
  ·rw[Ma hn];exact jr.e1 a _ _ hm hl hg (ag6 hn)
  ·rw[Mb (by omega)];exact jr.e2 a _ _ hm hl hg (ag5 hn)
theorem Neg(a:az)(h:Fit a.cJ):Cp 154 [a.pv] (Sym.whole (-a.val)).pv:=by
 have h3:=cJ a h;have h5:=neg a h;have la:=bk a;have hw:=form (!decide (a.val<0)) (words a.val.natAbs) (by have:(words a.val.natAbs).length≤a.cJ.length:=la;omega);have e:(bif !decide (a.val<0) then -(nat (words a.val.natAbs):Int) else (nat (words a.val.natAbs):Int)) = -a.val:=by
  rw[aH];by_cases h:a.val<0
  ·simp[h];omega
  ·simp[h];omega
 rw[e] at hw;exact qZ.e0 a _ _ _ h5 h3 hw
theorem Add(a b:az)(ha:Fit a.cJ)(hb:Fit b.cJ):Cp 152 [a.pv,b.pv] (Sym.whole (a.val+b.val)).pv:=by
 have h1:=cJ a ha;have h2:=cJ b hb;have h3:=neg a ha;have h4:=neg b hb;have la:(words a.val.natAbs).length≤a.cJ.length:=bk a;have lb:(words b.val.natAbs).length≤b.cJ.length:=bk b;by_cases hs:decide (a.val<0)=decide (b.val<0)
 ·have hp:=plus (words a.val.natAbs) (words b.val.natAbs) (by omega) (by omega);rw[aH,aH] at hp;have hl:=fz (n:=a.val.natAbs+b.val.natAbs) (k:=max (words a.val.natAbs).length (words b.val.natAbs).length+1) (by
   have g1:=kK a.val.natAbs;have g2:=kK b.val.natAbs;have g3:=mV (ahD (words a.val.natAbs).length (words b.val.natAbs).length);have g4:=mV (ahj (words a.val.natAbs).length (words b.val.natAbs).length);rw[afM];omega)
  have hw:=form (decide (a.val<0)) (words (a.val.natAbs+b.val.natAbs)) (by omega);rw[aH] at hw;have e:(bif decide (a.val<0) then -((a.val.natAbs+b.val.natAbs:Nat):Int) else ((a.val.natAbs+b.val.natAbs:Nat):Int))=a.val+b.val:=by
   by_cases h:a.val<0
   ·have:b.val<0:=by simpa[h] using hs.symm
    simp[h];omega
   ·have:¬b.val<0:=by simpa[h] using hs.symm
    simp[h];omega
  rw[e] at hw;exact jY.e0 a b _ _ _ _ _ _ _ h1 h2 h3 h4 hs h3 hp hw
 ·have hc:=compare (words a.val.natAbs) (words b.val.natAbs) (by omega) (by omega);rw[aH,aH] at hc;by_cases EC:b.val.natAbs≤a.val.natAbs
  ·have hl:=minus (words a.val.natAbs) (words b.val.natAbs) (by omega) (by rw[aH,aH];exact EC);rw[aH,aH] at hl;have hlen:=eu (show a.val.natAbs-b.val.natAbs≤a.val.natAbs by omega);have hw:=form (decide (a.val<0)) (words (a.val.natAbs-b.val.natAbs)) (by omega);rw[aH] at hw;have e:(bif decide (a.val<0) then -((a.val.natAbs-b.val.natAbs:Nat):Int) else ((a.val.natAbs-b.val.natAbs:Nat):Int))=a.val+b.val:=by
    by_cases h:a.val<0
    ·have:¬b.val<0:=by simpa[h] using hs
     simp[h];omega
    ·have:b.val<0:=by simpa[h] using hs
     simp[h];omega
   rw[e] at hw;exact jY.e1 a b _ _ _ _ _ _ _ _ h1 h2 h3 h4 hs hc (by unfold ef;split<;>(try split)<;>omega) h3 hl hw
  ·have hl:=minus (words b.val.natAbs) (words a.val.natAbs) (by omega) (by rw[aH,aH];omega);rw[aH,aH] at hl;have hlen:=eu (show b.val.natAbs-a.val.natAbs≤b.val.natAbs by omega);have hw:=form (decide (b.val<0)) (words (b.val.natAbs-a.val.natAbs)) (by omega);rw[aH] at hw;have e:(bif decide (b.val<0) then -((b.val.natAbs-a.val.natAbs:Nat):Int) else ((b.val.natAbs-a.val.natAbs:Nat):Int))=a.val+b.val:=by
    by_cases h:b.val<0
    ·have:¬a.val<0:=by intro h';simp[h,h'] at hs
     simp[h];omega
    ·have:a.val<0:=by
      refine afE fun h' => ?_
      simp[h,h'] at hs
     simp[h];omega
   rw[e] at hw;exact jY.e2 a b _ _ _ _ _ _ _ _ h1 h2 h3 h4 hs hc (by unfold ef;split<;>(try split)<;>omega) h4 hl hw
theorem Sub(a b:az)(ha:Fit a.cJ)(hb:Fit b.cJ):Cp 168 [a.pv,b.pv] (Sym.whole (a.val-b.val)).pv:=by
 have h1:=Neg b hb;have h2:=Add a (Sym.whole (-b.val)) ha (by have:=bk b;show(words (-b.val).natAbs).length≤_;rw[aia];have:(words b.val.natAbs).length≤b.cJ.length:=this;omega)
 rw[aE,←aj3] at h2;exact q7.e0 a b _ _ h1 h2
theorem Mul(a b:az)(ha:Fit a.cJ)(hb:Fit b.cJ):Cp 153 [a.pv,b.pv] (Sym.whole (a.val*b.val)).pv:=by
 have h1:=cJ a ha;have h2:=cJ b hb;have h3:=neg a ha;have h4:=neg b hb;have la:(words a.val.natAbs).length≤a.cJ.length:=bk a;have lb:(words b.val.natAbs).length≤b.cJ.length:=bk b;have ht:=times (words a.val.natAbs) (words b.val.natAbs) (by omega) (by omega);rw[aH,aH] at ht;have hl:(words (a.val.natAbs*b.val.natAbs)).length≤(words a.val.natAbs).length+(words b.val.natAbs).length:=by have:=dZ a.val b.val;unfold wl at this;rw[agw] at this;exact this
 have hw:=form (!(decide (a.val<0)==decide (b.val<0))) (words (a.val.natAbs*b.val.natAbs)) (by omega);rw[aH] at hw;have e:(bif !(decide (a.val<0)==decide (b.val<0)) then -((a.val.natAbs*b.val.natAbs:Nat):Int) else ((a.val.natAbs*b.val.natAbs:Nat):Int))=a.val*b.val:=by
  by_cases h:a.val<0<;>by_cases h':b.val<0<;>simp only[h,h',decide_true,decide_false,beq_self_eq_true,Bool.not_true,cond_false,Bool.not_false,cond_true,show(true==false)=false from rfl,show(false==true)=false from rfl]
  ·rw[←agw,ahX (aix (by omega) (by omega))]
  ·rw[←agw,ahO (aiy (by omega) (by omega))];omega
  ·rw[←agw,ahO (aiz (by omega) (by omega))];omega
  ·rw[←agw,ahX (Int.mul_nonneg (by omega) (by omega))]
 rw[e] at hw;exact qY.e0 a b _ _ _ _ _ _ h3 h4 h1 h2 ht hw
theorem Of(n:Int)(h:ay n):Cp 88 [vI n] (Sym.whole n).pv:=by
 obtain⟨g1,g2⟩:=h;have PR:(2:Nat)^min 32 64=4294967296:=by decide
 have key:∀m:Nat,m=n.natAbs→∃w w1:UInt32,m%4294967296=w.toNat∧m/4294967296%4294967296=w1.toNat∧Cp 156 [(vB (decide (n<0))),(af [w,w1])] (Sym.whole n).pv:=by
  intro m hm;obtain⟨w,hw⟩:=iR (m%4294967296) (by omega);obtain⟨w1,LI⟩:=iR (m/4294967296%4294967296) (by omega);refine⟨w,w1,hw.symm,LI.symm,?_⟩;have:=form (decide (n<0)) [w,w1] (by simp);have e:nat [w,w1]=m:=by simp only[nat,hw,LI];omega
  rw[e,hm] at this;have e2:(bif decide (n<0) then -(n.natAbs:Int) else (n.natAbs:Int))=n:=by
   by_cases h:n<0
   ·simp[h];omega
   ·simp[h];omega
  rw[e2] at this;exact this
 by_cases hn:n<0
 ·obtain⟨w,w1,q1,q2,q3⟩:=key n.natAbs rfl;exact nJ.e0 n (n%18446744073709551616).toNat n.natAbs w _ w1 _ (by omega) hn (by omega) q1 (by rw[PR]) q2 q3
 ·obtain⟨w,w1,q1,q2,q3⟩:=key n.natAbs rfl;exact nJ.e1 n n.natAbs w _ w1 _ (by omega) (by omega) q1 (by rw[PR]) q2 q3
theorem Div(a b:az)(ha:Fit a.cJ)(hb:Fit b.cJ)(h0:b.val≠0) :
  Cp 155 [a.pv,b.pv] (.aF [(Sym.whole (a.val/b.val)).pv,(Sym.whole (a.val%b.val)).pv,vI 0]):=by
 have h1:=cJ a ha;have h2:=cJ b hb;have h3:=neg a ha;have h4:=neg b hb;have la:(words a.val.natAbs).length≤a.cJ.length:=bk a;have lb:(words b.val.natAbs).length≤b.cJ.length:=bk b;have VK:=Sign b hb;have Oc:qC b.val≠0:=by unfold qC ef;split<;>(try split)<;>omega
 have TH:0<b.val.natAbs:=by omega
 have hd:=mW (words a.val.natAbs) (words b.val.natAbs) (iS _) (by rw[aH];omega) (by omega) (by omega);rw[aH,aH] at hd;have hq:=eu (agP a.val.natAbs b.val.natAbs);have hr:=eu (aiK (ahd a.val.natAbs TH));have JU:=ahe a.val.natAbs b.val.natAbs;have hml:=ahd a.val.natAbs TH;generalize hQ:a.val.natAbs/b.val.natAbs=q at *;generalize hR:a.val.natAbs%b.val.natAbs=r at *;have sb:b.val=if b.val<0 then -(b.val.natAbs:Int) else (b.val.natAbs:Int):=by split<;>omega
 have uniq:∀x y:Int,a.val=b.val*x+y→0≤y→y<b.val.natAbs→a.val/b.val=x∧a.val%b.val=y:=by
  intro x y e1 e2 e3;rcases Int.lt_or_gt_of_ne h0 with fG|fG
  ·exact(Int.ediv_emod_unique' fG).2 ⟨by omega,e2,by omega⟩
  ·exact(Int.ediv_emod_unique fG).2 ⟨by omega,e2,by omega⟩
 by_cases hn:a.val<0
 ·by_cases E2:r=0
  ·have hw:=form (!(decide (a.val<0)==decide (b.val<0))) (words q) (by omega);have Eo:=form false (words r) (by omega);rw[aH] at hw Eo;subst E2;have e:a.val/b.val=(bif !(decide (a.val<0)==decide (b.val<0)) then -(q:Int) else (q:Int))∧a.val%b.val=0:=by
    refine uniq _ 0 ?_ (by omega) (by omega);have vo:(a.val.natAbs:Int)=(b.val.natAbs:Int)*q:=by rw[←JU];simp
    by_cases h':b.val<0
    ·simp only[hn,h',decide_true,beq_self_eq_true,Bool.not_true,cond_false];have:(b.val.natAbs:Int) = -b.val:=by omega
     rw[this] at vo;have:(a.val.natAbs:Int) = -a.val:=by omega
     rw[this,aiV] at vo;omega
    ·simp only[hn,h',decide_true,decide_false,show(true==false)=false from rfl,Bool.not_false,cond_true];have:(b.val.natAbs:Int)=b.val:=by omega
     rw[this] at vo;have:(a.val.natAbs:Int) = -a.val:=by omega
     rw[this] at vo;rw[aiW];omega
   rw[e.1,e.2];exact jZ.e2 a b _ _ _ _ _ _ _ _ _ _ VK Oc h1 h2 hd h3 (ag6 hn) (by rw[fW];simp) h3 h4 hw Eo
  ·have hp:=plus (words q) [1] (by omega) (by simp);have hl:=minus (words b.val.natAbs) (words r) (by omega) (by rw[aH,aH];omega);rw[aH] at hp;rw[aH,aH] at hl;have e1:nat [1]=1:=rfl;rw[e1] at hp;have HF:=fz (n:=q+1) (k:=(words q).length+1) (by have:=kK q;rw[afM];omega);have F9:=eu (show b.val.natAbs-r≤b.val.natAbs by omega);have hw:=form (!(decide (a.val<0)==decide (b.val<0))) (words (q+1)) (by omega);have Eo:=form false (words (b.val.natAbs-r)) (by omega);rw[aH] at hw Eo;have e:a.val/b.val=(bif !(decide (a.val<0)==decide (b.val<0)) then -((q+1:Nat):Int) else ((q+1:Nat):Int))∧a.val%b.val=((b.val.natAbs-r:Nat):Int):=by
    refine uniq _ _ ?_ (by omega) (by omega);have vo:(a.val.natAbs:Int)=(b.val.natAbs:Int)*q+r:=by rw[←JU];simp
    by_cases h':b.val<0
    ·simp only[hn,h',decide_true,beq_self_eq_true,Bool.not_true,cond_false];have e5:(b.val.natAbs:Int) = -b.val:=by omega
     rw[e5] at vo;have:(a.val.natAbs:Int) = -a.val:=by omega
     rw[this,aiV] at vo;rw[show ((q+1:Nat):Int)=(q:Int)+1 from by omega,ajp];omega
    ·simp only[hn,h',decide_true,decide_false,show(true==false)=false from rfl,Bool.not_false,cond_true];have:(b.val.natAbs:Int)=b.val:=by omega
     rw[this] at vo;have:(a.val.natAbs:Int) = -a.val:=by omega
     rw[this] at vo;rw[show ((q+1:Nat):Int)=(q:Int)+1 from by omega,aiW,ajp];omega
   rw[e.1,e.2];exact jZ.e1 a b _ _ _ _ _ _ _ _ _ _ _ _ _ VK Oc h1 h2 hd h3 (ag6 hn) (by have:=(dO (n:=r)).1;omega) hp h2 hl h3 h4 hw Eo
 ·have hw:=form (!(decide (a.val<0)==decide (b.val<0))) (words q) (by omega);have Eo:=form false (words r) (by omega);rw[aH] at hw Eo;have e:a.val/b.val=(bif !(decide (a.val<0)==decide (b.val<0)) then -(q:Int) else (q:Int))∧a.val%b.val=(r:Int):=by
   refine uniq _ _ ?_ (by omega) (by omega);have vo:(a.val.natAbs:Int)=(b.val.natAbs:Int)*q+r:=by rw[←JU];simp
   by_cases h':b.val<0
   ·simp only[hn,h',decide_true,decide_false,show(false==true)=false from rfl,Bool.not_false,cond_true];have e5:(b.val.natAbs:Int) = -b.val:=by omega
    rw[e5] at vo;have:(a.val.natAbs:Int)=a.val:=by omega
    rw[this,aiV] at vo;rw[aiW];omega
   ·simp only[hn,h',decide_false,beq_self_eq_true,Bool.not_true,cond_false];have:(b.val.natAbs:Int)=b.val:=by omega
    rw[this] at vo;have:(a.val.natAbs:Int)=a.val:=by omega
    rw[this] at vo;omega
  rw[e.1,e.2];exact jZ.e3 a b _ _ _ _ _ _ _ _ _ _ VK Oc h1 h2 hd h3 (ag5 hn) h3 h4 hw Eo
theorem yE(a b:az)(ha:a.cJ.length<1099511627776)(hb:b.cJ.length<1099511627776):Cp 100 [a.pv,b.pv] (vI (ef a.val b.val)):=by
 have h1:=Sub a b (by omega) (by omega);have h2:=Sign (Sym.whole (a.val-b.val)) (by have g1:=Ad a.val (-b.val);have g2:=bk a;have g3:=bk b;rw[gn,←aj3] at g1;show wl (a.val-b.val)≤_;omega)
 rw[aE] at h2;have e:qC (a.val-b.val)=ef a.val b.val:=by unfold qC ef;split<;>split<;>(try split)<;>(try split)<;>omega
 rw[←e];exact qW.e0 a b _ _ h1 h2
theorem Gcd(a b:az)(ha:Fit a.cJ)(hb:Fit b.cJ):Cp 101 [a.pv,b.pv] (Sym.whole (Nat.gcd a.val.natAbs b.val.natAbs)).pv:=by
 have la:(words a.val.natAbs).length≤a.cJ.length:=bk a;have lb:(words b.val.natAbs).length≤b.cJ.length:=bk b;have hg:=gcd (words a.val.natAbs) (words b.val.natAbs) (by omega) (by omega);rw[aH,aH] at hg;have hl:(words (Nat.gcd a.val.natAbs b.val.natAbs)).length≤1099511627776:=by
  by_cases h:b.val.natAbs=0
  ·rw[h,aie];omega
  ·exact yG (by omega) (by omega)
 have hw:=form false (words (Nat.gcd a.val.natAbs b.val.natAbs)) (by omega);rw[aH] at hw;exact qX.e0 a b _ _ _ _ (cJ a ha) (cJ b hb) hg hw
end wI
end Go.Proofs.YtcpnocgollpbhaaGreatDoor.Sym
namespace Go.Proofs.YtcpnocgollpbhaaGreatDoor.Sym
open cV
set_option linter.unusedVariables false
def ag.valid(a:ag):Bool :=
 bif a.num.isEmpty&&a.den.isEmpty then !a.neg else !a.num.isEmpty&&(!a.den.isEmpty&&(cn a.num&&(cn a.den&&Nat.beq (Nat.gcd (nat a.num) (nat a.den)) 1)))
def ag.val(a:ag):Rat:=bif a.valid && !a.num.isEmpty then Rat.divInt (bif a.neg then -(nat a.num:Int) else (nat a.num:Int)) (nat a.den:Int) else 0
def aI(q:Rat):ag:=bif q.num.natAbs.beq 0 then ⟨false,[],[]⟩ else ⟨decide (q.num<0),words q.num.natAbs,words q.den⟩
theorem beq_iff{a b:Nat} : Nat.beq a b=true↔a=b:=⟨afB,fun h=>by subst h;exact aif a⟩
theorem iG{a b:Nat} : Nat.beq a b=false↔a≠b:=by
 constructor
 ·intro h e;rw[beq_iff.2 e] at h;cases h
 ·intro h;cases hb:Nat.beq a b with
  |true=>exact absurd (beq_iff.1 hb) h
  |false=>rfl
theorem ot:aI 0=⟨false,[],[]⟩:=rfl
theorem tt{q:Rat}(h:q≠0):aI q=⟨decide (q.num<0),words q.num.natAbs,words q.den⟩:=by unfold aI;rw[iG.2 (by intro e;exact h (ai2.1 (by omega))),afP]
theorem EN{n:Nat} : (words n).isEmpty=Nat.beq n 0:=by
 by_cases h:n=0
 ·subst h;rfl
 ·rw[iG.2 h,dC];rw[ag5 (by rw[dO];exact h)]
theorem su(q:Rat):(aI q).valid=true:=by
 by_cases h:q=0
 ·subst h;rfl
 ·rw[tt h];unfold ag.valid;have h1:q.num.natAbs≠0:=by intro e;exact h (ai2.1 (by omega))
  simp only[EN,iG.2 h1,iG.2 q.den_nz,Bool.and_self,Bool.not_false,cond_false,iS,aH,Bool.true_and];exact beq_iff.2 q.reduced
theorem ou{a:ag}(hv:a.valid=true)(h0:a.num≠[]):a.den≠[]∧cn a.num=true∧cn a.den=true∧Nat.gcd (nat a.num) (nat a.den)=1:=by
 have h1:a.num.isEmpty=false:=by cases h:a.num with
  |nil=>exact absurd h h0
  |cons=>rfl
 unfold ag.valid at hv;rw[h1,ah1,afP,ah2,agU] at hv;simp only[Bool.and_eq_true] at hv;obtain⟨g1,g2,g3,g4⟩:=hv;refine⟨?_,g2,g3,beq_iff.1 g4⟩;intro e;rw[e] at g1;cases g1
theorem KV{a:ag}(hv:a.valid=true)(h0:a.num=[]):a=⟨false,[],[]⟩:=by
 obtain⟨n,m,d⟩:=a;subst h0;unfold ag.valid at hv;cases d with
 |nil=>cases n with
  |false=>rfl
  |true=>cases hv
 |cons=>cases hv
theorem vC{a:ag}(hv:a.valid=true)(h0:a.num≠[]):a.val.num=(bif a.neg then -(nat a.num:Int) else (nat a.num:Int))∧a.val.den=nat a.den:=by
 obtain⟨g1,g2,g3,g4⟩:=ou hv h0;have h1:a.num.isEmpty=false:=by cases h:a.num with
  |nil=>exact absurd h h0
  |cons=>rfl
 have hd:=rW g3 g1;unfold ag.val;rw[hv,h1,ah2,Bool.and_self,afz,ai9];have hr:Nat.Coprime (bif a.neg then -(nat a.num:Int) else (nat a.num:Int)).natAbs (nat a.den):=by cases a.neg<;>simp<;>exact g4
 rw[←Rat.mk_eq_mkRat _ _ (by omega) hr];exact⟨rfl,rfl⟩
theorem xr{a:ag}(hv:a.valid=true)(h0:a.num≠[]):a.val≠0:=by obtain⟨g1,g2,g3,g4⟩:=ou hv h0;have:=rW g2 h0;intro e;have h:=(vC hv h0).1;rw[e] at h;have h:(0:Int)=_:=h;cases hn:a.neg<;>rw[hn] at h<;>simp at h<;>omega
theorem G0{a:ag}(hv:a.valid=false):a.val=0:=by unfold ag.val;rw[hv];rfl
theorem vD{a:ag}(h:a.num=[]):a.val=0:=by unfold ag.val;rw[h];simp
theorem Ah{a:ag}(hv:a.valid=true):aI a.val=a:=by
 by_cases h0:a.num=[]
 ·rw[vD h0,KV hv h0];rfl
 ·obtain⟨g1,g2,g3,g4⟩:=ou hv h0;have hp:=rW g2 h0;obtain⟨e1,e2⟩:=vC hv h0;rw[tt (xr hv h0),e1,e2,fy g3];obtain⟨n,m,d⟩:=a;cases n
  ·simp only[cond_false,Int.natAbs_natCast,fy g2,ag.mk.injEq,and_true,decide_eq_false_iff_not];omega
  ·simp only[cond_true,Int.natAbs_neg,Int.natAbs_natCast,fy g2,ag.mk.injEq,and_true,decide_eq_true_eq];simp only at hp;omega
theorem Me{p q:Rat}(h:aI p=aI q):p=q:=by
 by_cases hp:p=0
 ·subst hp;by_cases hq:q=0
  ·exact hq.symm
  ·rw[ot,tt hq] at h;injection h with _ h _
   have:=vw.1 h.symm;exact absurd (ai2.1 (by omega)) hq
 ·by_cases hq:q=0
  ·subst hq;rw[ot,tt hp] at h;injection h with _ h _
   have:=vw.1 h;exact absurd (ai2.1 (by omega)) hp
  ·rw[tt hp,tt hq] at h;injection h with h1 h2 h3
   have h2:=agK nat h2;have h3:=agK nat h3;rw[aH,aH] at h2 h3;refine Rat.ext ?_ h3;by_cases h:p.num<0
   ·have:q.num<0:=by simpa[h] using h1.symm
    omega
   ·have:¬q.num<0:=by simpa[h] using h1.symm
    omega
theorem bI(q:Rat):(aI q).val=q:=Me (Ah (su q))
def ht(q:Rat):Nat:=max (wl q.num) (wl (q.den:Int))
abbrev jL(a:ag):Prop:=a.num.length≤274877906944∧a.den.length≤274877906944
theorem j9:ht 0=1:=by decide
theorem G1(q:Rat):1≤ht q:=by
 have h:(words q.den).length≠0:=by rw[Ne,dO];exact q.den_nz
 have:wl (q.den:Int)≤ht q:=ahj _ _;have h2:wl (q.den:Int)=(words q.den).length:=rfl;omega
theorem eJ(q:Rat):wl q.num≤ht q:=ahD _ _
theorem fC(q:Rat):wl (q.den:Int)≤ht q:=ahj _ _
theorem jx{q:Rat}(h:ht q≤274877906944):jL (aI q):=by
 by_cases h0:q=0
 ·subst h0;constructor<;>simp[ot]
 ·rw[tt h0];exact⟨afJ (eJ q) h,afJ (fC q) h⟩
theorem eK{a:ag}{k:Nat}(h1:a.num.length≤k)(h2:a.den.length≤k)(hk:1≤k):ht a.val≤k:=by
 by_cases hv:a.valid=true
 ·by_cases h0:a.num=[]
  ·rw[vD h0,j9];exact hk
  ·obtain⟨g1,g2,g3,g4⟩:=ou hv h0;obtain⟨e1,e2⟩:=vC hv h0;unfold ht;rw[e1,e2];refine aj9.2 ⟨?_,?_⟩
   ·have e:(bif a.neg then -(nat a.num:Int) else (nat a.num:Int)).natAbs=nat a.num:=by cases a.neg<;>simp
    show(words _).length≤k;rw[e,fy g2];exact h1
   ·show(words _).length≤k;rw[afQ,fy g3];exact h2
 ·rw[G0 (by simpa using hv),j9];exact hk
theorem xu{i j:Int}(h:i.natAbs≤j.natAbs):wl i≤wl j:=eu h
theorem vE(n d:Int):ht (Rat.divInt n d)≤max (wl n) (max (wl d) 1):=by
 by_cases hd:d=0
 ·subst hd;rw[Rat.divInt_zero,j9];omega
 ·unfold ht;refine aj9.2 ⟨afJ (xu ?_) (ahD _ _),afJ (xu (j:=d) ?_) (afJ (ahD _ _) (ahj _ _))⟩
  ·rw[Rat.num_divInt];have h1:=Int.natAbs_ediv_of_dvd (a:=d.sign*n) (b:=(d.gcd n:Int)) (by
    exact Int.dvd_mul_of_dvd_right (Int.gcd_dvd_right d n))
   rw[h1,agw,Int.natAbs_sign_of_ne_zero hd,agV];exact agP _ _
  ·rw[Rat.den_divInt,afG hd,afQ];exact agP _ _
theorem VL:wl 1=1:=rfl
theorem IZ(n:Int)(d:Nat):ht (mkRat n d)≤max (wl n) (max (wl (d:Int)) 1):=by rw[←ai9];exact vE n d
theorem uR(a:Rat):ht (-a)=ht a:=by unfold ht;rw[Rat.neg_num,gn,Rat.neg_den]
theorem nS(a b:Rat):ht (a*b)≤ht a+ht b:=by rw[Rat.mul_def'];have h1:=IZ (a.num*b.num) (a.den*b.den);have h2:=dZ a.num b.num;have h3:=dZ (a.den:Int) (b.den:Int);have h4:=eJ a;have h5:=fC a;have h6:=eJ b;have h7:=fC b;have h8:=G1 a;rw[←agf] at h3;omega
theorem tu(a b:Rat):ht (a+b)≤ht a+ht b+1:=by rw[Rat.add_def'];have h1:=IZ (a.num*b.den+b.num*a.den) (a.den*b.den);have h2:=dZ a.num b.den;have h3:=dZ b.num a.den;have h9:=Ad (a.num*b.den) (b.num*a.den);have bQ:=dZ (a.den:Int) (b.den:Int);have h4:=eJ a;have h5:=fC a;have h6:=eJ b;have h7:=fC b;have h8:=G1 a;rw[←agf] at bQ;omega
theorem P2(a b:Rat):ht (a-b)≤ht a+ht b+1:=by rw[aj4,←uR b];exact tu a (-b)
theorem P4(a:Rat):ht a⁻¹≤ht a:=by rw[Rat.inv_def];have h1:=vE (a.den:Int) a.num;have h4:=eJ a;have h5:=fC a;have h8:=G1 a;omega
theorem tv(a b:Rat):ht (a/b)≤ht a+ht b:=by rw[agW];have:=nS a b⁻¹;have:=P4 b;omega
theorem DI(n:Int):ht (n:Rat)=max (wl n) 1:=by unfold ht;rw[Rat.num_intCast,Rat.den_intCast];rfl
def ig(p q:Rat):Int:=if p<q then -1 else if p=q then 0 else 1
theorem P5(p q:Rat):ef (p.num*q.den) (q.num*p.den)=ig p q:=by
 unfold ef ig;have h1:=Rat.lt_iff p q;have h2:p=q↔p.num*q.den=q.num*p.den:=by
  constructor
  ·intro h;subst h;rfl
  ·intro h;have g1:=(Rat.le_iff p q).2 (by omega);have g2:=(Rat.le_iff q p).2 (by omega);exact Rat.le_antisymm g1 g2
 simp only[h1,h2]
theorem VM(p:Rat):p.num<0↔p<0:=by rw[Rat.lt_iff];simp
theorem I1(p q:Rat):qC (p-q).num=ig p q:=by
 unfold qC ef ig;have h1:(p-q).num<0↔p<q:=by rw[VM];constructor<;>intro h<;>grind
 have h2:(p-q).num=0↔p=q:=by rw[ai2];constructor<;>intro h<;>grind
 simp only[h1,h2]
theorem Ai(p:Rat):qC p.num=ig p 0:=by have:=I1 p 0;rwa[show p-0=p from by grind] at this
theorem BY{p q:Rat} : ig p q<0↔p<q:=by
 unfold ig;split
 ·simp_all
 ·split
  ·simp_all
  ·simp_all
theorem gM{p q:Rat} : ig p q=0↔p=q:=by
 unfold ig;split
 ·rename_i h;constructor
  ·intro h;cases h
  ·intro e;subst e;exact absurd h (Rat.lt_irrefl)
 ·split
  ·simp_all
  ·simp_all
theorem Mf{p q:Rat} : 0<ig p q↔q<p:=by
 unfold ig;split
 ·rename_i h;constructor
  ·intro h;cases h
  ·intro e;grind
 ·split
  ·rename_i h1 h;subst h;simp[Rat.lt_irrefl]
  ·rename_i h1 h2;constructor
   ·intro _;grind
   ·intro _;decide
def EO(p q:Rat):Rat:=if ig p q≤0 then p else q
theorem G2{n d:Int}(hd:0<d)(g:Nat)(hg:g=Nat.gcd n.natAbs d.natAbs):(Rat.divInt n d).num=n/(g:Int)∧((Rat.divInt n d).den:Int)=d/(g:Int):=by
 have e:d.gcd n=g:=by rw[hg,aij];rfl
 refine⟨?_,?_⟩
 ·rw[Rat.num_divInt,e,Int.sign_eq_one_of_pos hd,Int.one_mul]
 ·rw[Rat.den_divInt,afG (by omega),e,Int.natCast_ediv,ahX (by omega)]
open Go Path
theorem I2{a:ag}(h1:a.num.length=0)(h2:a.den.length=0):a.valid = !a.neg:=by unfold ag.valid;rw[dC,dC,ag6 h1,ag6 h2];rfl
theorem I3{a:ag}(h1:a.num.length=0)(h2:a.den.length≠0):a.valid=false:=by unfold ag.valid;rw[dC,dC,ag6 h1,ag5 h2];rfl
theorem I4{a:ag}(h1:a.num.length≠0)(h2:a.den.length=0):a.valid=false:=by unfold ag.valid;rw[dC,dC,ag5 h1,ag6 h2];rfl
theorem I5{a:ag}(h1:a.num.length≠0)(h2:a.den.length≠0):a.valid=(cn a.num&&(cn a.den&&Nat.beq (Nat.gcd (nat a.num) (nat a.den)) 1)):=by unfold ag.valid;rw[dC,dC,ag5 h1,ag5 h2];rfl
theorem xw{m:Words}(h:m.length≠0):(⟨false,m⟩:az).valid=cn m:=by unfold az.valid;rw[dC,ag5 h];rfl
theorem yH{m:Words}(h:m.length≠0)(hc:cn m=true):(⟨false,m⟩:az).val=(nat m:Int):=by unfold az.val;rw[xw h,hc];rfl
theorem Mg(g:Nat):(ef (g:Int) 1==0)=Nat.beq g 1:=by
 by_cases h:g=1
 ·subst h;rfl
 ·rw[iG.2 h];unfold ef;split
  ·rfl
  ·rw[afG (by omega)];rfl
theorem I6{a:ag}(hv:a.valid=true)(h0:a.num.length≠0):Sym.whole a.val.num=⟨a.neg,a.num⟩∧Sym.whole (a.val.den:Int)=⟨false,a.den⟩:=by
 have Y0:a.num≠[]:=by intro e;rw[e] at h0;exact h0 rfl
 obtain⟨g1,g2,g3,g4⟩:=ou hv Y0;obtain⟨e1,e2⟩:=vC hv Y0;have hp:=rW g2 Y0;rw[e1,e2];refine⟨?_,?_⟩
 ·unfold Sym.whole;cases hn:a.neg
  ·simp only[cond_false,Int.natAbs_natCast,fy g2,az.mk.injEq,and_true,decide_eq_false_iff_not];omega
  ·simp only[cond_true,Int.natAbs_neg,Int.natAbs_natCast,fy g2,az.mk.injEq,and_true,decide_eq_true_eq];omega
 ·unfold Sym.whole;simp only[Int.natAbs_natCast,fy g3,az.mk.injEq,and_true,decide_eq_false_iff_not];omega
theorem Aj{a b:Int}{k:Nat}(ha:wl a≤k)(hb:wl b≤k):wl ((Nat.gcd a.natAbs b.natAbs:Nat):Int)≤k:=by
 by_cases h:b=0
 ·subst h;rw[Int.natAbs_zero,aie];show(words _).length≤k;rw[afQ];exact ha
 ·exact afJ (xu (by rw[afQ];exact Nat.le_of_dvd (by omega) (Nat.gcd_dvd_right _ _))) hb
theorem formed{n d:Int}(hn:n≠0)(hd:0<d)(g:Nat)(hg:g=Nat.gcd n.natAbs d.natAbs):aI (Rat.divInt n d)=⟨decide (n/(g:Int)<0),(Sym.whole (n/(g:Int))).cJ,(Sym.whole (d/(g:Int))).cJ⟩:=by
 obtain⟨e1,e2⟩:=G2 (n:=n) hd g hg;have fT:Rat.divInt n d≠0:=by
  intro e;rw[e] at e1;have e1:(0:Int)=n/(g:Int):=e1;have h1:(g:Int)∣n:=by rw[hg];exact Int.ofNat_dvd_left.2 (aje _ _)
  have:=Int.ediv_mul_cancel h1;rw[←e1] at this;omega
 rw[tt fT,e1];unfold Sym.whole;simp only[ag.mk.injEq,true_and];rw[←e2,afQ]
theorem DJ{n:Int}(hn:n≠0)(g:Nat)(hg:g∣n.natAbs):decide (n/(g:Int)<0)=decide (n<0)∧(n/(g:Int)).natAbs=((n.natAbs:Int)/(g:Int)).natAbs:=by
 have h1:(g:Int)∣n:=Int.ofNat_dvd_left.2 hg;have h2:=Int.ediv_mul_cancel h1;have GQ:0<g:=Nat.pos_of_dvd_of_pos hg (by omega);refine⟨?_,?_⟩
 ·congr 1
  refine propext ⟨fun h => ?_,fun h => ?_⟩
  ·have:=Int.mul_neg_of_neg_of_pos h (show (0:Int)<g by omega);omega
  ·exact Int.ediv_neg_of_neg_of_pos h (by omega)
 ·rw[Int.natAbs_ediv_of_dvd h1,afQ,←Int.natCast_ediv,afQ]
namespace uS
theorem one:Cp 57 [] (Sym.whole 1).pv:=yo.e0 _ (cV.Of 1 (by unfold ay;omega))
theorem Valid(a:ag)(h:jL a):Cp 102 [a.pv] (vB a.valid):=by
 obtain⟨l1,l2⟩:=h;by_cases h1:a.num.length=0
 ·by_cases h2:a.den.length=0
  ·rw[I2 h1 h2];exact gD.e0 a h1 h2
  ·rw[I3 h1 h2];exact gD.e1 a h1 h2
 ·by_cases h2:a.den.length=0
  ·rw[I4 h1 h2];exact gD.e2 a h1 h2
  ·rw[I5 h1 h2];have v1:=cV.Valid ⟨false,a.num⟩ (show a.num.length≤_ by omega);have v2:=cV.Valid ⟨false,a.den⟩ (show a.den.length≤_ by omega);rw[xw h1] at v1;rw[xw h2] at v2;cases Es:cn a.num with
   |false=>rw[ah1];exact gD.e3 a _ h1 h2 v1 Es
   |true =>
    rw[agU];cases Kx:cn a.den with
    |false=>rw[ah1];exact gD.e4 a _ _ h1 h2 v1 Es v2 Kx
    |true =>have hg:=cV.Gcd ⟨false,a.num⟩ ⟨false,a.den⟩ (show a.num.length≤_ by omega) (show a.den.length≤_ by omega);rw[yH h1 Es,yH h2 Kx,afQ,afQ] at hg;have gl:=Aj (a:=(nat a.num:Int)) (b:=(nat a.den:Int)) (k:=274877906944) (by show(words _).length≤_;rw[afQ,fy Es];exact l1) (by show(words _).length≤_;rw[afQ,fy Kx];exact l2);rw[afQ,afQ] at gl;have hc:=cV.yE (Sym.whole (Nat.gcd (nat a.num) (nat a.den):Nat)) (Sym.whole 1) (show wl _≤_ by omega) (show wl 1≤_ by decide);rw[aE,aE] at hc;rw[agU,←Mg];exact gD.e5 a _ _ _ _ _ h1 h2 v1 Es v2 Kx hg one hc
theorem kQ(a:ag)(h:jL a):Cp 52 [a.pv] (.aF [(Sym.whole a.val.num).pv,(Sym.whole (a.val.den:Int)).pv]):=by
 have hv:=Valid a h;cases hc:a.valid with
 |false=>rw[G0 hc];exact mO.e0 a _ _ hv hc one
 |true =>
  by_cases h0:a.num.length=0
  ·rw[vD (afr h0)];exact mO.e1 a _ _ hv hc h0 one
  ·obtain⟨e1,e2⟩:=I6 hc h0;rw[e1,e2];exact mO.e2 a _ hv hc h0 (by have:=h.1;simp;omega) (by have:=h.2;simp;omega)
theorem form(n d:az)(hn:n.cJ.length≤1099511627776)(hd:d.cJ.length≤1099511627776)(h0:d.val≠0):Cp 55 [n.pv,d.pv] (aI (Rat.divInt n.val d.val)).pv:=by
 have sn:=cV.Sign n hn;have sd:=cV.Sign d hd;have wn:=bk n;have wd':=bk d;by_cases hz:n.val=0
 ·rw[hz,Rat.zero_divInt];exact jO.e0 n d _ sn (by rw[hz];rfl)
 ·have Iq:qC n.val≠0:=by unfold qC ef;split<;>(try split)<;>omega
  by_cases sv:d.val<0
  ·have e:Rat.divInt n.val d.val=Rat.divInt (-n.val) (-d.val):=by rw[Rat.divInt_neg',Int.neg_neg]
   have n1:=cV.Neg n hn;have d1:=cV.Neg d hd;have l1:(Sym.whole (-n.val)).cJ.length≤1099511627776:=by show wl _≤_;rw[gn];omega
   have l2:(Sym.whole (-d.val)).cJ.length≤1099511627776:=by show wl _≤_;rw[gn];omega
   have g:=cV.Gcd _ _ l1 l2;rw[aE,aE] at g;have Er:=Aj (a := -n.val) (b := -d.val) (k:=1099511627776) (by rw[gn];omega) (by rw[gn];omega);have s2:=cV.Sign _ l1;rw[aE] at s2;rw[e,formed (by omega) (by omega) _ rfl];obtain⟨f1,f2⟩:=DJ (n := -n.val) (by omega) (Nat.gcd (-n.val).natAbs (-d.val).natAbs) (aje _ _);have GQ:((Nat.gcd (-n.val).natAbs (-d.val).natAbs:Nat):Int)≠0:=by have:=ahH (-d.val).natAbs (show 0<(-n.val).natAbs by omega);omega
   rw[f1,show(Sym.whole (-n.val/((Nat.gcd (-n.val).natAbs (-d.val).natAbs:Nat):Int))).cJ=(Sym.whole (((-n.val).natAbs:Int)/((Nat.gcd (-n.val).natAbs (-d.val).natAbs:Nat):Int))).cJ from by unfold Sym.whole;rw[f2]];generalize hG:((Nat.gcd (-n.val).natAbs (-d.val).natAbs:Nat):Int)=G at *;have dd:=cV.Div (Sym.whole (-d.val)) (Sym.whole G) l2 Er (by rw[aE];exact GQ);rw[aE,aE] at dd;by_cases hs : -n.val<0
   ·have n2:=cV.Neg _ l1;rw[aE] at n2;have dn:=cV.Div (Sym.whole (- -n.val)) (Sym.whole G) (by show wl _≤_;rw[gn,gn];omega) Er (by rw[aE];exact GQ);rw[aE,aE] at dn;rw[show ((-n.val).natAbs:Int) = - -n.val from by omega];have:=jO.e1 n d _ _ _ _ _ _ _ _ _ none _ _ none sn Iq sd (by unfold qC ef;rw[afI sv];omega) n1 d1 g s2 (by unfold qC ef;rw[afI hs];omega) n2 dn dd;rw[show decide (qC (-n.val)<0)=decide (-n.val<0) from by unfold qC ef;rw[afI hs,ag6 hs];rfl] at this;exact this
   ·have dn:=cV.Div (Sym.whole (-n.val)) (Sym.whole G) l1 Er (by rw[aE];exact GQ);rw[aE,aE] at dn;rw[show ((-n.val).natAbs:Int) = -n.val from by omega];have XQ:qC (-n.val)=1:=by unfold qC ef;rw[afG hs,afG (by omega)]
    have:=jO.e2 n d _ _ _ _ _ _ _ _ none _ _ none sn Iq sd (by unfold qC ef;rw[afI sv];omega) n1 d1 g s2 (by rw[XQ];omega) dn dd;rw[show decide (qC (-n.val)<0)=decide (-n.val<0) from by rw[XQ,ag5 hs];rfl] at this;exact this
  ·have g:=cV.Gcd _ _ hn hd;have Er:=Aj (a:=n.val) (b:=d.val) (k:=1099511627776) (by omega) (by omega);rw[formed hz (by omega) _ rfl];obtain⟨f1,f2⟩:=DJ hz (Nat.gcd n.val.natAbs d.val.natAbs) (aje _ _);have GQ:((Nat.gcd n.val.natAbs d.val.natAbs:Nat):Int)≠0:=by
    have:=ahH d.val.natAbs (show 0<n.val.natAbs by omega);omega
   rw[f1,show(Sym.whole (n.val/((Nat.gcd n.val.natAbs d.val.natAbs:Nat):Int))).cJ=(Sym.whole ((n.val.natAbs:Int)/((Nat.gcd n.val.natAbs d.val.natAbs:Nat):Int))).cJ from by unfold Sym.whole;rw[f2]];generalize hG:((Nat.gcd n.val.natAbs d.val.natAbs:Nat):Int)=G at *;have dd:=cV.Div d (Sym.whole G) hd Er (by rw[aE];exact GQ);rw[aE] at dd;have Y1:0≤qC d.val:=by unfold qC ef;rw[afG sv];split<;>omega
   by_cases hs:n.val<0
   ·have n2:=cV.Neg _ hn;have dn:=cV.Div (Sym.whole (-n.val)) (Sym.whole G) (by show wl _≤_;rw[gn];omega) Er (by rw[aE];exact GQ);rw[aE,aE] at dn;rw[show (n.val.natAbs:Int) = -n.val from by omega];have:=jO.e3 n d _ _ _ _ _ _ _ none _ _ none sn Iq sd Y1 g sn (by unfold qC ef;rw[afI hs];omega) n2 dn dd;rw[show decide (qC n.val<0)=decide (n.val<0) from by unfold qC ef;rw[afI hs,ag6 hs];rfl] at this;exact this
   ·have dn:=cV.Div n (Sym.whole G) hn Er (by rw[aE];exact GQ);rw[aE] at dn;rw[show (n.val.natAbs:Int)=n.val from by omega];have XQ:qC n.val=1:=by unfold qC ef;rw[afG hs,afG (by omega)]
    have:=jO.e4 n d _ _ _ _ _ _ none _ _ none sn Iq sd Y1 g sn (by rw[XQ];omega) dn dd;rw[show decide (qC n.val<0)=decide (n.val<0) from by rw[XQ,ag5 hs];rfl] at this;exact this
theorem wJ(n d:Int)(hn:wl n≤1099511627776)(hd:wl d≤1099511627776)(h0:d≠0):Cp 55 [(Sym.whole n).pv,(Sym.whole d).pv] (aI (Rat.divInt n d)).pv:=by have:=form (Sym.whole n) (Sym.whole d) hn hd (by rw[aE];exact h0);rwa[aE,aE] at this
theorem NL(n d:az)(hn:n.cJ.length≤1099511627776)(hd:d.cJ.length≤1099511627776)(h0:d.val≠0):Cp 138 [n.pv,d.pv] (.aF [(aI (Rat.divInt n.val d.val)).pv,.aC]) :=
 wC.e1 n d _ _ (cV.Sign d hd) (by unfold qC ef;split<;>(try split)<;>omega) (form n d hn hd h0)
theorem Of(n:Int)(h:ay n):Cp 18 [vI n] (aI (n:Rat)).pv:=by have hw:wl n≤2:=lE (by unfold ay at h;omega);have:=wJ n 1 (by omega) (by decide) (by omega);rw[show Rat.divInt n 1=(n:Rat) from by rw[agi];grind] at this;exact A5.e0 n _ _ _ (cV.Of n h) one this
theorem Neg(a:ag)(h:jL a):Cp 128 [a.pv] (aI (-a.val)).pv:=by have hp:=kQ a h;have hh:=eK h.1 h.2 (by omega);have h1:=eJ a.val;have h2:=fC a.val;have hn:=cV.Neg (Sym.whole a.val.num) (show wl _≤_ by omega);rw[aE] at hn;have hf:=wJ (-a.val.num) a.val.den (by rw[gn];omega) (by omega) (by have:=a.val.den_nz;omega);rw[←Rat.neg_divInt,ahs] at hf;exact yu.e0 a _ _ _ _ hp hn hf
theorem Sign(a:ag)(h:jL a):Cp 119 [a.pv] (vI (ig a.val 0)):=by have hp:=kQ a h;have hh:=eK h.1 h.2 (by omega);have h1:=eJ a.val;have hs:=cV.Sign (Sym.whole a.val.num) (show wl _≤_ by omega);rw[aE,Ai] at hs;exact wB.e0 a _ _ _ hp hs
theorem Add(a b:ag)(ha:jL a)(hb:jL b):Cp 62 [a.pv,b.pv] (aI (a.val+b.val)).pv:=by
 have pa:=kQ a ha;have pb:=kQ b hb;have la:=eK ha.1 ha.2 (by omega);have lb:=eK hb.1 hb.2 (by omega);have h1:=eJ a.val;have h2:=fC a.val;have h3:=eJ b.val;have h4:=fC b.val;have m1:=cV.Mul (Sym.whole a.val.num) (Sym.whole (b.val.den:Int)) (show wl _≤_ by omega) (show wl _≤_ by omega);have m2:=cV.Mul (Sym.whole b.val.num) (Sym.whole (a.val.den:Int)) (show wl _≤_ by omega) (show wl _≤_ by omega);have m3:=cV.Mul (Sym.whole (a.val.den:Int)) (Sym.whole (b.val.den:Int)) (show wl _≤_ by omega) (show wl _≤_ by omega);rw[aE,aE] at m1 m2 m3;have w1:=dZ a.val.num b.val.den;have w2:=dZ b.val.num a.val.den;have w3:=dZ (a.val.den:Int) b.val.den;have s:=cV.Add (Sym.whole (a.val.num*b.val.den)) (Sym.whole (b.val.num*a.val.den)) (show wl _≤_ by omega) (show wl _≤_ by omega);rw[aE,aE] at s;have w4:=Ad (a.val.num*b.val.den) (b.val.num*a.val.den);have hf:=wJ (a.val.num*b.val.den+b.val.num*a.val.den) ((a.val.den:Int)*(b.val.den:Int)) (by omega) (by omega) (by have:=a.val.den_nz;have:=b.val.den_nz;exact aht (by omega) (by omega))
 rw[←agf,ai9,←Rat.add_def',agf] at hf;exact yp.e0 a b _ _ _ _ _ _ _ _ _ pa pb m1 m2 s m3 hf
theorem Sub(a b:ag)(ha:jL a)(hb:jL b):Cp 186 [a.pv,b.pv] (aI (a.val-b.val)).pv:=by have hn:=Neg b hb;have lb:=eK hb.1 hb.2 (by omega);have hs:=Add a (aI (-b.val)) ha (jx (by rw[uR];exact lb));rw[bI,←aj4] at hs;exact yw.e0 a b _ _ hn hs
theorem Mul(a b:ag)(ha:jL a)(hb:jL b):Cp 117 [a.pv,b.pv] (aI (a.val*b.val)).pv:=by
 have pa:=kQ a ha;have pb:=kQ b hb;have la:=eK ha.1 ha.2 (by omega);have lb:=eK hb.1 hb.2 (by omega);have h1:=eJ a.val;have h2:=fC a.val;have h3:=eJ b.val;have h4:=fC b.val;have m1:=cV.Mul (Sym.whole a.val.num) (Sym.whole b.val.num) (show wl _≤_ by omega) (show wl _≤_ by omega);have m3:=cV.Mul (Sym.whole (a.val.den:Int)) (Sym.whole (b.val.den:Int)) (show wl _≤_ by omega) (show wl _≤_ by omega);rw[aE,aE] at m1 m3;have w1:=dZ a.val.num b.val.num;have w3:=dZ (a.val.den:Int) b.val.den;have hf:=wJ (a.val.num*b.val.num) ((a.val.den:Int)*(b.val.den:Int)) (by omega) (by omega) (by have:=a.val.den_nz;have:=b.val.den_nz;exact aht (by omega) (by omega))
 rw[←agf,ai9,←Rat.mul_def',agf] at hf;exact yr.e0 a b _ _ _ _ _ _ _ pa pb m1 m3 hf
theorem Div(a b:ag)(ha:jL a)(hb:jL b)(h0:b.val≠0):Cp 180 [a.pv,b.pv] (.aF [(aI (a.val/b.val)).pv,.aC]):=by
 have pa:=kQ a ha;have pb:=kQ b hb;have la:=eK ha.1 ha.2 (by omega);have lb:=eK hb.1 hb.2 (by omega);have h1:=eJ a.val;have h2:=fC a.val;have h3:=eJ b.val;have h4:=fC b.val;have m1:=cV.Mul (Sym.whole a.val.num) (Sym.whole (b.val.den:Int)) (show wl _≤_ by omega) (show wl _≤_ by omega);have m3:=cV.Mul (Sym.whole (a.val.den:Int)) (Sym.whole b.val.num) (show wl _≤_ by omega) (show wl _≤_ by omega);rw[aE,aE] at m1 m3;have w1:=dZ a.val.num b.val.den;have w3:=dZ (a.val.den:Int) b.val.num;have hf:=NL (Sym.whole (a.val.num*b.val.den)) (Sym.whole ((a.val.den:Int)*b.val.num)) (show wl _≤_ by omega) (show wl _≤_ by omega) (by rw[aE];have:=a.val.den_nz;refine aht (by omega) (fun e=>h0 (ai2.1 e)))
 rw[aE,aE,←Rat.divInt_mul_divInt,ahs,←Rat.inv_def,←agW] at hf;exact yv.e0 a b _ _ _ _ _ _ _ none pa pb m1 m3 hf
theorem XS(a:ag)(h:jL a):Cp 188 [a.pv] (Sym.whole a.val.floor).pv:=by have hp:=kQ a h;have hh:=eK h.1 h.2 (by omega);have h1:=eJ a.val;have h2:=fC a.val;have hd:=cV.Div (Sym.whole a.val.num) (Sym.whole (a.val.den:Int)) (show wl _≤_ by omega) (show wl _≤_ by omega) (by rw[aE];have:=a.val.den_nz;omega);rw[aE,aE,←Rat.floor_def] at hd;exact uH.e0 a _ _ _ _ none hp hd
theorem yE(a b:ag)(ha:jL a)(hb:jL b):Cp 17 [a.pv,b.pv] (vI (ig a.val b.val)):=by have pa:=kQ a ha;have pb:=kQ b hb;have la:=eK ha.1 ha.2 (by omega);have lb:=eK hb.1 hb.2 (by omega);have h1:=eJ a.val;have h2:=fC a.val;have h3:=eJ b.val;have h4:=fC b.val;have m1:=cV.Mul (Sym.whole a.val.num) (Sym.whole (b.val.den:Int)) (show wl _≤_ by omega) (show wl _≤_ by omega);have m2:=cV.Mul (Sym.whole b.val.num) (Sym.whole (a.val.den:Int)) (show wl _≤_ by omega) (show wl _≤_ by omega);rw[aE,aE] at m1 m2;have w1:=dZ a.val.num b.val.den;have w2:=dZ b.val.num a.val.den;have hc:=cV.yE (Sym.whole (a.val.num*b.val.den)) (Sym.whole (b.val.num*a.val.den)) (show wl _≤_ by omega) (show wl _≤_ by omega);rw[aE,aE,P5] at hc;exact yn.e0 a b _ _ _ _ _ _ _ pa pb m1 m2 hc
end uS
namespace Ak
theorem one:Cp 89 [] (Sym.whole 1).pv:=ra.e0 _ (wI.Of 1 (by unfold ay;omega))
theorem plain(m:Words)(h:m.length≤274877906944):Cp 99 [af m] (vB (!m.isEmpty&&cn m)):=by
 rw[dC];by_cases h0:m.length=0
 ·rw[ag6 h0,ahi,ah1];exact k9.e1 m (by omega)
 ·rw[ag5 h0,ah2,agU];obtain⟨v,hv⟩:∃v,m[m.length-1]? = some v:=⟨_,afp (by omega)⟩;have:=k9.e0 m (m.length-1) v (by omega) (by unfold ay;omega) (by omega) hv;have e:cn m=((v.toNat:Int) != 0):=by
   have h1:=nY hv;by_cases h2:v.toNat=0
   ·have h3:((v.toNat:Int) != 0)=false:=by simp[h2]
    rw[h3];cases hc:cn m with
    |true=>exact absurd h2 (h1.1 hc)
    |false=>rfl
   ·have h3:((v.toNat:Int) != 0)=true:=by simp;omega
    rw[h3];exact h1.2 h2
  rw[e];exact this
theorem P6{m:Words}(h:m.length≤274877906944)(h0:m.length≠0):Cp 99 [af m] (vB (cn m)):=by have:=plain m h;rwa[dC,ag5 h0,ah2,agU] at this
theorem P7{m:Words}(h0:m.length=0):Cp 99 [af m] (vB false):=by have:=plain m (by omega);rwa[dC,ag6 h0,ahi,ah1] at this
theorem Valid(a:ag)(h:jL a):Cp 50 [a.pv] (vB a.valid):=by
 obtain⟨l1,l2⟩:=h;by_cases h1:a.num.length=0
 ·by_cases h2:a.den.length=0
  ·rw[I2 h1 h2];exact dc.e0 a h1 h2
  ·rw[I3 h1 h2];exact dc.e3 a _ h1 h2 (P7 h1) rfl
 ·have p1:=P6 l1 h1;by_cases h2:a.den.length=0
  ·rw[I4 h1 h2];cases Es:cn a.num with
   |false=>exact dc.e6 a _ h1 p1 Es
   |true=>exact dc.e5 a _ _ h1 p1 Es (P7 h2) rfl
  ·have p2:=P6 l2 h2;rw[I5 h1 h2];cases Es:cn a.num with
   |false=>rw[ah1];exact dc.e6 a _ h1 p1 Es
   |true =>
    rw[agU];cases Kx:cn a.den with
    |false=>rw[ah1];exact dc.e5 a _ _ h1 p1 Es p2 Kx
    |true =>have hg:=wI.Gcd ⟨false,a.num⟩ ⟨false,a.den⟩ (show a.num.length≤_ by omega) (show a.den.length≤_ by omega);rw[yH h1 Es,yH h2 Kx,afQ,afQ] at hg;have gl:=Aj (a:=(nat a.num:Int)) (b:=(nat a.den:Int)) (k:=274877906944) (by show(words _).length≤_;rw[afQ,fy Es];exact l1) (by show(words _).length≤_;rw[afQ,fy Kx];exact l2);rw[afQ,afQ] at gl;have hc:=wI.yE (Sym.whole (Nat.gcd (nat a.num) (nat a.den):Nat)) (Sym.whole 1) (show wl _<_ by omega) (show wl 1<_ by decide);rw[aE,aE] at hc;rw[agU,←Mg];exact dc.e4 a _ _ _ _ _ h1 p1 Es p2 Kx hg one hc
theorem kQ(a:ag)(h:jL a):Cp 150 [a.pv] (.aF [(Sym.whole a.val.num).pv,(Sym.whole (a.val.den:Int)).pv]):=by
 have hv:=Valid a h;cases hc:a.valid with
 |false=>rw[G0 hc];exact iD.e0 a _ _ hv hc one
 |true =>
  by_cases h0:a.num.length=0
  ·rw[vD (afr h0)];exact iD.e1 a _ _ hv hc h0 one
  ·obtain⟨e1,e2⟩:=I6 hc h0;rw[e1,e2];exact iD.e2 a _ hv hc h0
theorem form(n d:az)(hn:n.cJ.length≤1099511627776)(hd:d.cJ.length≤1099511627776)(h0:d.val≠0):Cp 87 [n.pv,d.pv] (aI (Rat.divInt n.val d.val)).pv:=by
 have sn:=wI.Sign n hn;have sd:=wI.Sign d hd;have wn:=bk n;have wd':=bk d;by_cases hz:n.val=0
 ·rw[hz,Rat.zero_divInt];exact ju.e0 n d _ sn (by rw[hz];rfl)
 ·have Iq:qC n.val≠0:=by unfold qC ef;split<;>(try split)<;>omega
  by_cases sv:d.val<0
  ·have e:Rat.divInt n.val d.val=Rat.divInt (-n.val) (-d.val):=by rw[Rat.divInt_neg',Int.neg_neg]
   have n1:=wI.Neg n hn;have d1:=wI.Neg d hd;have l1:(Sym.whole (-n.val)).cJ.length≤1099511627776:=by show wl _≤_;rw[gn];omega
   have l2:(Sym.whole (-d.val)).cJ.length≤1099511627776:=by show wl _≤_;rw[gn];omega
   have g:=wI.Gcd _ _ l1 l2;rw[aE,aE] at g;have Er:=Aj (a := -n.val) (b := -d.val) (k:=1099511627776) (by rw[gn];omega) (by rw[gn];omega);rw[e,formed (by omega) (by omega) _ rfl];have GQ:((Nat.gcd (-n.val).natAbs (-d.val).natAbs:Nat):Int)≠0:=by have:=ahH (-d.val).natAbs (show 0<(-n.val).natAbs by omega);omega
   generalize hG:((Nat.gcd (-n.val).natAbs (-d.val).natAbs:Nat):Int)=G at *;have dd:=wI.Div (Sym.whole (-d.val)) (Sym.whole G) l2 Er (by rw[aE];exact GQ);have dn:=wI.Div (Sym.whole (-n.val)) (Sym.whole G) l1 Er (by rw[aE];exact GQ);rw[aE,aE] at dd dn;exact ju.e1 n d _ _ _ _ _ _ _ _ _ _ _ sn Iq sd (by unfold qC ef;rw[afI sv];omega) n1 d1 g dn dd
  ·have g:=wI.Gcd _ _ hn hd;have Er:=Aj (a:=n.val) (b:=d.val) (k:=1099511627776) (by omega) (by omega);rw[formed hz (by omega) _ rfl];have GQ:((Nat.gcd n.val.natAbs d.val.natAbs:Nat):Int)≠0:=by
    have:=ahH d.val.natAbs (show 0<n.val.natAbs by omega);omega
   generalize hG:((Nat.gcd n.val.natAbs d.val.natAbs:Nat):Int)=G at *;have dd:=wI.Div d (Sym.whole G) hd Er (by rw[aE];exact GQ);have dn:=wI.Div n (Sym.whole G) hn Er (by rw[aE];exact GQ);rw[aE] at dd dn;have Y1:0≤qC d.val:=by unfold qC ef;rw[afG sv];split<;>omega
   exact ju.e2 n d _ _ _ _ _ _ _ _ _ sn Iq sd Y1 g dn dd
theorem wJ(n d:Int)(hn:wl n≤1099511627776)(hd:wl d≤1099511627776)(h0:d≠0):Cp 87 [(Sym.whole n).pv,(Sym.whole d).pv] (aI (Rat.divInt n d)).pv:=by have:=form (Sym.whole n) (Sym.whole d) hn hd (by rw[aE];exact h0);rwa[aE,aE] at this
theorem NL(n d:az)(hn:n.cJ.length≤1099511627776)(hd:d.cJ.length≤1099511627776)(h0:d.val≠0):Cp 234 [n.pv,d.pv] (.aF [(aI (Rat.divInt n.val d.val)).pv,(vI 0)]) :=
 pY.e1 n d _ _ (wI.Sign d hd) (by unfold qC ef;split<;>(try split)<;>omega) (form n d hn hd h0)
theorem Of(n:Int)(h:ay n):Cp 36 [vI n] (aI (n:Rat)).pv:=by have hw:wl n≤2:=lE (by unfold ay at h;omega);have:=wJ n 1 (by omega) (by decide) (by omega);rw[show Rat.divInt n 1=(n:Rat) from by rw[agi];grind] at this;exact so.e0 n _ _ _ (wI.Of n h) one this
theorem Neg(a:ag)(h:jL a):Cp 149 [a.pv] (aI (-a.val)).pv:=by have hp:=kQ a h;have hh:=eK h.1 h.2 (by omega);have h1:=eJ a.val;have h2:=fC a.val;have hn:=wI.Neg (Sym.whole a.val.num) (show wl _≤_ by omega);rw[aE] at hn;have hf:=wJ (-a.val.num) a.val.den (by rw[gn];omega) (by omega) (by have:=a.val.den_nz;omega);rw[←Rat.neg_divInt,ahs] at hf;exact re.e0 a _ _ _ _ hp hn hf
theorem Sign(a:ag)(h:jL a):Cp 85 [a.pv] (vI (ig a.val 0)):=by have hp:=kQ a h;have hh:=eK h.1 h.2 (by omega);have h1:=eJ a.val;have hs:=wI.Sign (Sym.whole a.val.num) (show wl _≤_ by omega);rw[aE,Ai] at hs;exact pV.e0 a _ _ _ hp hs
theorem Add(a b:ag)(ha:jL a)(hb:jL b):Cp 86 [a.pv,b.pv] (aI (a.val+b.val)).pv:=by
 have pa:=kQ a ha;have pb:=kQ b hb;have la:=eK ha.1 ha.2 (by omega);have lb:=eK hb.1 hb.2 (by omega);have h1:=eJ a.val;have h2:=fC a.val;have h3:=eJ b.val;have h4:=fC b.val;have m1:=wI.Mul (Sym.whole a.val.num) (Sym.whole (b.val.den:Int)) (show wl _≤_ by omega) (show wl _≤_ by omega);have m2:=wI.Mul (Sym.whole b.val.num) (Sym.whole (a.val.den:Int)) (show wl _≤_ by omega) (show wl _≤_ by omega);have m3:=wI.Mul (Sym.whole (a.val.den:Int)) (Sym.whole (b.val.den:Int)) (show wl _≤_ by omega) (show wl _≤_ by omega);rw[aE,aE] at m1 m2 m3;have w1:=dZ a.val.num b.val.den;have w2:=dZ b.val.num a.val.den;have w3:=dZ (a.val.den:Int) b.val.den;have s:=wI.Add (Sym.whole (a.val.num*b.val.den)) (Sym.whole (b.val.num*a.val.den)) (show wl _≤_ by omega) (show wl _≤_ by omega);rw[aE,aE] at s;have w4:=Ad (a.val.num*b.val.den) (b.val.num*a.val.den);have hf:=wJ (a.val.num*b.val.den+b.val.num*a.val.den) ((a.val.den:Int)*(b.val.den:Int)) (by omega) (by omega) (by have:=a.val.den_nz;have:=b.val.den_nz;exact aht (by omega) (by omega))
 rw[←agf,ai9,←Rat.add_def',agf] at hf;exact q9.e0 a b _ _ _ _ _ _ _ _ _ pa pb m1 m2 s m3 hf
theorem Sub(a b:ag)(ha:jL a)(hb:jL b):Cp 95 [a.pv,b.pv] (aI (a.val-b.val)).pv:=by have hn:=Neg b hb;have lb:=eK hb.1 hb.2 (by omega);have hs:=Add a (aI (-b.val)) ha (jx (by rw[uR];exact lb));rw[bI,←aj4] at hs;exact rb.e0 a b _ _ hn hs
theorem Mul(a b:ag)(ha:jL a)(hb:jL b):Cp 157 [a.pv,b.pv] (aI (a.val*b.val)).pv:=by
 have pa:=kQ a ha;have pb:=kQ b hb;have la:=eK ha.1 ha.2 (by omega);have lb:=eK hb.1 hb.2 (by omega);have h1:=eJ a.val;have h2:=fC a.val;have h3:=eJ b.val;have h4:=fC b.val;have m1:=wI.Mul (Sym.whole a.val.num) (Sym.whole b.val.num) (show wl _≤_ by omega) (show wl _≤_ by omega);have m3:=wI.Mul (Sym.whole (a.val.den:Int)) (Sym.whole (b.val.den:Int)) (show wl _≤_ by omega) (show wl _≤_ by omega);rw[aE,aE] at m1 m3;have w1:=dZ a.val.num b.val.num;have w3:=dZ (a.val.den:Int) b.val.den;have hf:=wJ (a.val.num*b.val.num) ((a.val.den:Int)*(b.val.den:Int)) (by omega) (by omega) (by have:=a.val.den_nz;have:=b.val.den_nz;exact aht (by omega) (by omega))
 rw[←agf,ai9,←Rat.mul_def',agf] at hf;exact rf.e0 a b _ _ _ _ _ _ _ pa pb m1 m3 hf
theorem Div(a b:ag)(ha:jL a)(hb:jL b)(h0:b.val≠0):Cp 205 [a.pv,b.pv] (.aF [(aI (a.val/b.val)).pv,(vI 0)]):=by
 have pa:=kQ a ha;have pb:=kQ b hb;have la:=eK ha.1 ha.2 (by omega);have lb:=eK hb.1 hb.2 (by omega);have h1:=eJ a.val;have h2:=fC a.val;have h3:=eJ b.val;have h4:=fC b.val;have m1:=wI.Mul (Sym.whole a.val.num) (Sym.whole (b.val.den:Int)) (show wl _≤_ by omega) (show wl _≤_ by omega);have m3:=wI.Mul (Sym.whole (a.val.den:Int)) (Sym.whole b.val.num) (show wl _≤_ by omega) (show wl _≤_ by omega);rw[aE,aE] at m1 m3;have w1:=dZ a.val.num b.val.den;have w3:=dZ (a.val.den:Int) b.val.num;have hf:=NL (Sym.whole (a.val.num*b.val.den)) (Sym.whole ((a.val.den:Int)*b.val.num)) (show wl _≤_ by omega) (show wl _≤_ by omega) (by rw[aE];have:=a.val.den_nz;refine aht (by omega) (fun e=>h0 (ai2.1 e)))
 rw[aE,aE,←Rat.divInt_mul_divInt,ahs,←Rat.inv_def,←agW] at hf;exact rh.e0 a b _ _ _ _ _ _ _ 0 pa pb m1 m3 hf
theorem yE(a b:ag)(ha:a.num.length≤68719476736∧a.den.length≤68719476736)(hb:b.num.length≤68719476736∧b.den.length≤68719476736):Cp 45 [a.pv,b.pv] (vI (ig a.val b.val)):=by have la:=eK ha.1 ha.2 (by omega);have lb:=eK hb.1 hb.2 (by omega);have hs:=Sub a b ⟨by omega,by omega⟩ ⟨by omega,by omega⟩;have hl:=P2 a.val b.val;have hg:=Sign (aI (a.val-b.val)) (jx (by omega));rw[bI,←Ai,I1] at hg;exact q8.e0 a b _ _ hs hg
end Ak
def bV(p:List ag):List Rat:=p.map ag.val
abbrev mX(k:Nat)(p:List ag):Prop:=∀a∈p,a.num.length≤k∧a.den.length≤k
abbrev Fl(k:Nat)(q:List Rat):Prop:=∀x∈q,ht x≤k
def aP:List Rat→List Rat
 |[]=>[]
 |a::r=>bif (aP r).isEmpty&&decide (a=0) then [] else a::aP r
theorem tx:∀q:List Rat,aP (q++[0])=aP q
 |[]=>rfl
 |a::r=>by show(bif (aP (r++[0])).isEmpty&&decide (a=0) then [] else a::aP (r++[0]))=_;rw[tx r];rfl
theorem yI{v:Rat}(h:v≠0):∀{q:List Rat},aP (q++[v])=q++[v]
 |[]=>by show(bif (aP []).isEmpty&&decide (v=0) then [] else v::aP [])=[v];rw[ag5 h,Bool.and_false];rfl
 |a::r=>by show(bif (aP (r++[v])).isEmpty&&decide (a=0) then [] else a::aP (r++[v]))=_;rw[yI h];cases r<;>rfl
theorem G3{α:Type}{q:List α}{n:Nat}{v:α}(h:q[n]? = some v)(hl:q.length=n+1):q=q.take n++[v]:=by have:=ag4 (l:=q) (i:=n);rw[h,afD (by omega)] at this;exact this
theorem vF{k:Nat}{p:List ag}(h:mX k p)(hk:1≤k):Fl k (bV p):=by intro x hx;unfold bV at hx;obtain⟨a,ha,rfl⟩:=agj.1 hx;exact eK (h a ha).1 (h a ha).2 hk
theorem G4{q:List Rat}(h:Fl 274877906944 q):mX 274877906944 (q.map aI):=by intro a ha;obtain⟨x,hx,rfl⟩:=agj.1 ha;exact jx (h x hx)
theorem bF{q:Rat}{k:Nat}(h:ht q≤k):(aI q).num.length≤k∧(aI q).den.length≤k:=by
 by_cases h0:q=0
 ·subst h0;constructor<;>simp[ot]
 ·rw[tt h0];exact⟨afJ (eJ q) h,afJ (fC q) h⟩
theorem iT{q:List Rat}{k:Nat}(h:Fl k q):mX k (q.map aI):=by intro a ha;obtain⟨x,hx,rfl⟩:=agj.1 ha;exact bF (h x hx)
theorem gI(q:List Rat):bV (q.map aI)=q:=by
 unfold bV;rw[ahT]
 conv=>rhs;rw[←ajo q]
 exact ahM (fun x _=>bI x)
theorem FC{p:List ag}{n:Nat}{v:ag}(h:p[n]? = some v):(bV p).drop n=v.val::(bV p).drop (n+1):=by obtain⟨h1,h2⟩:=afs.1 h;unfold bV;rw[ah3 (by simpa using h1),List.getElem_map,h2]
def aS(q:List Rat):Bool:=match q.getLast? with
 |none=>false
 |some v=>decide (v=0)
theorem DK{p:List ag}(h:aS (bV p)=true):∃v,0<p.length∧p[p.length-1]? = some v∧v.val=0:=by
 unfold aS bV at h;rw[List.getLast?_map,ahy] at h;cases hv:p[p.length-1]? with
 |none=>rw[hv] at h;cases h
 |some v =>rw[hv] at h;have h:decide (v.val=0)=true:=h;exact⟨v,by have:=(afs.1 hv).1;omega,rfl,ahm h⟩
theorem Bc{p:List ag}(h:aS (bV p)=false)(h0:p.length≠0):∃v,p[p.length-1]? = some v∧v.val≠0:=by unfold aS bV at h;rw[List.getLast?_map,ahy] at h;obtain⟨v,hv⟩:∃v,p[p.length-1]? = some v:=⟨_,afp (by omega)⟩;rw[hv] at h;have h:decide (v.val=0)=false:=h;exact⟨v,hv,of_decide_eq_false h⟩
def tX(p:List ag):Int:=if 65<p.length then 4 else bif p.all ag.valid then (bif aS (bV p) then 8 else 0) else 2
def yJ(n:Int):Option Int:=if n=0 then none else some n
theorem qp{n:Int}(h:n≠0):yJ n=some n:=afG h
theorem G5{p:List ag}(h:tX p=0):p.length≤65:=by
 unfold tX at h;split at h
 ·cases h
 ·omega
def evalL:List Rat→Rat→Rat
 |[],_=>0
 |a::r,x=>evalL r x*x+a
theorem rB(q:List Rat)(x:Rat)(k:Nat)(h:Fl k q)(hx:ht x≤k):ht (evalL q x)≤q.length*(2*k+1)+1:=by
 induction q with
 |nil =>have:ht (evalL [] x)=1:=j9;omega
 |cons a r ih =>have h1:=ih (fun y hy=>h y (ag9 _ hy));have h2:=h a (agA ..);have h3:=nS (evalL r x) x;have h4:=tu (evalL r x*x) a;show ht (evalL r x*x+a)≤_;rw[afX,age];omega
def gN:Nat→List Rat→List Rat
 |_,[]=>[]
 |i,a::r=>((i:Int):Rat)*a::gN (i+1) r
def ax(q:List Rat):List Rat:=aP (gN 1 (q.drop 1))
theorem ov:∀(q:List Rat) (i:Nat),(gN i q).length=q.length
 |[],_=>rfl
 |a::r,i=>by rw[gN,afX,afX,ov r]
theorem FD:∀(q:List Rat) (i:Nat) (a:Rat),gN i (q++[a])=gN i q++[(((i+q.length:Nat):Int):Rat)*a]
 |[],i,a=>rfl
 |b::r,i,a=>by rw[air,gN,gN,FD r (i+1) a,afX,air,show i+1+r.length=i+(r.length+1) from by omega]
theorem FF{p:List ag}{i:Nat}{v:ag}(hv:p[i]? = some v)(h:1≤i):gN 1 (((bV p).take (i+1)).drop 1)=gN 1 (((bV p).take i).drop 1)++[((i:Int):Rat)*v.val]:=by
 have h1:=(afs.1 hv).1;have hm:(bV p)[i]? = some v.val:=by unfold bV;rw[afu,hv];rfl
 have hl:((bV p).take i).length=i:=by unfold bV;simp;omega
 rw[ag4,hm,List.drop_append_of_le_length (by omega)];show gN 1 (((bV p).take i).drop 1++[v.val])=_;rw[FD,ahg,hl,show 1+(i-1)=i from by omega]
theorem G6{k:Nat}(hk:k+2≤274877906944):∀(q:List Rat) (i:Nat),i+q.length≤18446744073709551615→Fl k q→Fl 274877906944 (gN i q)
 |[],_,_,_=>fun x hx=>by cases hx
 |a::r,i,hi,h=>by
  intro x hx;rw[afX] at hi;rcases afY.1 hx with e|hx
  ·rw[e];have h1:=nS ((i:Int):Rat) a;have h2:=h a (agA ..);have h3:ht ((i:Int):Rat)≤2:=by
    rw[DI];have:wl (i:Int)≤2:=lE (by omega);omega
   omega
  ·exact G6 hk r (i+1) (by omega) (fun y hy=>h y (ag9 _ hy)) x hx
namespace JV
theorem xx(a:ag)(h:jL a):Cp 62 [a.pv,(⟨false,[],[]⟩:ag).pv] (aI a.val).pv:=by have hf:=uS.Add a ⟨false,[],[]⟩ h ⟨by simp,by simp⟩;rwa[vD (a:=⟨false,[],[]⟩) rfl,agS] at hf
theorem P8:∀(n:Nat) (q:List Rat),q.length=n→n<4611686018427387904→Fl 274877906944 q→kH.a8 (q.map aI) (ae ((aP q).map aI)):=by
 intro n
 induction n with
 |zero =>intro q hq _ _;have:q=[]:=afr hq;subst this;exact kH.Py [] (by simp)
 |succ n ih =>
  intro q hq hb hf;obtain⟨v,hv⟩:∃v,q[n]? = some v:=⟨_,afp (by omega)⟩;have hs:=G3 hv hq;have hm:(q.map aI)[n]? = some (aI v):=by rw[afu,hv];rfl
  have GX:=hf v (afx hv);have sg:=uS.Sign (aI v) (jx GX);rw[bI] at sg;have hl:(q.map aI).length=n+1:=by rw[afq];exact hq
  by_cases h0:v=0
  ·refine kH.uF (q.map aI) n (aI v) _ n (by omega) (by unfold ay;omega) (by omega) (by omega) hm sg (gM.2 h0) (by omega) (by omega) ?_;have:=ih (q.take n) (by rw[afK];omega) (by omega) (fun x hx=>hf x (ahY hx));rw[ahh] at this;rw[hs,h0,tx];rw[←hs.symm,←h0,←hs] at *;exact this
  ·rw[hs,yI h0,←hs];exact kH.xe (q.map aI) n (aI v) _ (by omega) (by unfold ay;omega) (by omega) (by omega) hm sg (fun e=>h0 (gM.1 e))
theorem Trim(l:List ag)(hl:l.length≤1099511627776)(hf:mX 274877906944 l):Cp 82 [ae l] (ae ((aP (bV l)).map aI)):=by
 have loop:∀(j t:Nat) (site:List ag),l.length-t=j→t≤l.length→site=(l.take t).map (fun a=>aI a.val)→kH.ah site l t (ae ((aP (bV l)).map aI)):=by
  intro j
  induction j with
  |zero =>
   intro t site hj ht hs;have yh:t=l.length:=by omega
   subst yh;refine kH.cB site l _ (afy _) ?_;rw[afD (afy _)] at hs;have:=P8 (bV l).length (bV l) rfl (by unfold bV;rw[afq];omega) (vF hf (by omega));have e:site=(bV l).map aI:=by rw[hs];unfold bV;rw[ahT];rfl
   rw[e];exact this
  |succ j ih =>
   intro t site hj ht hs;obtain⟨v,hv⟩:∃v,l[t]? = some v:=⟨_,afp (by omega)⟩;have ha:=xx v (hf v (afx hv));have WH:site.length=t:=by rw[hs,afq,afK];omega
   refine kH.l10 site l t v _ (by omega) hv ha (by simp;omega) (by omega) (ih (t+1) _ (by omega) (by omega) ?_);rw[hs,ag4,hv];simp
 exact kH.e0 l (loop _ 0 [] rfl (by omega) rfl)
theorem KW:∀(j:Nat) (p:List ag) (t:Nat),p.length-t=j→t≤p.length→p.length≤65→mX 274877906944 p→(p.take t).all ag.valid=true →
  (p.all ag.valid=false→eh.ah p t (.iface 75 (vI 2)))∧(p.all ag.valid=true→aS (bV p)=true→eh.ah p t (.iface 75 (vI 8)))∧(p.all ag.valid=true→aS (bV p)=false→eh.ah p t .aC):=by
 intro j
 induction j with
 |zero =>
  intro p t hj ht hl hf hv;have yh:t=p.length:=by omega
  subst yh;rw[afD (afy _)] at hv;refine⟨fun h => ?_,fun _ hz => ?_,fun _ hz => ?_⟩
  ·rw[hv] at h;cases h
  ·obtain⟨v,h0,h1,h2⟩:=DK hz;have sg:=uS.Sign v (hf v (afx h1));exact eh.jT p _ (p.length-1) v _ (afy _) h0 (by unfold ay;omega) (by omega) h1 sg (gM.2 h2)
  ·by_cases h0:p.length=0
   ·exact eh.Bz p _ (afy _) (by omega)
   ·obtain⟨v,h1,h2⟩:=Bc hz h0;have sg:=uS.Sign v (hf v (afx h1));exact eh.tN p _ (p.length-1) v _ (afy _) (by omega) (by unfold ay;omega) (by omega) h1 sg (fun e=>h2 (gM.1 e))
 |succ j ih =>
  intro p t hj ht hl hf hv;obtain⟨v,h1⟩:∃v,p[t]? = some v:=⟨_,afp (by omega)⟩;have Sv:=uS.Valid v (hf v (afx h1));cases hc:v.valid with
  |false =>
   have zB:p.all ag.valid=false:=by rw[List.all_eq_false];exact⟨v,afx h1,by rw[hc];simp⟩
   refine⟨fun _=>eh.l10 p t v _ (by omega) h1 Sv hc,fun h => ?_,fun h => ?_⟩
   ·rw[zB] at h;cases h
   ·rw[zB] at h;cases h
  |true =>obtain⟨g1,g2,g3⟩:=ih p (t+1) (by omega) (by omega) hl hf (by rw[ag4,h1];simp[hv,hc]);exact⟨fun h=>eh.cB p t v _ (by omega) h1 Sv hc (by omega) (g1 h),fun h h'=>eh.cB p t v _ (by omega) h1 Sv hc (by omega) (g2 h h'),fun h h'=>eh.cB p t v _ (by omega) h1 Sv hc (by omega) (g3 h h')⟩
theorem Check(p:List ag)(hf:mX 274877906944 p):Cp 121 [ae p] (bW (yJ (tX p))):=by
 unfold tX;by_cases hl:p.length≤65
 ·rw[afG (by omega)];obtain⟨g1,g2,g3⟩:=KW _ p 0 rfl (by omega) hl hf (by simp);cases hv:p.all ag.valid with
  |false=>exact eh.e1 p hl (g1 hv)
  |true =>
   cases hz:aS (bV p) with
   |true=>exact eh.e1 p hl (g2 hv hz)
   |false=>exact eh.e1 p hl (g3 hv hz)
 ·rw[afI (by omega)];exact eh.e0 p (by omega)
theorem P9(p:List ag)(x:ag)(hl:p.length≤65)(hp:mX 1073741824 p)(hx:x.num.length≤1073741824∧x.den.length≤1073741824):∀(n:Nat) (q:Rat),n≤p.length→q=evalL ((bV p).drop n) x.val →
  sq.ah p ((n:Int)-1) x (aI q) (.aF [(aI (evalL (bV p) x.val)).pv,.aC]):=by
 intro n
 induction n with
 |zero =>intro q _ hq;rw[agB] at hq;rw[←hq];exact sq.cB p _ x _ (by omega)
 |succ n ih =>
  intro q hn hq;obtain⟨v,hv⟩:∃v,p[n]? = some v:=⟨_,afp (by omega)⟩;have Rr:=hp v (afx hv);have b1:=eK Rr.1 Rr.2 (by omega);have b2:=eK hx.1 hx.2 (by omega);have b3:ht q≤65*2147483649+1:=by
   rw[hq];refine afJ (rB _ x.val 1073741824 (fun y hy=>vF hp (by omega) y (aip hy)) b2) ?_;have:((bV p).drop (n+1)).length≤65:=by unfold bV;simp;omega
   omega
  have m:=uS.Mul (aI q) x (jx (by omega)) ⟨by omega,by omega⟩;rw[bI] at m;have b4:=nS q x.val;have s:=uS.Add (aI (q*x.val)) v (jx (by omega)) ⟨by omega,by omega⟩;rw[bI] at s;have:=ih (q*x.val+v.val) (by omega) (by rw[hq,FC hv];rfl);rw[show ((n+1:Nat):Int)-1=(n:Int) from by omega];exact sq.l10 p (n:Int) x _ _ n v _ (by omega) m rfl hv s (by unfold ay;omega) this
theorem Eval(p:List ag)(x:ag)(hc:tX p=0)(hp:mX 1073741824 p)(hx:x.num.length≤1073741824∧x.den.length≤1073741824):Cp 139 [ae p,x.pv] (.aF [(aI (evalL (bV p) x.val)).pv,.aC]):=by have hk:=Check p (fun a ha=>⟨by have:=(hp a ha).1;omega,by have:=(hp a ha).2;omega⟩);rw[hc] at hk;have hl:=G5 hc;exact sq.e0 p x hk (by unfold ay;omega) (P9 p x hl hp hx p.length 0 (afy _) (by rw[afV (by unfold bV;simp)];rfl))
theorem derive(p:List ag)(hl:p.length≤65)(hp:mX 137438953472 p):Cp 134 [ae p] (ae ((ax (bV p)).map aI)):=by
 have loop:∀(j i:Nat) (site:List ag),p.length-i=j→1≤i→site=(gN 1 (((bV p).take i).drop 1)).map aI→oe.ah p site i (ae ((ax (bV p)).map aI)):=by
  intro j
  induction j with
  |zero =>intro i site hj h1 hs;rw[afD (by unfold bV;rw[afq];omega)] at hs;have qE:Fl 274877906944 (gN 1 ((bV p).drop 1)):=G6 (k:=137438953472) (by omega) _ 1 (by unfold bV;simp;omega) (fun y hy=>vF hp (by omega) y (aip hy));have ht:=Trim site (by rw[hs,afq,ov];unfold bV;simp;omega) (by rw[hs];exact G4 qE);rw[hs,gI] at ht;rw[hs];exact oe.cB p _ i _ (by omega) ht
  |succ j ih =>
   intro i site hj h1 hs;obtain⟨v,hv⟩:∃v,p[i]? = some v:=⟨_,afp (by omega)⟩;have Rr:=hp v (afx hv);have ho:=uS.Of (i:Int) (by unfold ay;omega);have b1:ht ((i:Int):Rat)≤2:=by rw[DI];have:wl (i:Int)≤2:=lE (by omega);omega
   have m:=uS.Mul (aI ((i:Int):Rat)) v (jx (by omega)) ⟨by omega,by omega⟩;rw[bI] at m;have WH:site.length=i-1:=by rw[hs,afq,ov];unfold bV;simp;omega
   refine oe.l10 p site i _ v _ (by omega) ho hv m (by simp;omega) (by omega) (ih (i+1) _ (by omega) (by omega) ?_);rw[hs,FF hv h1];simp
 exact oe.e0 p (loop _ 1 [] rfl (by omega) (by rw[show (((bV p).take 1).drop 1)=[] from by simp];rfl))
theorem Al(p:List ag)(hc:tX p=0)(hp:mX 137438953472 p):Cp 122 [ae p] (.aF [ae ((ax (bV p)).map aI),.aC]):=by have hk:=Check p (fun a ha=>⟨by have:=(hp a ha).1;omega,by have:=(hp a ha).2;omega⟩);rw[hc] at hk;exact A6.e0 p _ hk (derive p (G5 hc) hp)
end JV
end Go.Proofs.YtcpnocgollpbhaaGreatDoor.Sym
