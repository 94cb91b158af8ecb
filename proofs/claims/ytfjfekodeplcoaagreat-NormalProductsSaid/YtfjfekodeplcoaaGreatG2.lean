/- Lemmas for the statements of this seat. -/
import Derived.Test.YtfjfekodeplcoaaGreatG1
import Derived.Test.YtfjfekodeplcoaaGreatG0
import Derived.Test.YtfjfekodeplcoaaGreatP2
import Derived.Test.YtfjfekodeplcoaaGreatP3
namespace Go.Proofs.YtfjfekodeplcoaaGreat.Sym
open Go Path
set_option linter.unusedVariables false
namespace wD
open fB
theorem times(a b:Words)(ha:a.length≤2199023255552)(hb:b.length≤2199023255552):Cp 134 [aa a,aa b] (aa (words (nat a*nat b))):=by
 have inner:∀(i:Nat) (v:UInt32) (r:PV),a[i]? = some v→i<a.length→(∀site:Words,site.length=a.length+b.length→nat site=nat (a.take i)*nat b+4294967296^i*(v.toNat*nat b)→(∀q,i+1+b.length≤q→q<site.length→wd site q=0)→cE.au a b (i+1) site r) →
   ∀(j k carry:Nat) (site:Words),b.length-k=j→k≤b.length→site.length=a.length+b.length→carry<4294967296→(∀q,i+b.length≤q→q<site.length→wd site q=0) →
   nat site+4294967296^(i+k)*carry=nat (a.take i)*nat b+4294967296^i*(v.toNat*nat (b.take k))→cE.aM a b i carry i k site r:=by
  intro i v r hv hi ET j
  induction j with
  |zero =>
   intro k carry site hj hk hs hc hz hinv
   have SP:k=b.length:=by omega
   subst SP
   obtain⟨w,hw⟩:=gK carry hc
   refine cE.mY a b i carry i b.length site w (by omega) (by omega) (by omega) (by omega) (by omega) (by omega) (ET _ (by simpa using hs) ?_ ?_)
   ·obtain⟨u,hu⟩:∃u,site[i+b.length]? = some u:=⟨_,List.getElem?_eq_getElem (by omega)⟩
    have h0:=hz (i+b.length) (by omega) (by omega)
    rw[iZ hu] at h0
    have h1:=o4 site (i+b.length) w u hu
    rw[h0,hw] at h1
    rw[bc (l:=b) (by omega)] at hinv
    omega
   ·intro q ON Eh
    rw[List.length_set] at Eh
    have:=hz q (by omega) Eh
    unfold wd at this ⊢
    rw[List.getElem?_set_ne (by omega)]
    exact this
  |succ j ih =>
   intro k carry site hj hk hs hc hz hinv
   obtain⟨u,hu⟩:∃u,b[k]? = some u:=⟨_,List.getElem?_eq_getElem (by omega)⟩
   obtain⟨x,hx⟩:∃x,site[i+k]? = some x:=⟨_,List.getElem?_eq_getElem (by omega)⟩
   have h1:=vl (iD v) (iD u)
   have h2:=iD x
   generalize hp:v.toNat*u.toNat=p at *
   obtain⟨w,hw⟩:=gK ((carry+(p+x.toNat))%4294967296) (by omega)
   have e:(2:Nat)^min 32 64=4294967296:=by decide
   refine cE.mX a b i carry i k site v u p x (p+x.toNat) (carry+(p+x.toNat)) w ((carry+(p+x.toNat))/4294967296) (by omega) hv hu (by rw[hp];omega) (by omega) (by omega) hx (by omega) (by omega) hw.symm (by rw[e]) (by omega) (by omega) ?_
   refine ih (k+1) _ (site.set (i+k) w) (by omega) (by omega) (by simpa using hs) (by omega) ?_ ?_
   ·intro q ON Eh
    rw[List.length_set] at Eh
    have:=hz q ON Eh
    unfold wd at this ⊢
    rw[List.getElem?_set_ne (by omega)]
    exact this
   ·have g1:=o4 site (i+k) w x hx
    rw[hw] at g1
    rw[bV hu,show i+(k+1)=i+k+1 from rfl,Nat.pow_succ,Nat.mul_assoc]
    have g2:4294967296^(i+k)*((carry+(p+x.toNat))%4294967296)+4294967296^(i+k)*(4294967296*((carry+(p+x.toNat))/4294967296))=4294967296^(i+k)*carry+4294967296^(i+k)*p+4294967296^(i+k)*x.toNat:=by
     rw[←Nat.mul_add,←Nat.mul_add,←Nat.mul_add];congr 1;omega
    have g3:4294967296^i*(v.toNat*(nat (b.take k)+4294967296^k*u.toNat))=4294967296^i*(v.toNat*nat (b.take k))+4294967296^(i+k)*p:=by
     rw[←hp,Nat.pow_add,Nat.mul_add,Nat.mul_add]
     congr 1
     rw[Nat.mul_assoc];congr 1
     rw[Nat.mul_left_comm]
    omega
 have loop:∀(j t:Nat) (site:Words),a.length-t=j→t≤a.length→site.length=a.length+b.length→nat site=nat (a.take t)*nat b→(∀q,t+b.length≤q→q<site.length→wd site q=0) →
   cE.au a b t site (aa (words (nat a*nat b))):=by
  intro j
  induction j with
  |zero =>
   intro t site hj ht hs hinv _
   rw[bc (by omega)] at hinv
   have:=cE.ew a b t site (words (nat site)) (by omega) (by omega) (trim site (by omega))
   rwa[hinv] at this
  |succ j ih =>
   intro t site hj ht hs hinv hz
   obtain⟨v,hv⟩:∃v,a[t]? = some v:=⟨_,List.getElem?_eq_getElem (by omega)⟩
   refine cE.eo a b t site (by omega) ?_
   refine inner t v _ hv (by omega) (fun Ja EB Po Ei => ?_) _ 0 0 site rfl (by omega) hs (by omega) hz ?_
   ·refine ih (t+1) Ja (by omega) (by omega) EB ?_ Ei
    rw[Po,bV hv,Nat.add_mul,Nat.mul_assoc]
   ·simp[nat,hinv]
 refine cE.e0 a b (by omega) (by omega) (loop _ 0 _ rfl (by omega) (by simp) (by simp[nat,l7]) ?_)
 intro q _ hq
 unfold wd
 rw[List.getElem?_replicate]
 split
 ·rename_i w h
  split at h
  ·injection h with h;subst h;rfl
  ·cases h
 ·rfl
theorem Bn(k:Nat):(4294967296:Nat)^k=2^(32*k):=by rw[Nat.pow_mul]
theorem NY{l:Words}{k:Nat}(h:l.length=k+1):nat l=nat (l.take k)+4294967296^k*wd l k:=by
 have:=dP l k
 rwa[bc (by omega)] at this
theorem bits(a:Words)(hc:cn a=true)(ha:a.length≤2199023255553):Cp 176 [aa a] (vI (blen (nat a))):=by
 by_cases h0:a.length=0
 ·have:a=[]:=List.eq_nil_of_length_eq_zero h0
  subst this
  exact dJ.e0 [] rfl
 ·have loop:∀(j:Nat) (n:Int) (x:UInt32),x.toNat≤j→aO (n+j)→aO n→dJ.au n x (vI (n+blen x.toNat)):=by
   intro j
   induction j with
   |zero =>
    intro n x hx _ _
    have e:x.toNat=0:=by omega
    rw[e,sH]
    have:=dJ.ew n x (by omega)
    rwa[show n+((0:Nat):Int)=n from by omega]
   |succ j ih =>
    intro n x hx hn NZ
    by_cases h:x.toNat=0
    ·rw[h,sH]
     have:=dJ.ew n x (by omega)
     rwa[show n+((0:Nat):Int)=n from by omega]
    ·obtain⟨z,hz⟩:=gK (x.toNat/2) (by have:=iD x;omega)
     have e:blen x.toNat=1+blen (x.toNat/2):=by
      have:=sf (n:=x.toNat) (k:=1)
      by_cases h1:x.toNat=1
      ·rw[h1];rfl
      ·exact this (by omega)
     unfold aO at hn NZ
     have:=ih (n+1) z (by omega) (by unfold aO;omega) (by unfold aO;omega)
     rw[hz] at this
     rw[e,show n+((1+blen (x.toNat/2):Nat):Int)=n+1+(blen (x.toNat/2):Nat) from by omega]
     exact dJ.eo n x z (by omega) (by unfold aO;omega) (by rw[hz];rfl) this
  obtain⟨k,hk⟩:∃k,a.length=k+1:=⟨a.length-1,by omega⟩
  obtain⟨v,hv⟩:∃v,a[k]? = some v:=⟨_,List.getElem?_eq_getElem (by omega)⟩
  have h1:=(mf (v:=v) (by rw[hk];exact hv)).1 hc
  have h2:=ee (a.take k)
  rw[List.length_take,Nat.min_eq_left (by omega)] at h2
  have h3:=NY hk
  rw[iZ hv] at h3
  have e:blen (nat a)=32*k+blen v.toNat:=by
   rw[Bn] at h2 h3
   have h4:2^(32*k)≤nat a:=by
    have:=Nat.mul_le_mul_left (2^(32*k)) (show 1≤v.toNat by omega)
    omega
   rw[sf h4]
   congr 2
   rw[h3,Nat.add_mul_div_left _ _ (Nat.two_pow_pos _),Nat.div_eq_of_lt h2,Nat.zero_add]
  have hw:=iD v
  have:=loop v.toNat (32*((a.length:Int)-1)) v (Nat.le_refl _) (by unfold aO;omega) (by unfold aO;omega)
  rw[e,show((32*k+blen v.toNat:Nat):Int)=32*((a.length:Int)-1)+(blen v.toNat:Nat) from by omega]
  exact dJ.e1 a k v h0 (by unfold aO;omega) (by unfold aO;omega) (by omega) hv this
theorem Jp{v c:Nat}(hv:v<4294967296)(hc:c≤1):((v*2^(min 1 32))%4294967296%4294967296) ||| (c%4294967296)=(2*v)%4294967296+c:=by
 have e:(2:Nat)^min 1 32=2:=by decide
 rw[e,Nat.mod_mod,Nat.mod_eq_of_lt (show c<4294967296 by omega)]
 obtain⟨u,hu⟩:∃u,(v*2)%4294967296=2*u:=⟨(v*2)%4294967296/2,by omega⟩
 rw[hu]
 have:=Nat.two_pow_add_eq_or_of_lt (i:=1) (show c<2^1 by omega) u
 rw[show (2:Nat)^1=2 from rfl] at this
 rw[←this];omega
theorem N0{v s:Nat}(hs:s<32)(hv:v%2^(s+1)=0)(hl:v<4294967296):(v%4294967296) ||| (((1*2^(min (s%32) 32))%4294967296)%4294967296)=v+2^s:=by
 have h1:2^s<4294967296:=by
  have:=Nat.pow_lt_pow_right (a:=2) (by omega) hs
  omega
 rw[Nat.mod_eq_of_lt hs,Nat.min_eq_left (by omega),Nat.one_mul,Nat.mod_mod,Nat.mod_eq_of_lt hl,Nat.mod_eq_of_lt h1]
 have h2:v=2^(s+1)*(v/2^(s+1)):=by have:=Nat.div_add_mod v (2^(s+1));omega
 have h3:=Nat.two_pow_add_eq_or_of_lt (i:=s+1) (show 2^s<2^(s+1) by rw[Nat.pow_succ];have:=Nat.two_pow_pos s;omega) (v/2^(s+1))
 rw[←h2] at h3
 exact h3.symm
theorem Jq(a:Words)(t:Nat)(ht:t≤a.length):wd a t=nat a/4294967296^t%4294967296:=by
 rw[sg a t ht,jz a t]
 have:=mF a t
 omega
theorem N1(a:Words)(t s Q:Nat)(hs:s<32)(ht:t≤a.length)(h:nat a=Q*2^(32*t+s+1)):wd a t%2^(s+1)=0:=by
 rw[Jq a t ht,h,Bn,show 32*t+s+1=(s+1)+32*t from by omega,Nat.pow_add,←Nat.mul_assoc,Nat.mul_div_cancel _ (Nat.two_pow_pos _)]
 have:(4294967296:Nat)=2^(s+1)*2^(32-(s+1)):=by rw[←Nat.pow_add,show s+1+(32-(s+1))=32 from by omega]
 rw[this,Nat.mod_mul_right_mod,Nat.mul_mod_left]
theorem N2(a:Words)(k:Nat)(hk:k/32≤a.length):wd a (k/32)/2^(k%32)%2=nat a/2^k%2:=by
 rw[Jq a _ hk,Bn]
 have e:(4294967296:Nat)=2^(k%32)*2^(32-k%32):=by rw[←Nat.pow_add,show k%32+(32-k%32)=32 from by omega]
 have e2:(2:Nat)^(32-k%32)=2*2^(31-k%32):=by rw[show 32-k%32=(31-k%32)+1 from by omega,Nat.pow_succ,Nat.mul_comm]
 rw[e,Nat.mod_mul_right_div_self,e2,Nat.mod_mul_right_mod,Nat.div_div_eq_div_mul,←Nat.pow_add,Nat.div_add_mod]
theorem Wi(a b:Words)(hb:b.length≤2199023255552):∀(i:Int) (q R:Words) (bit:Nat) (r:PV),R.length=b.length+1→nat R<nat b→bit≤1 →
  (∀(c:UInt32) (t:Nat) (U:Words),b.length+1≤t→U.length=b.length+1→nat U=2*nat R+bit→cf.aM a b i c t q U r) →
  ∀(j t:Nat) (c:UInt32) (U:Words),b.length+1-t=j→t≤b.length+1→U.length=b.length+1→c.toNat≤1→(∀p,t≤p→wd U p=wd R p) →
  nat (U.take t)+4294967296^t*c.toNat=2*nat (R.take t)+bit→cf.aM a b i c t q U r:=by
 have Wj:=ee b
 have Md:2*nat b<4294967296^(b.length+1):=by rw[Nat.pow_succ];omega
 intro i q R bit r hR Xj N3 ET j
 induction j with
 |zero =>
  intro t c U hj ht hU hc gE hinv
  have AK:t=b.length+1:=by omega
  rw[←AK] at Md
  refine ET c _ U (by omega) hU ?_
  rw[bc (by omega),bc (by omega)] at hinv
  clear AK
  generalize 4294967296^t=P at hinv Md
  have:c.toNat=0:=by
   refine Nat.eq_zero_of_not_pos fun hp => ?_
   have:=Nat.mul_le_mul_left P (show 1≤c.toNat from hp)
   omega
  rw[this] at hinv
  omega
 |succ j ih =>
  intro t c U hj ht hU hc gE hinv
  obtain⟨v,hv⟩:∃v,U[t]? = some v:=⟨_,List.getElem?_eq_getElem (by omega)⟩
  have Jg:=gE t (Nat.le_refl t)
  rw[iZ hv] at Jg
  have xA:=iD v
  obtain⟨z,hz⟩:=gK ((v.toNat*2^(min 1 32))%4294967296) (Nat.mod_lt _ (by omega))
  obtain⟨z1,Fz⟩:=gK ((2*v.toNat)%4294967296+c.toNat) (by omega)
  obtain⟨z2,HN⟩:=gK (v.toNat/2147483648) (by omega)
  have Wk:(2:Nat)^min 31 32=2147483648:=by decide
  refine cf.mX a b i c t q U v z z1 z2 (by omega) hv hz.symm (by rw[hz,Fz];exact Jp xA hc) (by rw[Wk,HN]) (by omega) (by omega) ?_
  refine ih (t+1) z2 (U.set t z1) (by omega) (by omega) (by simpa using hU) (by omega) (fun p hp=>by rw[sK (by omega)];exact gE p (by omega)) ?_
  rw[gf (by omega),dP R t,←Jg,Fz,HN,Nat.pow_succ,Nat.mul_assoc]
  have h6:4294967296^t*((2*v.toNat)%4294967296+c.toNat)+4294967296^t*(4294967296*(v.toNat/2147483648))=4294967296^t*c.toNat+2*(4294967296^t*v.toNat):=by
   rw[Nat.mul_left_comm 2,←Nat.mul_add,←Nat.mul_add]
   congr 1
   omega
  omega
theorem Co(a b:Words)(L8:cn a=true)(Em:0<nat b)(ha:a.length≤2199023255552)(hb:b.length≤2199023255552) :
  Cp 145 [aa a,aa b] (.bx [aa (words (nat a/nat b)),aa (words (nat a%nat b))]):=by
 have loop:∀(n Q:Nat) (q R:Words),q.length=a.length→R.length=b.length+1→n≤blen (nat a)→n≤32*a.length→nat a/2^n=Q*nat b+nat R→nat R<nat b→nat q=Q*2^n →
   cf.au a b ((n:Int)-1) q R (.bx [aa (words (nat a/nat b)),aa (words (nat a%nat b))]):=by
  intro n
  induction n with
  |zero =>
   intro Q q R hq hR _ _ hdiv cQ Mc
   have h1:=trim q (by omega)
   have h2:=trim R (by omega)
   rw[Nat.pow_zero,Nat.div_one] at hdiv
   rw[Nat.pow_zero,Nat.mul_one] at Mc
   have e1:nat a/nat b=nat q:=by
    rw[Mc,hdiv,Nat.add_comm,Nat.add_mul_div_right _ _ Em,Nat.div_eq_of_lt cQ,Nat.zero_add]
   have e2:nat a%nat b=nat R:=by
    rw[hdiv,Nat.add_comm,Nat.add_mul_mod_self_right,Nat.mod_eq_of_lt cQ]
   rw[e1,e2]
   exact cf.ew a b _ q R _ _ (by omega) (by omega) (by omega) h1 h2
  |succ n ih =>
   intro Q q R hq hR hn Dj hdiv cQ Mc
   have G5:n/32<a.length:=by omega
   obtain⟨v,hv⟩:∃v,a[n/32]? = some v:=⟨_,List.getElem?_eq_getElem G5⟩
   have xA:=iD v
   have hs:n%32<32:=Nat.mod_lt _ (by omega)
   obtain⟨z,hz⟩:=gK (v.toNat/2^(n%32)) (Nat.lt_of_le_of_lt (Nat.div_le_self _ _) xA)
   obtain⟨z1,Fz⟩:=gK (nat a/2^n%2) (by omega)
   have N3:=N2 a n (by omega)
   rw[iZ hv] at N3
   rw[show ((n+1:Nat):Int)-1=(n:Int) from by omega]
   refine cf.eo a b (n:Int) q R n v n z z1 (by omega) rfl (by omega) hv rfl (by rw[Nat.min_eq_left (by omega),hz]) ?_ ?_
   ·rw[show (1:Nat)%4294967296=1 from rfl,Nat.and_one_is_mod,Fz,←N3,hz]
    have:=Nat.lt_of_le_of_lt (Nat.div_le_self v.toNat (2^(n%32))) xA
    omega
   ·have F9:nat a/2^n=2*(nat a/2^(n+1))+nat a/2^n%2:=by
     rw[Nat.pow_succ,←Nat.div_div_eq_div_mul];omega
    have nh:nat a/2^n%2≤1:=by omega
    generalize hbv:nat a/2^n%2=bit at *
    refine Wi a b hb (n:Int) q R bit _ hR cQ nh ?_ _ 0 z1 R rfl (by omega) hR (by omega) (fun _ _=>rfl) (by simp[nat];exact Fz)
    intro c t U ht hU Uu
    have wC:=Jo U b (b.length+1) hU.symm (by omega) (by omega)
    by_cases rz:nat b≤nat U
    ·obtain⟨V,Xk,Wl,Wm⟩:=take U b (b.length+1) hU.symm (by omega) rz
     obtain⟨u,hu⟩:∃u,q[n/32]? = some u:=⟨_,List.getElem?_eq_getElem (by omega)⟩
     have rr:=iD u
     have Cn:=N1 q (n/32) (n%32) Q hs (by omega) (by rw[Mc,show 32*(n/32)+n%32+1=n+1 from by omega])
     rw[iZ hu] at Cn
     have Xl:2^(n%32)<4294967296:=by
      have:=Nat.pow_lt_pow_right (a:=2) (by omega) hs
      omega
     obtain⟨z2,HN⟩:=gK ((1*2^(min (n%32) 32))%4294967296) (Nat.mod_lt _ (by omega))
     have OO:=N0 hs Cn rr
     rw[Nat.mod_eq_of_lt hs] at OO
     have hbound:u.toNat+2^(n%32)<4294967296:=by
      rw[←OO]
      exact Nat.or_lt_two_pow (n:=32) (Nat.mod_lt _ (by omega)) (Nat.mod_lt _ (by omega))
     obtain⟨z3,Uv⟩:=gK _ hbound
     refine cf.mY a b (n:Int) c t q U U _ V n u n z2 z3 ht wC (by unfold dW;split<;>(try split)<;>omega) Wm rfl (by omega) G5 hu rfl HN.symm (by rw[HN,Uv];exact OO) (by omega) (by unfold aO;omega) ?_
     refine ih (2*Q+1) (q.set (n/32) z3) V (by simpa using hq) (by omega) (by omega) (by omega) ?_ ?_ ?_
     ·rw[F9,hdiv,Wl,Uu,Nat.add_mul,Nat.mul_add,Nat.mul_assoc];omega
     ·omega
     ·have g:=o4 q (n/32) z3 u hu
      rw[Uv,Nat.mul_add,Mc,Bn,←Nat.pow_add,show 32*(n/32)+n%32=n from by omega] at g
      rw[Nat.pow_succ] at g
      have:(2*Q+1)*2^n=Q*(2^n*2)+2^n:=by rw[Nat.add_mul,Nat.one_mul,Nat.mul_comm 2 Q,Nat.mul_assoc,Nat.mul_comm 2 (2^n)]
      omega
    ·refine cf.xR a b (n:Int) c t q U U _ ht wC (by unfold dW;split<;>(try split)<;>omega) (by unfold aO;omega) ?_
     refine ih (2*Q) q U hq hU (by omega) (by omega) ?_ (by omega) ?_
     ·rw[F9,hdiv,Uu,Nat.mul_add,Nat.mul_assoc];omega
     ·rw[Mc,Nat.pow_succ,Nat.mul_comm 2 Q,Nat.mul_assoc,Nat.mul_comm 2 (2^n)]
 have Qd:=bits a L8 (by omega)
 have K0:blen (nat a)≤32*a.length:=nD (by rw[←Bn];exact ee a)
 refine cf.e0 a b _ (by omega) (by omega) (by omega) Qd (by unfold aO;omega) ?_
 refine loop (blen (nat a)) 0 _ _ (by simp) (by simp) (Nat.le_refl _) K0 ?_ ?_ ?_
 ·rw[l7,Nat.div_eq_of_lt (K6 _)];simp
 ·rw[l7];exact Em
 ·rw[l7];simp
theorem vn{p:Nat}(hp:0<p):∃v z:UInt32,0<(words p).length∧(words p)[0]? = some v∧(v.toNat%4294967296) &&& (1%4294967296)=z.toNat∧z.toNat=p%2:=by
 have hl:0<(words p).length:=Nat.pos_of_ne_zero (by rw[Ne,dL];omega)
 obtain⟨v,hv⟩:∃v,(words p)[0]? = some v:=⟨_,List.getElem?_eq_getElem hl⟩
 obtain⟨z,hz⟩:=gK (p%2) (by omega)
 refine⟨v,z,hl,hv,?_,hz⟩
 have h:=Jq (words p) 0 (by omega)
 rw[iZ hv,aJ,Nat.pow_zero,Nat.div_one] at h
 rw[show (1:Nat)%4294967296=1 from rfl,Nat.and_one_is_mod,hz,h]
 omega
theorem DH{p q:Nat}(hp:p%2=0)(hq:q%2=1):Nat.gcd (p/2) q=Nat.gcd p q:=by
 have hc:Nat.Coprime 2 q:=by
  unfold Nat.Coprime
  rw[Nat.gcd_rec,hq];rfl
 have:=Nat.Coprime.gcd_mul_left_cancel (p/2) hc
 rw[←this]
 congr 1
 omega
theorem Gm{p q k:Nat}(hq:0<q)(h:(words q).length≤k):(words (Nat.gcd p q)).length≤k:=Nat.le_trans (dO (Nat.le_of_dvd hq (Nat.gcd_dvd_right p q))) h
theorem Cr(p:Nat)(hp:(words p).length≤2199023255553):av bp 128 [.row 100000 0 (words p).length 1] [(100000,ws (words p))] (.row 100000 0 (words (p/2)).length 1) [(100000,ws (words (p/2)))]:=by
 have:=Qc (words p) _ rfl hp
 rwa[aJ] at this
theorem Me(p q:Nat)(hp:(words p).length≤2199023255553)(LR:q≤p):∃U:Words,U.length=(words p).length ∧
  av bp 130 [.row 100000 0 (words p).length 1,.row 100001 0 (words q).length 1] [(100000,ws (words p)),(100001,ws (words q))] (.pv (.bx [])) [(100000,ws U),(100001,ws (words q))] ∧
  av bp 131 [.row 100000 0 (words p).length 1] [(100000,ws U)] (.row 100000 0 (words (p-q)).length 1) [(100000,ws (words (p-q)))]:=by
 obtain⟨U,h1,h2,h3⟩:=Qa (words p) (words q) _ _ rfl rfl hp (by rw[aJ,aJ];exact LR)
 have hc:=cut U (by omega)
 rw[aJ,aJ] at h2
 rw[h2,h1] at hc
 exact⟨U,h1,h3,hc⟩
theorem gcd(a b:Words)(ha:a.length≤1099511627776)(hb:b.length≤1099511627776):Cp 90 [aa a,aa b] (aa (words (Nat.gcd (nat a) (nat b)))):=by
 have t1:=Mb a (by omega)
 have t2:=Mb b (by omega)
 have la:=zT a
 have lb:=zT b
 generalize nat a=A at *
 generalize nat b=B at *
 by_cases hA:A=0
 ·subst hA
  rw[Nat.gcd_zero_left]
  exact bh.e0 a b _ _ _ _ t1 t2 (by rw[fN];rfl) rfl
 by_cases hB:B=0
 ·subst hB
  rw[Nat.gcd_zero_right]
  exact bh.e1 a b _ _ _ _ t1 t2 (by rw[Ne,dL];exact hA) (by rw[fN];rfl) rfl
 refine bh.e2 a b _ _ _ _ t1 t2 (by rw[Ne,dL];exact hA) (by rw[Ne,dL];exact hB) ?_
 have fin:∀(j m t64 t65:Nat),t64-t65=j→t64<9223372036854775808→(words (m*2^j)).length≤1099511627776→bh.kF (words m) t64 t65 (aa (words (m*2^j))):=by
  intro j
  induction j with
  |zero =>
   intro m t64 t65 hj _ _
   rw[Nat.pow_zero,Nat.mul_one]
   exact bh.PM _ _ _ (by omega)
  |succ j ih =>
   intro m t64 t65 hj ht hl
   have e:m*2^(j+1)=(m+m)*2^j:=by rw[Nat.pow_succ,Nat.add_mul,←Nat.mul_assoc];omega
   have hm:(words m).length≤1099511627776:=by
    refine Nat.le_trans (dO ?_) hl
    have:=Nat.mul_le_mul_left m (Nat.two_pow_pos (j+1))
    omega
   have hp:=plus (words m) (words m) (by omega) (by omega)
   rw[aJ] at hp
   rw[e] at hl ⊢
   exact bh.PL _ _ _ _ (by omega) hp (by omega) (ih (m+m) t64 (t65+1) (by omega) ht hl)
 have rounds:∀(s p q tw:Nat),p+q≤s→0<q→(words p).length≤1099511627776→(words q).length≤1099511627776→tw<9223372036854775808→(words (Nat.gcd p q*2^tw)).length≤1099511627776 →
   ((p%2=1∨q%2=1)→bh.aM (words p).length (words q).length tw (words p) (words q) (aa (words (Nat.gcd p q*2^tw)))) ∧
   (0<p→(p%2=1∨q%2=1)→bh.fp (words p).length (words q).length tw (words p) (words q) (aa (words (Nat.gcd p q*2^tw)))) ∧
   (p%2=1→bh.mz (words p).length (words q).length tw (words p) (words q) (aa (words (Nat.gcd p q*2^tw)))):=by
  intro s
  induction s with
  |zero=>intro p q tw h1 h2;omega
  |succ s ih =>
   intro p q tw hs hq lp lq N4 hl
   have L5:p%2=1→bh.mz (words p).length (words q).length tw (words p) (words q) (aa (words (Nat.gcd p q*2^tw))):=by
    intro hp
    obtain⟨v,z,g1,g2,g3,g4⟩:=vn hq
    by_cases he:q%2=0
    ·have hg:=DH (p:=q) (q:=p) he hp
     have:=(ih p (q/2) tw (by omega) (by omega) lp (Nat.le_trans (dO (Nat.div_le_self q 2)) lq) N4 (by rw[Nat.gcd_comm,hg,Nat.gcd_comm];exact hl)).2.2 hp
     rw[Nat.gcd_comm,hg,Nat.gcd_comm] at this
     exact bh.VS _ _ tw _ _ v z _ _ g1 g2 g3 (by omega) (Cr q (by omega)) this
    ·have hc:=He (words p) (words q) _ _ rfl rfl (by omega) (by omega)
     rw[aJ,aJ] at hc
     by_cases cQ:p<q
     ·obtain⟨U,u1,u2,u3⟩:=Me q p (by omega) (by omega)
      have hg:Nat.gcd (q-p) p=Nat.gcd p q:=by rw[Nat.gcd_sub_self_left (by omega),Nat.gcd_comm]
      have:=(ih (q-p) p tw (by omega) (by omega) (Nat.le_trans (dO (Nat.sub_le q p)) lq) lp N4 (by rw[hg];exact hl)).1 (by omega)
      rw[hg] at this
      exact bh.VT _ _ tw _ _ v z _ _ _ U _ _ _ g1 g2 g3 (by omega) hc (by unfold dW;split<;>(try split)<;>omega) u2 u3 this
     ·obtain⟨U,u1,u2,u3⟩:=Me p q (by omega) (by omega)
      have hg:Nat.gcd (p-q) q=Nat.gcd p q:=Nat.gcd_sub_self_left (by omega)
      have:=(ih (p-q) q tw (by omega) hq (Nat.le_trans (dO (Nat.sub_le p q)) lp) lq N4 (by rw[hg];exact hl)).1 (by omega)
      rw[hg] at this
      exact bh.Sm _ _ tw _ _ v z _ _ _ U _ _ _ g1 g2 g3 (by omega) hc (by unfold dW;split<;>(try split)<;>omega) u2 u3 this
   have L3:0<p→(p%2=1∨q%2=1)→bh.fp (words p).length (words q).length tw (words p) (words q) (aa (words (Nat.gcd p q*2^tw))):=by
    intro hp Qe
    obtain⟨v,z,g1,g2,g3,g4⟩:=vn hp
    by_cases he:p%2=0
    ·have hg:=DH (p:=p) (q:=q) he (by omega)
     have:=(ih (p/2) q tw (by omega) hq (Nat.le_trans (dO (Nat.div_le_self p 2)) lp) lq N4 (by rw[hg];exact hl)).2.1 (by omega) (by omega)
     rw[hg] at this
     exact bh.KV _ _ tw _ _ v z _ _ g1 g2 g3 (by omega) (Cr p (by omega)) this
    ·exact bh.KW _ _ tw _ _ v z g1 g2 g3 (by omega) (L5 (by omega))
   refine⟨fun Qe => ?_,L3,L5⟩
   by_cases hp:p=0
   ·subst hp
    rw[Nat.gcd_zero_left] at hl ⊢
    exact bh.mY _ _ tw _ _ (by rw[fN];simp) rfl (fin tw q tw 0 rfl N4 hl)
   ·exact bh.mX _ _ tw _ _ (Nat.pos_of_ne_zero (by rw[Ne,dL];exact hp)) (L3 (by omega) Qe)
 have first:∀(s p q tw:Nat),p+q≤s→0<p→0<q→(words p).length≤1099511627776→(words q).length≤1099511627776→(words (Nat.gcd p q*2^tw)).length≤1099511627776 →
   bh.au (words p).length (words q).length tw (words p) (words q) (aa (words (Nat.gcd p q*2^tw))):=by
  intro s
  induction s with
  |zero=>intro p q tw h1 h2;omega
  |succ s ih =>
   intro p q tw hs hp hq lp lq hl
   have N4:tw+1<9223372036854775808:=by
    have h1:2^tw≤Nat.gcd p q*2^tw:=Nat.le_mul_of_pos_left _ (Nat.gcd_pos_of_pos_left _ hp)
    have h2:=jP (Nat.gcd p q*2^tw)
    rw[Bn] at h2
    have h3:=(Nat.pow_lt_pow_iff_right (a:=2) (by omega)).1 (Nat.lt_of_le_of_lt h1 h2)
    omega
   obtain⟨v,z,g1,g2,g3,g4⟩:=vn hp
   by_cases he:p%2=0
   ·obtain⟨v',z',LH,FQ,QD,Oz⟩:=vn hq
    by_cases fj:q%2=0
    ·have hg:Nat.gcd (p/2) (q/2)*2^(tw+1)=Nat.gcd p q*2^tw:=by
      have h:=Nat.gcd_mul_left 2 (p/2) (q/2)
      rw[show 2*(p/2)=p from by omega,show 2*(q/2)=q from by omega] at h
      rw[h,Nat.pow_succ,Nat.mul_comm 2,Nat.mul_assoc,Nat.mul_comm 2]
     have:=ih (p/2) (q/2) (tw+1) (by omega) (by omega) (by omega) (Nat.le_trans (dO (Nat.div_le_self p 2)) lp) (Nat.le_trans (dO (Nat.div_le_self q 2)) lq) (by rw[hg];exact hl)
     rw[hg] at this
     exact bh.eo _ _ tw _ _ v z v' z' _ _ _ _ g1 g2 g3 (by omega) LH FQ QD (by omega) (Cr p (by omega)) (Cr q (by omega)) N4 this
    ·exact bh.ew _ _ tw _ _ v z v' z' g1 g2 g3 (by omega) LH FQ QD (by omega) ((rounds (p+q) p q tw (Nat.le_refl _) hq lp lq (by omega) hl).1 (by omega))
   ·exact bh.nr _ _ tw _ _ v z g1 g2 g3 (by omega) ((rounds (p+q) p q tw (Nat.le_refl _) hq lp lq (by omega) hl).1 (by omega))
 have:=first (A+B) A B 0 (Nat.le_refl _) (by omega) (by omega) (by omega) (by omega) (by rw[Nat.pow_zero,Nat.mul_one];exact Gm (by omega) (by omega))
 rwa[Nat.pow_zero,Nat.mul_one] at this
end wD
namespace wD
open fB
theorem Sign(a:aC)(h:Fit a.cP):Cp 48 [a.pv] (vI (o8 a.val)):=by
 have hm:=cP a h
 by_cases h0:a.val=0
 ·rw[h0,DE]
  exact ig.e0 a _ hm (by rw[h0];rfl)
 ·have hg:=neg a h
  have hl:(words a.val.natAbs).length≠0:=by rw[Ne,dL];omega
  by_cases hn:a.val<0
  ·rw[Gj hn]
   exact ig.e1 a _ _ hm hl hg (decide_eq_true hn)
  ·rw[Gk (by omega)]
   exact ig.e2 a _ _ hm hl hg (decide_eq_false hn)
theorem Neg(a:aC)(h:Fit a.cP):Cp 115 [a.pv] (Sym.whole (-a.val)).pv:=by
 have h3:=cP a h
 have h5:=neg a h
 have la:=bu a
 have hw:=form (!decide (a.val<0)) (words a.val.natAbs) (by have:(words a.val.natAbs).length≤a.cP.length:=la;omega)
 have e:(bif !decide (a.val<0) then -(nat (words a.val.natAbs):Int) else (nat (words a.val.natAbs):Int)) = -a.val:=by
  rw[aJ]
  by_cases h:a.val<0
  ·simp[h];omega
  ·simp[h];omega
 rw[e] at hw
 exact oV.e0 a _ _ _ h5 h3 hw
theorem Add(a b:aC)(ha:Fit a.cP)(hb:Fit b.cP):Cp 126 [a.pv,b.pv] (Sym.whole (a.val+b.val)).pv:=by
 have h1:=cP a ha
 have h2:=cP b hb
 have h3:=neg a ha
 have h4:=neg b hb
 have la:(words a.val.natAbs).length≤a.cP.length:=bu a
 have lb:(words b.val.natAbs).length≤b.cP.length:=bu b
 by_cases hs:decide (a.val<0)=decide (b.val<0)
 ·have hp:=plus (words a.val.natAbs) (words b.val.natAbs) (by omega) (by omega)
  rw[aJ,aJ] at hp
  have hl:=kH (n:=a.val.natAbs+b.val.natAbs) (k:=max (words a.val.natAbs).length (words b.val.natAbs).length+1) (by
   have g1:=jP a.val.natAbs
   have g2:=jP b.val.natAbs
   have g3:=lC (Nat.le_max_left (words a.val.natAbs).length (words b.val.natAbs).length)
   have g4:=lC (Nat.le_max_right (words a.val.natAbs).length (words b.val.natAbs).length)
   rw[Nat.pow_succ];omega)
  have hw:=form (decide (a.val<0)) (words (a.val.natAbs+b.val.natAbs)) (by omega)
  rw[aJ] at hw
  have e:(bif decide (a.val<0) then -((a.val.natAbs+b.val.natAbs:Nat):Int) else ((a.val.natAbs+b.val.natAbs:Nat):Int))=a.val+b.val:=by
   by_cases h:a.val<0
   ·have:b.val<0:=by simpa[h] using hs.symm
    simp[h];omega
   ·have:¬b.val<0:=by simpa[h] using hs.symm
    simp[h];omega
  rw[e] at hw
  exact iY.e0 a b _ _ _ _ _ _ _ h1 h2 h3 h4 hs h3 hp hw
 ·have hc:=compare (words a.val.natAbs) (words b.val.natAbs) (by omega) (by omega)
  rw[aJ,aJ] at hc
  by_cases rz:b.val.natAbs≤a.val.natAbs
  ·have hl:=minus (words a.val.natAbs) (words b.val.natAbs) (by omega) (by rw[aJ,aJ];exact rz)
   rw[aJ,aJ] at hl
   have hlen:=dO (show a.val.natAbs-b.val.natAbs≤a.val.natAbs by omega)
   have hw:=form (decide (a.val<0)) (words (a.val.natAbs-b.val.natAbs)) (by omega)
   rw[aJ] at hw
   have e:(bif decide (a.val<0) then -((a.val.natAbs-b.val.natAbs:Nat):Int) else ((a.val.natAbs-b.val.natAbs:Nat):Int))=a.val+b.val:=by
    by_cases h:a.val<0
    ·have:¬b.val<0:=by simpa[h] using hs
     simp[h];omega
    ·have:b.val<0:=by simpa[h] using hs
     simp[h];omega
   rw[e] at hw
   exact iY.e1 a b _ _ _ _ _ _ _ _ h1 h2 h3 h4 hs hc (by unfold dW;split<;>(try split)<;>omega) h3 hl hw
  ·have hl:=minus (words b.val.natAbs) (words a.val.natAbs) (by omega) (by rw[aJ,aJ];omega)
   rw[aJ,aJ] at hl
   have hlen:=dO (show b.val.natAbs-a.val.natAbs≤b.val.natAbs by omega)
   have hw:=form (decide (b.val<0)) (words (b.val.natAbs-a.val.natAbs)) (by omega)
   rw[aJ] at hw
   have e:(bif decide (b.val<0) then -((b.val.natAbs-a.val.natAbs:Nat):Int) else ((b.val.natAbs-a.val.natAbs:Nat):Int))=a.val+b.val:=by
    by_cases h:b.val<0
    ·have:¬a.val<0:=by intro h';simp[h,h'] at hs
     simp[h];omega
    ·have:a.val<0:=by
      refine Classical.byContradiction fun h' => ?_
      simp[h,h'] at hs
     simp[h];omega
   rw[e] at hw
   exact iY.e2 a b _ _ _ _ _ _ _ _ h1 h2 h3 h4 hs hc (by unfold dW;split<;>(try split)<;>omega) h4 hl hw
theorem Sub(a b:aC)(ha:Fit a.cP)(hb:Fit b.cP):Cp 88 [a.pv,b.pv] (Sym.whole (a.val-b.val)).pv:=by
 have h1:=Neg b hb
 have h2:=Add a (Sym.whole (-b.val)) ha (by
  have:=bu b
  show(words (-b.val).natAbs).length≤_
  rw[Int.natAbs_neg]
  have:(words b.val.natAbs).length≤b.cP.length:=this
  omega)
 rw[aU,←Int.sub_eq_add_neg] at h2
 exact oS.e0 a b _ _ h1 h2
theorem Mul(a b:aC)(ha:Fit a.cP)(hb:Fit b.cP):Cp 93 [a.pv,b.pv] (Sym.whole (a.val*b.val)).pv:=by
 have h1:=cP a ha
 have h2:=cP b hb
 have h3:=neg a ha
 have h4:=neg b hb
 have la:(words a.val.natAbs).length≤a.cP.length:=bu a
 have lb:(words b.val.natAbs).length≤b.cP.length:=bu b
 have ht:=times (words a.val.natAbs) (words b.val.natAbs) (by omega) (by omega)
 rw[aJ,aJ] at ht
 have hl:(words (a.val.natAbs*b.val.natAbs)).length≤(words a.val.natAbs).length+(words b.val.natAbs).length:=by
  have:=iq a.val b.val
  unfold wl at this
  rw[Int.natAbs_mul] at this;exact this
 have hw:=form (!(decide (a.val<0)==decide (b.val<0))) (words (a.val.natAbs*b.val.natAbs)) (by omega)
 rw[aJ] at hw
 have e:(bif !(decide (a.val<0)==decide (b.val<0)) then -((a.val.natAbs*b.val.natAbs:Nat):Int) else ((a.val.natAbs*b.val.natAbs:Nat):Int))=a.val*b.val:=by
  by_cases h:a.val<0<;>by_cases h':b.val<0<;>simp only[h,h',decide_true,decide_false,beq_self_eq_true,Bool.not_true,cond_false,Bool.not_false,cond_true,show(true==false)=false from rfl,show(false==true)=false from rfl]
  ·rw[←Int.natAbs_mul,Int.natAbs_of_nonneg (Int.mul_nonneg_of_nonpos_of_nonpos (by omega) (by omega))]
  ·rw[←Int.natAbs_mul,Int.ofNat_natAbs_of_nonpos (Int.mul_nonpos_of_nonpos_of_nonneg (by omega) (by omega))];omega
  ·rw[←Int.natAbs_mul,Int.ofNat_natAbs_of_nonpos (Int.mul_nonpos_of_nonneg_of_nonpos (by omega) (by omega))];omega
  ·rw[←Int.natAbs_mul,Int.natAbs_of_nonneg (Int.mul_nonneg (by omega) (by omega))]
 rw[e] at hw
 exact oT.e0 a b _ _ _ _ _ _ h3 h4 h1 h2 ht hw
theorem Of(n:Int)(h:aO n):Cp 74 [vI n] (Sym.whole n).pv:=by
 obtain⟨g1,g2⟩:=h
 have Ji:(2:Nat)^min 32 64=4294967296:=by decide
 have key:∀m:Nat,m=n.natAbs→∃w w1:UInt32,m%4294967296=w.toNat∧m/4294967296%4294967296=w1.toNat∧Cp 89 [(vB (decide (n<0))),(aa [w,w1])] (Sym.whole n).pv:=by
  intro m hm
  obtain⟨w,hw⟩:=gK (m%4294967296) (by omega)
  obtain⟨w1,Hw⟩:=gK (m/4294967296%4294967296) (by omega)
  refine⟨w,w1,hw.symm,Hw.symm,?_⟩
  have:=form (decide (n<0)) [w,w1] (by simp)
  have e:nat [w,w1]=m:=by simp only[nat,hw,Hw];omega
  rw[e,hm] at this
  have e2:(bif decide (n<0) then -(n.natAbs:Int) else (n.natAbs:Int))=n:=by
   by_cases h:n<0
   ·simp[h];omega
   ·simp[h];omega
  rw[e2] at this;exact this
 by_cases hn:n<0
 ·obtain⟨w,w1,q1,q2,q3⟩:=key n.natAbs rfl
  exact l0.e0 n (n%18446744073709551616).toNat n.natAbs w _ w1 _ (by omega) hn (by omega) q1 (by rw[Ji]) q2 q3
 ·obtain⟨w,w1,q1,q2,q3⟩:=key n.natAbs rfl
  exact l0.e1 n n.natAbs w _ w1 _ (by omega) (by omega) q1 (by rw[Ji]) q2 q3
theorem Div(a b:aC)(ha:Fit a.cP)(hb:Fit b.cP)(h0:b.val≠0) :
  Cp 116 [a.pv,b.pv] (.bx [(Sym.whole (a.val/b.val)).pv,(Sym.whole (a.val%b.val)).pv,vI 0]):=by
 have h1:=cP a ha
 have h2:=cP b hb
 have h3:=neg a ha
 have h4:=neg b hb
 have la:(words a.val.natAbs).length≤a.cP.length:=bu a
 have lb:(words b.val.natAbs).length≤b.cP.length:=bu b
 have S9:=Sign b hb
 have EP:o8 b.val≠0:=by unfold o8 dW;split<;>(try split)<;>omega
 have Ma:0<b.val.natAbs:=by omega
 have hd:=Co (words a.val.natAbs) (words b.val.natAbs) (gL _) (by rw[aJ];omega) (by omega) (by omega)
 rw[aJ,aJ] at hd
 have hq:=dO (Nat.div_le_self a.val.natAbs b.val.natAbs)
 have hr:=dO (Nat.le_of_lt (Nat.mod_lt a.val.natAbs Ma))
 have En:=Nat.div_add_mod a.val.natAbs b.val.natAbs
 have QT:=Nat.mod_lt a.val.natAbs Ma
 generalize hQ:a.val.natAbs/b.val.natAbs=q at *
 generalize hR:a.val.natAbs%b.val.natAbs=r at *
 have sb:b.val=if b.val<0 then -(b.val.natAbs:Int) else (b.val.natAbs:Int):=by split<;>omega
 have uniq:∀x y:Int,a.val=b.val*x+y→0≤y→y<b.val.natAbs→a.val/b.val=x∧a.val%b.val=y:=by
  intro x y e1 e2 e3
  rcases Int.lt_or_gt_of_ne h0 with cI|cI
  ·exact(Int.ediv_emod_unique' cI).2 ⟨by omega,e2,by omega⟩
  ·exact(Int.ediv_emod_unique cI).2 ⟨by omega,e2,by omega⟩
 by_cases hn:a.val<0
 ·by_cases J9:r=0
  ·have hw:=form (!(decide (a.val<0)==decide (b.val<0))) (words q) (by omega)
   have x5:=form false (words r) (by omega)
   rw[aJ] at hw x5
   subst J9
   have e:a.val/b.val=(bif !(decide (a.val<0)==decide (b.val<0)) then -(q:Int) else (q:Int))∧a.val%b.val=0:=by
    refine uniq _ 0 ?_ (by omega) (by omega)
    have rA:(a.val.natAbs:Int)=(b.val.natAbs:Int)*q:=by rw[←En];simp
    by_cases h':b.val<0
    ·simp only[hn,h',decide_true,beq_self_eq_true,Bool.not_true,cond_false]
     have:(b.val.natAbs:Int) = -b.val:=by omega
     rw[this] at rA
     have:(a.val.natAbs:Int) = -a.val:=by omega
     rw[this,Int.neg_mul] at rA
     omega
    ·simp only[hn,h',decide_true,decide_false,show(true==false)=false from rfl,Bool.not_false,cond_true]
     have:(b.val.natAbs:Int)=b.val:=by omega
     rw[this] at rA
     have:(a.val.natAbs:Int) = -a.val:=by omega
     rw[this] at rA
     rw[Int.mul_neg];omega
   rw[e.1,e.2]
   exact iX.e2 a b _ _ _ _ _ _ _ _ _ _ S9 EP h1 h2 hd h3 (decide_eq_true hn) (by rw[fN];simp) h3 h4 hw x5
  ·have hp:=plus (words q) [1] (by omega) (by simp)
   have hl:=minus (words b.val.natAbs) (words r) (by omega) (by rw[aJ,aJ];omega)
   rw[aJ] at hp
   rw[aJ,aJ] at hl
   have e1:nat [1]=1:=rfl
   rw[e1] at hp
   have Ed:=kH (n:=q+1) (k:=(words q).length+1) (by have:=jP q;rw[Nat.pow_succ];omega)
   have J6:=dO (show b.val.natAbs-r≤b.val.natAbs by omega)
   have hw:=form (!(decide (a.val<0)==decide (b.val<0))) (words (q+1)) (by omega)
   have x5:=form false (words (b.val.natAbs-r)) (by omega)
   rw[aJ] at hw x5
   have e:a.val/b.val=(bif !(decide (a.val<0)==decide (b.val<0)) then -((q+1:Nat):Int) else ((q+1:Nat):Int))∧a.val%b.val=((b.val.natAbs-r:Nat):Int):=by
    refine uniq _ _ ?_ (by omega) (by omega)
    have rA:(a.val.natAbs:Int)=(b.val.natAbs:Int)*q+r:=by rw[←En];simp
    by_cases h':b.val<0
    ·simp only[hn,h',decide_true,beq_self_eq_true,Bool.not_true,cond_false]
     have e5:(b.val.natAbs:Int) = -b.val:=by omega
     rw[e5] at rA
     have:(a.val.natAbs:Int) = -a.val:=by omega
     rw[this,Int.neg_mul] at rA
     rw[show ((q+1:Nat):Int)=(q:Int)+1 from by omega,Int.mul_add]
     omega
    ·simp only[hn,h',decide_true,decide_false,show(true==false)=false from rfl,Bool.not_false,cond_true]
     have:(b.val.natAbs:Int)=b.val:=by omega
     rw[this] at rA
     have:(a.val.natAbs:Int) = -a.val:=by omega
     rw[this] at rA
     rw[show ((q+1:Nat):Int)=(q:Int)+1 from by omega,Int.mul_neg,Int.mul_add];omega
   rw[e.1,e.2]
   exact iX.e1 a b _ _ _ _ _ _ _ _ _ _ _ _ _ S9 EP h1 h2 hd h3 (decide_eq_true hn) (by have:=(dL (n:=r)).1;omega) hp h2 hl h3 h4 hw x5
 ·have hw:=form (!(decide (a.val<0)==decide (b.val<0))) (words q) (by omega)
  have x5:=form false (words r) (by omega)
  rw[aJ] at hw x5
  have e:a.val/b.val=(bif !(decide (a.val<0)==decide (b.val<0)) then -(q:Int) else (q:Int))∧a.val%b.val=(r:Int):=by
   refine uniq _ _ ?_ (by omega) (by omega)
   have rA:(a.val.natAbs:Int)=(b.val.natAbs:Int)*q+r:=by rw[←En];simp
   by_cases h':b.val<0
   ·simp only[hn,h',decide_true,decide_false,show(false==true)=false from rfl,Bool.not_false,cond_true]
    have e5:(b.val.natAbs:Int) = -b.val:=by omega
    rw[e5] at rA
    have:(a.val.natAbs:Int)=a.val:=by omega
    rw[this,Int.neg_mul] at rA
    rw[Int.mul_neg];omega
   ·simp only[hn,h',decide_false,beq_self_eq_true,Bool.not_true,cond_false]
    have:(b.val.natAbs:Int)=b.val:=by omega
    rw[this] at rA
    have:(a.val.natAbs:Int)=a.val:=by omega
    rw[this] at rA
    omega
  rw[e.1,e.2]
  exact iX.e3 a b _ _ _ _ _ _ _ _ _ _ S9 EP h1 h2 hd h3 (decide_eq_false hn) h3 h4 hw x5
theorem Hd(a b:aC)(ha:a.cP.length<1099511627776)(hb:b.cP.length<1099511627776):Cp 44 [a.pv,b.pv] (vI (dW a.val b.val)):=by
 have h1:=Sub a b (by omega) (by omega)
 have h2:=Sign (Sym.whole (a.val-b.val)) (by
  have g1:=Cq a.val (-b.val)
  have g2:=bu a
  have g3:=bu b
  rw[kt,←Int.sub_eq_add_neg] at g1
  show wl (a.val-b.val)≤_
  omega)
 rw[aU] at h2
 have e:o8 (a.val-b.val)=dW a.val b.val:=by
  unfold o8 dW
  split<;>split<;>(try split)<;>(try split)<;>omega
 rw[←e]
 exact oQ.e0 a b _ _ h1 h2
theorem Gcd(a b:aC)(ha:Fit a.cP)(hb:Fit b.cP):Cp 45 [a.pv,b.pv] (Sym.whole (Nat.gcd a.val.natAbs b.val.natAbs)).pv:=by
 have la:(words a.val.natAbs).length≤a.cP.length:=bu a
 have lb:(words b.val.natAbs).length≤b.cP.length:=bu b
 have hg:=gcd (words a.val.natAbs) (words b.val.natAbs) (by omega) (by omega)
 rw[aJ,aJ] at hg
 have hl:(words (Nat.gcd a.val.natAbs b.val.natAbs)).length≤1099511627776:=by
  by_cases h:b.val.natAbs=0
  ·rw[h,Nat.gcd_zero_right];omega
  ·exact Gm (by omega) (by omega)
 have hw:=form false (words (Nat.gcd a.val.natAbs b.val.natAbs)) (by omega)
 rw[aJ] at hw
 exact oR.e0 a b _ _ _ _ (cP a ha) (cP b hb) hg hw
end wD
end Go.Proofs.YtfjfekodeplcoaaGreat.Sym
namespace Go.Proofs.YtfjfekodeplcoaaGreat.Sym
open fB
set_option linter.unusedVariables false
def aK.valid(a:aK):Bool :=
 bif a.num.isEmpty&&a.den.isEmpty then !a.neg else !a.num.isEmpty&&(!a.den.isEmpty&&(cn a.num&&(cn a.den&&Nat.beq (Nat.gcd (nat a.num) (nat a.den)) 1)))
def aK.val(a:aK):Rat:=bif a.valid && !a.num.isEmpty then Rat.divInt (bif a.neg then -(nat a.num:Int) else (nat a.num:Int)) (nat a.den:Int) else 0
def gN(q:Rat):aK:=bif q.num.natAbs.beq 0 then ⟨false,[],[]⟩ else ⟨decide (q.num<0),words q.num.natAbs,words q.den⟩
theorem beq_iff{a b:Nat} : Nat.beq a b=true↔a=b:=⟨Nat.eq_of_beq_eq_true,fun h=>by subst h;exact Nat.beq_refl a⟩
theorem vo{a b:Nat} : Nat.beq a b=false↔a≠b:=by
 constructor
 ·intro h e;rw[beq_iff.2 e] at h;cases h
 ·intro h
  cases hb:Nat.beq a b with
  |true=>exact absurd (beq_iff.1 hb) h
  |false=>rfl
theorem sh:gN 0=⟨false,[],[]⟩:=rfl
theorem pB{q:Rat}(h:q≠0):gN q=⟨decide (q.num<0),words q.num.natAbs,words q.den⟩:=by
 unfold gN
 rw[vo.2 (by intro e;exact h (Rat.num_eq_zero.1 (by omega))),cond_false]
theorem AO{n:Nat} : (words n).isEmpty=Nat.beq n 0:=by
 by_cases h:n=0
 ·subst h;rfl
 ·rw[vo.2 h,df]
  rw[decide_eq_false (by rw[dL];exact h)]
theorem nL(q:Rat):(gN q).valid=true:=by
 by_cases h:q=0
 ·subst h;rfl
 ·rw[pB h]
  unfold aK.valid
  have h1:q.num.natAbs≠0:=by intro e;exact h (Rat.num_eq_zero.1 (by omega))
  simp only[AO,vo.2 h1,vo.2 q.den_nz,Bool.and_self,Bool.not_false,cond_false,gL,aJ,Bool.true_and]
  exact beq_iff.2 q.reduced
theorem mG{a:aK}(hv:a.valid=true)(h0:a.num≠[]):a.den≠[]∧cn a.num=true∧cn a.den=true∧Nat.gcd (nat a.num) (nat a.den)=1:=by
 have h1:a.num.isEmpty=false:=by cases h:a.num with
  |nil=>exact absurd h h0
  |cons=>rfl
 unfold aK.valid at hv
 rw[h1,Bool.false_and,cond_false,Bool.not_false,Bool.true_and] at hv
 simp only[Bool.and_eq_true] at hv
 obtain⟨g1,g2,g3,g4⟩:=hv
 refine⟨?_,g2,g3,beq_iff.1 g4⟩
 intro e;rw[e] at g1;cases g1
theorem FA{a:aK}(hv:a.valid=true)(h0:a.num=[]):a=⟨false,[],[]⟩:=by
 obtain⟨n,m,d⟩:=a
 subst h0
 unfold aK.valid at hv
 cases d with
 |nil=>cases n with
  |false=>rfl
  |true=>cases hv
 |cons=>cases hv
theorem sL{a:aK}(hv:a.valid=true)(h0:a.num≠[]):a.val.num=(bif a.neg then -(nat a.num:Int) else (nat a.num:Int))∧a.val.den=nat a.den:=by
 obtain⟨g1,g2,g3,g4⟩:=mG hv h0
 have h1:a.num.isEmpty=false:=by cases h:a.num with
  |nil=>exact absurd h h0
  |cons=>rfl
 have hd:=pA g3 g1
 unfold aK.val
 rw[hv,h1,Bool.not_false,Bool.and_self,cond_true,Rat.divInt_ofNat]
 have hr:Nat.Coprime (bif a.neg then -(nat a.num:Int) else (nat a.num:Int)).natAbs (nat a.den):=by
  cases a.neg<;>simp<;>exact g4
 rw[←Rat.mk_eq_mkRat _ _ (by omega) hr]
 exact⟨rfl,rfl⟩
theorem N5{a:aK}(hv:a.valid=true)(h0:a.num≠[]):a.val≠0:=by
 obtain⟨g1,g2,g3,g4⟩:=mG hv h0
 have:=pA g2 h0
 intro e
 have h:=(sL hv h0).1
 rw[e] at h
 have h:(0:Int)=_:=h
 cases hn:a.neg<;>rw[hn] at h<;>simp at h<;>omega
theorem Cs{a:aK}(hv:a.valid=false):a.val=0:=by unfold aK.val;rw[hv];rfl
theorem yf{a:aK}(h:a.num=[]):a.val=0:=by unfold aK.val;rw[h];simp
theorem Jr{a:aK}(hv:a.valid=true):gN a.val=a:=by
 by_cases h0:a.num=[]
 ·rw[yf h0,FA hv h0];rfl
 ·obtain⟨g1,g2,g3,g4⟩:=mG hv h0
  have hp:=pA g2 h0
  obtain⟨e1,e2⟩:=sL hv h0
  rw[pB (N5 hv h0),e1,e2,eK g3]
  obtain⟨n,m,d⟩:=a
  cases n
  ·simp only[cond_false,Int.natAbs_natCast,eK g2,aK.mk.injEq,and_true,decide_eq_false_iff_not]
   omega
  ·simp only[cond_true,Int.natAbs_neg,Int.natAbs_natCast,eK g2,aK.mk.injEq,and_true,decide_eq_true_eq]
   simp only at hp
   omega
theorem Li{p q:Rat}(h:gN p=gN q):p=q:=by
 by_cases hp:p=0
 ·subst hp
  by_cases hq:q=0
  ·exact hq.symm
  ·rw[sh,pB hq] at h
   injection h with _ h _
   have:=sF.1 h.symm
   exact absurd (Rat.num_eq_zero.1 (by omega)) hq
 ·by_cases hq:q=0
  ·subst hq
   rw[sh,pB hp] at h
   injection h with _ h _
   have:=sF.1 h
   exact absurd (Rat.num_eq_zero.1 (by omega)) hp
  ·rw[pB hp,pB hq] at h
   injection h with h1 h2 h3
   have h2:=congrArg nat h2
   have h3:=congrArg nat h3
   rw[aJ,aJ] at h2 h3
   refine Rat.ext ?_ h3
   by_cases h:p.num<0
   ·have:q.num<0:=by simpa[h] using h1.symm
    omega
   ·have:¬q.num<0:=by simpa[h] using h1.symm
    omega
theorem dm(q:Rat):(gN q).val=q:=Li (Jr (nL q))
def ht(q:Rat):Nat:=max (wl q.num) (wl (q.den:Int))
abbrev l8(a:aK):Prop:=a.num.length≤274877906944∧a.den.length≤274877906944
theorem Ct:ht 0=1:=by decide
theorem Js(q:Rat):1≤ht q:=by
 have h:(words q.den).length≠0:=by rw[Ne,dL];exact q.den_nz
 have:wl (q.den:Int)≤ht q:=Nat.le_max_right _ _
 have h2:wl (q.den:Int)=(words q.den).length:=rfl
 omega
theorem gn(q:Rat):wl q.num≤ht q:=Nat.le_max_left _ _
theorem ir(q:Rat):wl (q.den:Int)≤ht q:=Nat.le_max_right _ _
theorem gh{q:Rat}(h:ht q≤274877906944):l8 (gN q):=by
 by_cases h0:q=0
 ·subst h0;constructor<;>simp[sh]
 ·rw[pB h0]
  exact⟨Nat.le_trans (gn q) h,Nat.le_trans (ir q) h⟩
theorem eY{a:aK}{k:Nat}(h1:a.num.length≤k)(h2:a.den.length≤k)(hk:1≤k):ht a.val≤k:=by
 by_cases hv:a.valid=true
 ·by_cases h0:a.num=[]
  ·rw[yf h0,Ct];exact hk
  ·obtain⟨g1,g2,g3,g4⟩:=mG hv h0
   obtain⟨e1,e2⟩:=sL hv h0
   unfold ht
   rw[e1,e2]
   refine Nat.max_le.2 ⟨?_,?_⟩
   ·have e:(bif a.neg then -(nat a.num:Int) else (nat a.num:Int)).natAbs=nat a.num:=by cases a.neg<;>simp
    show(words _).length≤k
    rw[e,eK g2];exact h1
   ·show(words _).length≤k
    rw[Int.natAbs_natCast,eK g3];exact h2
 ·rw[Cs (by simpa using hv),Ct];exact hk
theorem uf{i j:Int}(h:i.natAbs≤j.natAbs):wl i≤wl j:=dO h
theorem Hh(n d:Int):ht (Rat.divInt n d)≤max (wl n) (max (wl d) 1):=by
 by_cases hd:d=0
 ·subst hd
  rw[Rat.divInt_zero,Ct];omega
 ·unfold ht
  refine Nat.max_le.2 ⟨Nat.le_trans (uf ?_) (Nat.le_max_left _ _),Nat.le_trans (uf (j:=d) ?_) (Nat.le_trans (Nat.le_max_left _ _) (Nat.le_max_right _ _))⟩
  ·rw[Rat.num_divInt]
   have h1:=Int.natAbs_ediv_of_dvd (a:=d.sign*n) (b:=(d.gcd n:Int)) (by
    exact Int.dvd_mul_of_dvd_right (Int.gcd_dvd_right d n))
   rw[h1,Int.natAbs_mul,Int.natAbs_sign_of_ne_zero hd,Nat.one_mul]
   exact Nat.div_le_self _ _
  ·rw[Rat.den_divInt,if_neg hd,Int.natAbs_natCast]
   exact Nat.div_le_self _ _
theorem DI(n:Int)(d:Nat):ht (mkRat n d)≤max (wl n) (max (wl (d:Int)) 1):=by
 rw[←Rat.divInt_ofNat];exact Hh n d
theorem FB(a:Rat):ht (-a)=ht a:=by
 unfold ht
 rw[Rat.neg_num,kt,Rat.neg_den]
theorem l9(a b:Rat):ht (a*b)≤ht a+ht b:=by
 rw[Rat.mul_def']
 have h1:=DI (a.num*b.num) (a.den*b.den)
 have h2:=iq a.num b.num
 have h3:=iq (a.den:Int) (b.den:Int)
 have h4:=gn a
 have h5:=ir a
 have h6:=gn b
 have h7:=ir b
 have h8:=Js a
 rw[←Int.natCast_mul] at h3
 omega
theorem Jt(a b:Rat):ht (a+b)≤ht a+ht b+1:=by
 rw[Rat.add_def']
 have h1:=DI (a.num*b.den+b.num*a.den) (a.den*b.den)
 have h2:=iq a.num b.den
 have h3:=iq b.num a.den
 have h9:=Cq (a.num*b.den) (b.num*a.den)
 have bg:=iq (a.den:Int) (b.den:Int)
 have h4:=gn a
 have h5:=ir a
 have h6:=gn b
 have h7:=ir b
 have h8:=Js a
 rw[←Int.natCast_mul] at bg
 omega
theorem ug(a b:Rat):ht (a-b)≤ht a+ht b+1:=by
 rw[Rat.sub_eq_add_neg,←FB b];exact Jt a (-b)
theorem N6(n:Int):ht (n:Rat)=max (wl n) 1:=by
 unfold ht
 rw[Rat.num_intCast,Rat.den_intCast];rfl
def iM(p q:Rat):Int:=if p<q then -1 else if p=q then 0 else 1
theorem Ju(p q:Rat):dW (p.num*q.den) (q.num*p.den)=iM p q:=by
 unfold dW iM
 have h1:=Rat.lt_iff p q
 have h2:p=q↔p.num*q.den=q.num*p.den:=by
  constructor
  ·intro h;subst h;rfl
  ·intro h
   have g1:=(Rat.le_iff p q).2 (by omega)
   have g2:=(Rat.le_iff q p).2 (by omega)
   exact Rat.le_antisymm g1 g2
 simp only[h1,h2]
theorem N7(p:Rat):p.num<0↔p<0:=by
 rw[Rat.lt_iff]
 simp
theorem DJ(p q:Rat):o8 (p-q).num=iM p q:=by
 unfold o8 dW iM
 have h1:(p-q).num<0↔p<q:=by
  rw[N7];constructor<;>intro h<;>grind
 have h2:(p-q).num=0↔p=q:=by
  rw[Rat.num_eq_zero];constructor<;>intro h<;>grind
 simp only[h1,h2]
theorem wH(p:Rat):o8 p.num=iM p 0:=by
 have:=DJ p 0
 rwa[show p-0=p from by grind] at this
theorem Gn{p q:Rat} : iM p q=0↔p=q:=by
 unfold iM;split
 ·rename_i h;constructor
  ·intro h;cases h
  ·intro e;subst e;exact absurd h (Rat.lt_irrefl)
 ·split
  ·simp_all
  ·simp_all
theorem ke{p q:Rat} : 0<iM p q↔q<p:=by
 unfold iM;split
 ·rename_i h;constructor
  ·intro h;cases h
  ·intro e;grind
 ·split
  ·rename_i h1 h;subst h;simp[Rat.lt_irrefl]
  ·rename_i h1 h2
   constructor
   ·intro _;grind
   ·intro _;decide
theorem Cu{n d:Int}(hd:0<d)(g:Nat)(hg:g=Nat.gcd n.natAbs d.natAbs):(Rat.divInt n d).num=n/(g:Int)∧((Rat.divInt n d).den:Int)=d/(g:Int):=by
 have e:d.gcd n=g:=by rw[hg,Nat.gcd_comm];rfl
 refine⟨?_,?_⟩
 ·rw[Rat.num_divInt,e,Int.sign_eq_one_of_pos hd,Int.one_mul]
 ·rw[Rat.den_divInt,if_neg (by omega),e,Int.natCast_ediv,Int.natAbs_of_nonneg (by omega)]
end Go.Proofs.YtfjfekodeplcoaaGreat.Sym
namespace Go.Proofs.YtfjfekodeplcoaaGreat.Sym
open Go
set_option linter.unusedVariables false
def nth{α:Type}(xs:List α)(i:Int):Option α:=if 0≤i then xs[i.toNat]? else none
theorem o9{α:Type}(xs:List α)(k:Nat):nth xs (k:Int)=xs[k]? := by
 unfold nth;rw[if_pos (Int.natCast_nonneg k),Int.toNat_natCast]
theorem dg{α:Type}{xs:List α}{i:Int}{x:α}(h:nth xs i=some x):∃k:Nat,i=(k:Int)∧xs[k]? = some x:=by
 unfold nth at h
 split at h
 ·rename_i h0;exact⟨i.toNat,(Int.toNat_of_nonneg h0).symm,h⟩
 ·cases h
theorem zZ{α:Type}{xs:List α}{i:Int} : nth xs i=none↔¬(0≤i∧i<(xs.length:Int)):=by
 unfold nth
 split
 ·rw[List.getElem?_eq_none_iff];omega
 ·simp;omega
theorem FC{α:Type}{xs:List α}{i:Int} : (∃x,nth xs i=some x)↔(0≤i∧i<(xs.length:Int)):=by
 cases h:nth xs i with
 |none=>rw[zZ] at h;simp only[reduceCtorEq,exists_false,false_iff];exact h
 |some x =>
  have:¬nth xs i=none:=by rw[h];simp
  rw[zZ] at this
  simp only[Option.some.injEq,exists_eq',true_iff];omega
theorem pc{α:Type}{xs:List α}{i:Int}{x:α}(h:nth xs i=some x):x∈xs:=by
 obtain⟨k,_,h⟩:=dg h;exact List.mem_of_getElem? h
def gM(c:Nat):Bool:=decide (97≤c∧c≤122)||decide (65≤c∧c≤90)
def lS(c:Nat):Bool:=gM c||decide (48≤c∧c≤57)||decide (c=95)
def ng:List Nat→Nat
 |[]=>0
 |b::t=>bif gM b then 1+(t.takeWhile lS).length else 0
def dQ(s:ByteArray):Bool:=decide (0<ng (s.data.toList.map UInt8.toNat)∧ng (s.data.toList.map UInt8.toNat)=s.size∧ng (s.data.toList.map UInt8.toNat)≤24)
def scan(f:Nat→Int):Nat→Nat→Int
 |0,_=>0
 |n+1,i=>if f i=0 then scan f n (i+1) else f i
theorem wI{f:Nat→Int} : ∀{n i:Nat},scan f n i=0↔∀k,k<n→f (i+k)=0
 |0,i=>by simp[scan]
 |n+1,i=>by
  unfold scan
  constructor
  ·intro h k hk
   split at h
   ·rename_i h0
    cases k with
    |zero=>exact h0
    |succ k=>have:=wI.1 h k (by omega);rw[show i+(k+1)=i+1+k by omega];exact this
   ·rename_i h0;exact absurd h h0
  ·intro h
   have h0:f i=0:=h 0 (by omega)
   rw[if_pos h0,wI]
   intro k hk
   rw[show i+1+k=i+(k+1) by omega];exact h (k+1) (by omega)
def Bo(ms:List ai)(k:Nat):Int :=
 match ms[k]? with
 |none=>0
 |some m=>if dQ m.name=false then 5 else if (ms.take k).any (fun x=>decide (x.name=m.name))=true then 6 else if m.x.valid=true∧m.y.valid=true then 0 else 3
def jQ(ms:List ai):Int:=if 8<ms.length then 4 else scan (Bo ms) ms.length 0
def Bp(bs:List ah)(k:Nat):Int :=
 match bs[k]? with
 |none=>0
 |some b=>if dQ b.name=false then 5 else if (bs.take k).any (fun x=>decide (x.name=b.name))=true then 6 else jQ b.points
def nE(bs:List ah):Int:=scan (Bp bs) bs.length 0
def jE(l:aj)(j:ak):Int :=
 if j.kind≠0∧j.kind≠1 then 7 else
  match nth l.ab j.a,nth l.ab j.b with
  |some A,some B=>if j.a=j.b then 13 else
   match nth A.points j.dx,nth B.points j.ou with
   |some _,some p=>if j.kind=0 then (if j.mR≠0 then 2 else 0) else
    match nth B.points j.mR with
    |some q=>if iM p.x.val q.x.val=0∧iM p.y.val q.y.val=0 then 8 else 0
    |none=>9
   |_,_=>9
  |_,_=>9
def pC(l:aj)(k:Nat):Int :=
 match l.aq[k]? with
 |none=>0
 |some j=>if dQ j.name=false then 5 else if (l.aq.take k).any (fun x=>decide (x.name=j.name))=true then 6 else jE l j
def dE(l:aj)(k:Nat)(d:ag):Int :=
 match nth l.ab d.body with
 |none=>9
 |some _=>if d.body=0 then 7 else if (l.an.take k).any (fun x=>decide (x.body=d.body))=true then 6 else 0
def nG(l:aj)(k:Nat):Int :=
 match l.an[k]? with
 |none=>0
 |some d=>if dQ d.name=false then 5 else if (l.an.take k).any (fun x=>decide (x.name=d.name))=true then 6 else dE l k d
def pd(l:aj):Int:=if 16<l.aq.length then 4 else scan (pC l) l.aq.length 0
def oi(l:aj):Int:=if 2<l.an.length then 4 else scan (nG l) l.an.length 0
def sZ(l:aj):Int :=
 if dQ l.name=false then 5 else if l.ab.length=0 then 10 else if 8<l.ab.length then 4 else
  if nE l.ab≠0 then nE l.ab else if pd l≠0 then pd l else oi l
structure Qf (ms:List ai):Prop where
 len:ms.length≤8
 nodup:(ms.map ai.name).Nodup
 all:∀m∈ms,dQ m.name=true∧m.x.valid=true∧m.y.valid=true
def QV(l:aj)(j:ak):Prop :=
 ∃A B P Q,nth l.ab j.a=some A∧nth l.ab j.b=some B∧j.a≠j.b∧nth A.points j.dx=some P∧nth B.points j.ou=some Q ∧
  (j.kind=0∧j.mR=0∨j.kind=1∧∃R,nth B.points j.mR=some R∧¬(iM Q.x.val R.x.val=0∧iM Q.y.val R.y.val=0))
structure Ok (l:aj):Prop where
 name:dQ l.name=true
 pos:0<l.ab.length
 len:l.ab.length≤8
 ab:∀b∈l.ab,dQ b.name=true∧Qf b.points
 bn:(l.ab.map ah.name).Nodup
 jl:l.aq.length≤16
 aq:∀j∈l.aq,dQ j.name=true∧QV l j
 jn:(l.aq.map ak.name).Nodup
 dl:l.an.length≤2
 an:∀d∈l.an,dQ d.name=true∧(∃b,nth l.ab d.body=some b)∧d.body≠0
 dn:(l.an.map ag.name).Nodup
 db:(l.an.map ag.body).Nodup
theorem dD{α β:Type}[DecidableEq β](f:α→β)(xs:List α):(xs.map f).Nodup↔∀k x,xs[k]? = some x→(xs.take k).any (fun y=>decide (f y=f x))=false:=by
 constructor
 ·intro h k x hk
  rw[List.any_eq_false]
  intro y hy
  obtain⟨i,hi,e⟩:=List.getElem_of_mem hy
  have Kh:i<k:=by rw[List.length_take] at hi;omega
  have wT:=(List.getElem?_eq_some_iff.1 hk).1
  have:=List.pairwise_iff_getElem.1 (List.pairwise_map.1 h) i k (by omega) wT Kh
  rw[List.getElem_take] at e
  rw[(List.getElem?_eq_some_iff.1 hk).2,e] at this
  simpa using this
 ·intro h
  refine List.pairwise_map.2 (List.pairwise_iff_getElem.2 fun i j hi hj xN => ?_)
  have:=h j xs[j] (List.getElem?_eq_getElem hj)
  rw[List.any_eq_false] at this
  have:=this xs[i] (List.mem_of_getElem? (i:=i) (by rw[List.getElem?_take,if_pos xN,List.getElem?_eq_getElem hi]))
  simpa using this
theorem Bq{p:Prop}[Decidable p]{a b:Int}(ha:a≠0):(if p then a else b)=0↔¬p∧b=0:=by
 split
 ·rename_i h;simp[h,ha]
 ·rename_i h;simp[h]
theorem Gp{α:Type}{f:Nat→Int}{xs:List α}{Q:Nat→α→Prop}(hf:∀k x,xs[k]? = some x→(f k=0↔Q k x)):scan f xs.length 0=0↔∀k x,xs[k]? = some x→Q k x:=by
 rw[wI]
 constructor
 ·intro h k x hk
  have:=h k (List.getElem?_eq_some_iff.1 hk).1
  rw[Nat.zero_add] at this
  exact(hf k x hk).1 this
 ·intro h k hk
  rw[Nat.zero_add]
  have:=List.getElem?_eq_getElem hk
  exact(hf k _ this).2 (h k _ this)
theorem yg{α:Type}{xs:List α}{Q:α→Prop} : (∀(k:Nat) x,xs[k]? = some x→Q x)↔∀x∈xs,Q x:=by
 constructor
 ·intro h x hx
  obtain⟨k,hk,e⟩:=List.getElem_of_mem hx
  exact h k x (by rw[List.getElem?_eq_getElem hk,e])
 ·exact fun h k x hk=>h x (List.mem_of_getElem? hk)
theorem Cv {ms : List ai} : jQ ms = 0 ↔ Qf ms := by
  unfold jQ
  rw [Bq (by decide), Gp (Q := fun k m => dQ m.name = true ∧ (ms.take k).any (fun x => decide (x.name = m.name)) = false ∧ m.x.valid = true ∧ m.y.valid = true)
    (fun k m hk => by unfold Bo; rw [hk]; simp only [Bq (show (5 : Int) ≠ 0 by decide), Bq (show (6 : Int) ≠ 0 by decide), Bool.not_eq_false, Bool.not_eq_true]
                      by_cases h : m.x.valid = true ∧ m.y.valid = true <;> simp [h])]
  constructor
  · rintro ⟨h1, h2⟩
    exact ⟨by omega, (dD _ _).2 fun k x hk => (h2 k x hk).2.1, yg.1 fun k x hk => ⟨(h2 k x hk).1, (h2 k x hk).2.2⟩⟩
  · intro h
    exact ⟨by have := h.len; omega, fun k x hk => ⟨(h.all x (List.mem_of_getElem? hk)).1, (dD _ _).1 h.nodup k x hk, (h.all x (List.mem_of_getElem? hk)).2⟩⟩
theorem Cw{bs:List ah} : nE bs=0↔(bs.map ah.name).Nodup∧∀b∈bs,dQ b.name=true∧Qf b.points:=by
 unfold nE
 rw[Gp (Q:=fun k b=>dQ b.name=true∧(bs.take k).any (fun x=>decide (x.name=b.name))=false∧Qf b.points)
  (fun k m hk=>by unfold Bp;rw[hk];simp only[Bq (show (5:Int)≠0 by decide),Bq (show (6:Int)≠0 by decide),Bool.not_eq_false,Bool.not_eq_true,Cv])]
 constructor
 ·intro h2
  exact⟨(dD _ _).2 fun k x hk=>(h2 k x hk).2.1,yg.1 fun k x hk=>⟨(h2 k x hk).1,(h2 k x hk).2.2⟩⟩
 ·intro h k x hk
  exact⟨(h.2 x (List.mem_of_getElem? hk)).1,(dD _ _).1 h.1 k x hk,(h.2 x (List.mem_of_getElem? hk)).2⟩
theorem Lj{l:aj}{j:ak} : jE l j=0↔QV l j:=by
 constructor
 ·intro h
  unfold jE at h
  rw[Bq (by decide)] at h
  obtain⟨hk,h⟩:=h
  split at h
  ·rename_i A B hA hB
   rw[Bq (by decide)] at h
   obtain⟨lE,h⟩:=h
   split at h
   ·rename_i P Q hP hQ
    refine⟨A,B,P,Q,hA,hB,lE,hP,hQ,?_⟩
    split at h
    ·rename_i h0
     rw[Bq (by decide)] at h
     exact .inl ⟨h0,by omega⟩
    ·rename_i h0
     split at h
     ·rename_i R hR
      rw[Bq (by decide)] at h
      exact .inr ⟨by omega,R,hR,h.1⟩
     ·cases h
   ·cases h
  ·cases h
 ·rintro ⟨A,B,P,Q,hA,hB,lE,hP,hQ,h⟩
  unfold jE
  rcases h with ⟨h1,h2⟩|⟨h1,R,hR,h2⟩
  ·rw[if_neg (by omega)]
   simp only[hA,hB,hP,hQ,if_neg lE,h1,h2]
   rfl
  ·rw[if_neg (by omega)]
   simp only[hA,hB,hP,hQ,if_neg lE,h1,hR,if_neg h2]
   rfl
theorem Cx{l:aj} : pd l=0↔l.aq.length≤16∧(l.aq.map ak.name).Nodup∧∀j∈l.aq,dQ j.name=true∧QV l j:=by
 unfold pd
 rw[Bq (by decide),Gp (Q:=fun k j=>dQ j.name=true∧(l.aq.take k).any (fun x=>decide (x.name=j.name))=false∧QV l j)
  (fun k m hk=>by unfold pC;rw[hk];simp only[Bq (show (5:Int)≠0 by decide),Bq (show (6:Int)≠0 by decide),Bool.not_eq_false,Bool.not_eq_true,Lj])]
 constructor
 ·rintro ⟨h1,h2⟩
  exact⟨by omega,(dD _ _).2 fun k x hk=>(h2 k x hk).2.1,yg.1 fun k x hk=>⟨(h2 k x hk).1,(h2 k x hk).2.2⟩⟩
 ·rintro ⟨h1,h2,h3⟩
  exact⟨by omega,fun k x hk=>⟨(h3 x (List.mem_of_getElem? hk)).1,(dD _ _).1 h2 k x hk,(h3 x (List.mem_of_getElem? hk)).2⟩⟩
theorem AP{l:aj} : oi l=0↔l.an.length≤2∧(l.an.map ag.name).Nodup∧(l.an.map ag.body).Nodup∧∀d∈l.an,dQ d.name=true∧(∃b,nth l.ab d.body=some b)∧d.body≠0:=by
 unfold oi
 rw[Bq (by decide),Gp (Q:=fun k d=>dQ d.name=true∧(l.an.take k).any (fun x=>decide (x.name=d.name))=false∧(∃b,nth l.ab d.body=some b)∧d.body≠0∧(l.an.take k).any (fun x=>decide (x.body=d.body))=false)
  (fun k m hk=>by
   unfold nG;rw[hk];simp only[Bq (show (5:Int)≠0 by decide),Bq (show (6:Int)≠0 by decide),Bool.not_eq_false,Bool.not_eq_true]
   unfold dE
   cases nth l.ab m.body with
   |none=>simp
   |some b=>simp only[Bq (show (7:Int)≠0 by decide),Bq (show (6:Int)≠0 by decide),Bool.not_eq_true,Option.some.injEq,exists_eq',true_and,and_true,ne_eq])]
 constructor
 ·rintro ⟨h1,h2⟩
  exact⟨by omega,(dD _ _).2 fun k x hk=>(h2 k x hk).2.1,(dD _ _).2 fun k x hk=>(h2 k x hk).2.2.2.2,yg.1 fun k x hk=>⟨(h2 k x hk).1,(h2 k x hk).2.2.1,(h2 k x hk).2.2.2.1⟩⟩
 ·rintro ⟨h1,h2,h3,h4⟩
  exact⟨by omega,fun k x hk=>⟨(h4 x (List.mem_of_getElem? hk)).1,(dD _ _).1 h2 k x hk,(h4 x (List.mem_of_getElem? hk)).2.1,(h4 x (List.mem_of_getElem? hk)).2.2,(dD _ _).1 h3 k x hk⟩⟩
theorem kJ{l:aj} : sZ l=0↔Ok l:=by
 unfold sZ
 rw[Bq (by decide),Bq (by decide),Bq (by decide)]
 have e:∀(x y z:Int),(if x≠0 then x else if y≠0 then y else z)=0↔x=0∧y=0∧z=0:=by
  intro x y z
  by_cases hx:x=0<;>by_cases hy:y=0<;>simp[hx,hy]
 rw[e,Cw,Cx,AP]
 constructor
 ·rintro ⟨h1,h2,h3,⟨h4,h5⟩,⟨h6,h7,h8⟩,h9,bg,cR,cw⟩
  exact⟨by simpa using h1,by omega,by omega,h5,h4,h6,h8,h7,h9,cw,bg,cR⟩
 ·intro h
  exact⟨by rw[h.name];simp,by have:=h.pos;omega,by have:=h.len;omega,⟨h.bn,h.ab⟩,⟨h.jl,h.jn,h.aq⟩,h.dl,h.dn,h.db,h.an⟩
def DK(b:ah)(k:Int):Int:=match nth b.points k with
 |some p=>(rk ai.name b.points p.name:Int)
 |none=>0
def rB(l:aj)(i:Int):Int:=if i=0 then 0 else match nth l.ab i with
 |some b=>1+(rk ah.name (l.ab.drop 1) b.name:Int)
 |none=>0
def nb(b:ah):ah:=⟨b.name,gg ai.name b.points⟩
def DL(l:aj)(i k:Int):Int:=match nth l.ab i with
 |some b=>DK b k
 |none=>0
def Jv(j:ak)(A P B Q:Int):ak:=if B<A then ⟨j.name,j.kind,B,Q,A,P,j.mR⟩ else ⟨j.name,j.kind,A,P,B,Q,j.mR⟩
def jN(l:aj)(j:ak):ak :=
 if j.kind=1 then ⟨j.name,j.kind,rB l j.a,DL l j.a j.dx,rB l j.b,min (DL l j.b j.ou) (DL l j.b j.mR),max (DL l j.b j.ou) (DL l j.b j.mR)⟩
 else Jv j (rB l j.a) (DL l j.a j.dx) (rB l j.b) (DL l j.b j.ou)
def dN(l:aj)(d:ag):ag:=⟨d.name,rB l d.body⟩
def mT:List ah→List ah
 |[]=>[]
 |b::t=>nb b::gg ah.name (t.map nb)
def vp(l:aj):aj:=⟨l.name,mT l.ab,gg ak.name (l.aq.map (jN l)),gg ag.name (l.an.map (dN l))⟩
theorem Gq(b:ah):(nb b).name=b.name:=rfl
theorem Lk(l:aj)(j:ak):(jN l j).name=j.name:=by
 unfold jN Jv;split
 ·rfl
 ·split<;>rfl
theorem DM(l:aj)(js:List ak):(js.map (jN l)).map ak.name=js.map ak.name:=by
 rw[List.map_map];exact List.map_congr_left fun j _=>Lk l j
theorem DN(l:aj)(ds:List ag):(ds.map (dN l)).map ag.name=ds.map ag.name:=by
 rw[List.map_map];rfl
theorem xh(bs:List ah):(bs.map nb).map ah.name=bs.map ah.name:=by
 rw[List.map_map];rfl
theorem DO:∀(bs:List ah),(mT bs).Perm (bs.map nb)
 |[] => .refl _
 |b::t=>(jy _).cons _
theorem z6(bs:List ah):(mT bs).length=bs.length:=by rw[(DO bs).length_eq,List.length_map]
theorem Br{α β:Type}{f:α→β}{xs:List α}(hn:(xs.map f).Nodup){i k:Nat}{x y:α}(h1:xs[i]? = some x)(h2:xs[k]? = some y)(h:f x=f y):i=k:=by
 have hp:=List.pairwise_iff_getElem.1 (List.pairwise_map.1 hn)
 obtain⟨g1,e1⟩:=List.getElem?_eq_some_iff.1 h1
 obtain⟨g2,e2⟩:=List.getElem?_eq_some_iff.1 h2
 rcases Nat.lt_trichotomy i k with h3|h3|h3
 ·exact absurd (by rw[e1,e2];exact h) (hp i k g1 g2 h3)
 ·exact h3
 ·exact absurd (by rw[e1,e2];exact h.symm) (hp k i g2 g1 h3)
theorem Jw{bs:List ah}(hn:(bs.map ah.name).Nodup){i:Int}{b:ah}{nm:ByteArray}{js ds}(h:nth bs i=some b):nth (mT bs) (rB ⟨nm,bs,js,ds⟩ i)=some (nb b):=by
 obtain⟨k,rfl,hk⟩:=dg h
 cases bs with
 |nil=>cases hk
 |cons f t =>
  unfold rB
  cases k with
  |zero =>
   injection hk with hk;subst hk
   rfl
  |succ k =>
   have hk:t[k]? = some b:=hk
   rw[if_neg (by omega),h]
   show nth (mT (f::t)) (1+(rk ah.name t b.name:Int))=_
   rw[show (1+(rk ah.name t b.name:Int))=((rk ah.name t b.name+1:Nat):Int) by omega,o9]
   show(gg ah.name (t.map nb))[rk ah.name t b.name]? = _
   have Dj:((t.map nb).map ah.name).Nodup:=by rw[xh];exact(List.nodup_cons.1 hn).2
   have:=vj Dj (List.mem_map_of_mem (f:=nb) (List.mem_of_getElem? hk))
   rw[zU nb Gq] at this
   exact this
theorem Jx{l:aj}{i:Int}{b:ah}(h:nth l.ab i=some b)(h0:i≠0):rB l i≠0:=by
 unfold rB;rw[if_neg h0,h];show 1+(rk ah.name (l.ab.drop 1) b.name:Int)≠0;omega
theorem DP(l:aj):rB l 0=0:=rfl
theorem Ll{l:aj}(hn:(l.ab.map ah.name).Nodup){i k:Int}{b c:ah}(h1:nth l.ab i=some b)(h2:nth l.ab k=some c)(h:rB l i=rB l k):i=k:=by
 by_cases hi:i=0
 ·by_cases hk:k=0
  ·omega
  ·subst hi;rw[DP] at h;exact absurd h.symm (Jx h2 hk)
 ·by_cases hk:k=0
  ·subst hk;rw[DP] at h;exact absurd h (Jx h1 hi)
  ·obtain⟨i,rfl,Ox⟩:=dg h1
   obtain⟨k,rfl,Oy⟩:=dg h2
   unfold rB at h
   rw[if_neg hi,if_neg hk,h1,h2] at h
   have h:rk ah.name (l.ab.drop 1) b.name=rk ah.name (l.ab.drop 1) c.name:=by
    have h:1+(rk ah.name (l.ab.drop 1) b.name:Int)=1+(rk ah.name (l.ab.drop 1) c.name:Int):=h
    omega
   have m1:b∈l.ab.drop 1:=List.mem_of_getElem? (i:=i-1) (by rw[List.getElem?_drop,show 1+(i-1)=i by omega];exact Ox)
   have m2:c∈l.ab.drop 1:=List.mem_of_getElem? (i:=k-1) (by rw[List.getElem?_drop,show 1+(k-1)=k by omega];exact Oy)
   have hd:((l.ab.drop 1).map ah.name).Nodup:=by rw[List.map_drop];exact hn.sublist (List.drop_sublist 1 _)
   have e:=I9 hd m1 m2 h
   subst e
   have:=Br hn Ox Oy rfl
   omega
section
variable {l:aj} (hl:Ok l)
include hl
end
end Go.Proofs.YtfjfekodeplcoaaGreat.Sym
namespace Go.Proofs.YtfjfekodeplcoaaGreat.Sym
open Go Path
set_option linter.unusedVariables false
abbrev uh(s:ByteArray):List Nat:=s.data.toList.map UInt8.toNat
theorem yh(s:ByteArray):(uh s).length=s.size:=by rw[List.length_map,Array.length_toList];rfl
theorem Cy{s:ByteArray}{i:Nat}(h:i<s.size):∃b:Nat,(s.data.toList[i]?).map (fun b=>(b.toNat:Int))=some (b:Int)∧(uh s).drop i=b::(uh s).drop (i+1):=by
 have hl:i<s.data.toList.length:=by rw[Array.length_toList];exact h
 refine⟨s.data.toList[i].toNat,by rw[List.getElem?_eq_getElem hl];rfl,?_⟩
 rw[List.drop_eq_getElem_cons (by rw[yh];exact h),List.getElem_map]
theorem Gr{s:ByteArray}{i:Nat}(h:s.size≤i):(uh s).drop i=[]:=List.drop_eq_nil_of_le (by rw[yh];exact h)
theorem z7(b:Nat)(t:List Nat):ng (b::t)=bif gM b then 1+(t.takeWhile lS).length else 0:=rfl
namespace fF
theorem z8(c:Nat):Cp 136 [.int .u8 (c:Int)] (vB (gM c)):=by
 by_cases h1:97≤c
 ·by_cases h2:c≤122
  ·rw[show gM c=true by simp[gM];omega];exact lv.e0 c h1 h2
  ·rw[show gM c=decide ((c:Int)≤90) by rw[Bool.eq_iff_iff];simp[gM];omega];exact lv.e1 c h1 (by omega) (by omega)
 ·by_cases h3:65≤c
  ·rw[show gM c=decide ((c:Int)≤90) by rw[Bool.eq_iff_iff];simp[gM];omega];exact lv.e3 c (by omega) h3
  ·rw[show gM c=false by simp[gM];omega];exact lv.e4 c (by omega) (by omega)
theorem digit(c:Nat):Cp 155 [.int .u8 (c:Int)] (vB (decide (48≤c∧c≤57))):=by
 by_cases h1:48≤c
 ·rw[show decide (48≤c∧c≤57)=decide ((c:Int)≤57) by rw[Bool.eq_iff_iff];simp;omega];exact r9.e0 c h1
 ·rw[show decide (48≤c∧c≤57)=false by simp;omega];exact r9.e1 c (by omega)
theorem part(c:Nat):Cp 137 [.int .u8 (c:Int)] (vB (lS c)):=by
 unfold lS
 cases h1:gM c with
 |true=>exact qL.e0 c _ (z8 c) h1
 |false =>
  cases h2:decide (48≤c∧c≤57) with
  |true=>exact qL.e1 c _ _ (z8 c) h1 (digit c) h2
  |false =>
   rw[Bool.false_or,Bool.false_or,show decide (c=95)=((c:Int)==95) by rw[Bool.eq_iff_iff];simp;omega]
   exact qL.e2 c _ _ (z8 c) h1 (digit c) h2
theorem loop(s:ByteArray)(hs:s.size<9223372036854775808):∀(n i:Nat),s.size-i≤n→i≤s.size→jw.au s i (vI ((i+(((uh s).drop i).takeWhile lS).length:Nat):Int))
 |n,i,hn,hi=>by
  by_cases h:i<s.size
  ·obtain⟨b,h1,h2⟩:=Cy h
   rw[h2]
   cases hp:lS b with
   |true =>
    rw[List.takeWhile_cons_of_pos hp]
    cases n with
    |zero=>omega
    |succ n =>
     have:=loop s hs n (i+1) (by omega) (by omega)
     rw[show i+(b::((uh s).drop (i+1)).takeWhile lS).length=i+1+(((uh s).drop (i+1)).takeWhile lS).length by rw[List.length_cons];omega]
     exact jw.eo s i b _ h h1 (part b) hp (by omega) this
   |false =>
    rw[List.takeWhile_cons_of_neg (by rw[hp];simp)]
    exact jw.ew s i b _ h h1 (part b) hp
  ·rw[Gr (by omega)]
   exact jw.nr s i (by omega)
theorem Bs(s:ByteArray):s=ByteArray.mk #[]↔s.size=0:=by
 constructor
 ·rintro rfl;rfl
 ·intro h
  have:s.data.size=0:=h
  exact ByteArray.ext (Array.eq_empty_of_size_eq_zero this)
theorem word(s:ByteArray)(hs:s.size<9223372036854775808):Cp 96 [.str s] (vI (ng (uh s):Int)):=by
 by_cases h0:s.size=0
 ·have e:uh s=[]:=List.length_eq_zero_iff.1 (by rw[yh];exact h0)
  rw[e]
  exact jw.e0 s ((Bs s).2 h0)
 ·obtain⟨b,h1,h2⟩:=Cy (s:=s) (i:=0) (by omega)
  have h2:uh s=b::(uh s).drop 1:=h2
  have iO:s≠ByteArray.mk #[]:=fun e=>h0 ((Bs s).1 e)
  rw[h2]
  cases hp:gM b with
  |true =>
   show fG bp _ _ (vI ((bif gM b then 1+(((uh s).drop 1).takeWhile lS).length else 0:Nat):Int))
   rw[hp]
   exact jw.e2 s b _ iO h1 (z8 b) hp (loop s hs s.size 1 (by omega) (by omega))
  |false =>
   show fG bp _ _ (vI ((bif gM b then 1+(((uh s).drop 1).takeWhile lS).length else 0:Nat):Int))
   rw[hp]
   exact jw.e1 s b _ iO h1 (z8 b) hp
theorem Name(s:ByteArray)(hs:s.size<9223372036854775808):Cp 53 [.str s] (vB (dQ s)):=by
 have e:dQ s=decide (0<ng (uh s)∧ng (uh s)=s.size∧ng (uh s)≤24):=rfl
 have hw:=word s hs
 rw[e]
 generalize ng (uh s)=w at hw
 by_cases h1:0<(w:Int)
 ·by_cases h2:(w:Int)=(s.size:Int)
  ·rw[show decide (0<w∧w=s.size∧w≤24)=decide ((w:Int)≤24) by rw[Bool.eq_iff_iff,decide_eq_true_iff,decide_eq_true_iff];omega]
   exact qM.e0 s _ hw h1 h2
  ·rw[show decide (0<w∧w=s.size∧w≤24)=false from decide_eq_false (by omega)]
   exact qM.e1 s _ hw h1 h2
 ·rw[show decide (0<w∧w=s.size∧w≤24)=false from decide_eq_false (by omega)]
  exact qM.e2 s _ hw (by omega)
end fF
namespace HA
theorem mH(c:Nat):Cp 122 [.int .u8 (c:Int)] (vB (gM c)):=by
 by_cases h1:65≤c
 ·by_cases h2:c≤90
  ·rw[show gM c=true by simp[gM];omega];exact ea.e0 c h1 h2
  ·by_cases h3:97≤c
   ·rw[show gM c=decide ((c:Int)≤122) by rw[Bool.eq_iff_iff];simp[gM];omega];exact ea.e1 c h1 (by omega) h3
   ·rw[show gM c=false by simp[gM];omega];exact ea.e2 c h1 (by omega) (by omega)
 ·rw[show gM c=false by simp[gM];omega];exact ea.e4 c (by omega) (by omega)
theorem isDigit(c:Nat):Cp 124 [.int .u8 (c:Int)] (vB (decide (48≤c∧c≤57))):=by
 by_cases h1:48≤c
 ·rw[show decide (48≤c∧c≤57)=decide ((c:Int)≤57) by rw[Bool.eq_iff_iff];simp;omega];exact iL.e0 c h1
 ·rw[show decide (48≤c∧c≤57)=false by simp;omega];exact iL.e1 c (by omega)
theorem loop(s:ByteArray)(hs:s.size<9223372036854775807):∀(n i:Nat),s.size-i≤n→i≤s.size→b7.au s (i:Int) (vI ((i+(((uh s).drop i).takeWhile lS).length:Nat):Int))
 |n,i,hn,hi=>by
  by_cases h:i<s.size
  ·obtain⟨b,h1,h2⟩:=Cy h
   have ha:Cp 123 [.str s,vI (i:Int)] (.int .u8 (b:Int)):=gI.e0 s i i b (by omega) rfl h1
   rw[h2]
   cases hp:lS b with
   |true =>
    rw[List.takeWhile_cons_of_pos hp]
    cases n with
    |zero=>omega
    |succ n =>
     have:=loop s hs n (i+1) (by omega) (by omega)
     rw[show i+(b::((uh s).drop (i+1)).takeWhile lS).length=i+1+(((uh s).drop (i+1)).takeWhile lS).length by rw[List.length_cons];omega]
     have Qx:aO ((i:Int)+1):=by unfold aO;omega
     unfold lS at hp
     cases h3:gM b with
     |true=>exact b7.eo s i b _ ha (mH b) h3 Qx this
     |false =>
      cases h4:decide (48≤b∧b≤57) with
      |true=>exact b7.ew s i b _ b _ ha (mH b) h3 ha (isDigit b) h4 Qx this
      |false=>exact b7.nr s i b _ b _ b ha (mH b) h3 ha (isDigit b) h4 ha (by rw[h3,h4] at hp;simpa using hp) Qx this
   |false =>
    rw[List.takeWhile_cons_of_neg (by rw[hp];simp)]
    unfold lS at hp
    rw[Bool.or_eq_false_iff,Bool.or_eq_false_iff] at hp
    exact b7.Bf s i b _ b _ b ha (mH b) hp.1.1 ha (isDigit b) hp.1.2 ha (by simpa using hp.2)
  ·have ha:Cp 123 [.str s,vI (i:Int)] (.int .u8 ((0:Nat):Int)):=gI.e1 s i (by omega)
   rw[Gr (by omega)]
   exact b7.Bf s i 0 _ 0 _ 0 ha (mH 0) rfl ha (isDigit 0) rfl ha (by omega)
theorem Lm(s:ByteArray)(hs:s.size<9223372036854775807):Cp 84 [.str s,vI 0] (vI (ng (uh s):Int)):=by
 by_cases h0:s.size=0
 ·have e:uh s=[]:=List.length_eq_zero_iff.1 (by rw[yh];exact h0)
  have ha:Cp 123 [.str s,vI 0] (.int .u8 ((0:Nat):Int)):=gI.e1 s 0 (by omega)
  rw[e]
  exact b7.e0 s 0 0 _ ha (mH 0) rfl
 ·obtain⟨b,h1,h2⟩:=Cy (s:=s) (i:=0) (by omega)
  have ha:Cp 123 [.str s,vI 0] (.int .u8 (b:Int)):=gI.e0 s 0 0 b (by omega) rfl h1
  have h3:uh s=b::(uh s).drop 1:=h2
  cases hp:gM b with
  |true =>
   have e:ng (uh s)=0+(((uh s).drop 0).takeWhile lS).length:=by
    rw[h2,List.takeWhile_cons_of_pos (by unfold lS;rw[hp];rfl)]
    conv=>lhs;rw[h3,z7,hp]
    rw[cond_true,List.length_cons,Nat.zero_add,Nat.zero_add];omega
   rw[e]
   exact b7.e1 s 0 b _ ha (mH b) hp (loop s hs s.size 0 (by omega) (by omega))
  |false =>
   have e:ng (uh s)=0:=by
    conv=>lhs;rw[h3,z7,hp]
    rfl
   rw[e]
   exact b7.e0 s 0 b _ ha (mH b) hp
theorem Name(s:ByteArray)(hs:s.size<9223372036854775808):Cp 39 [.str s] (vB (dQ s)):=by
 have e:dQ s=decide (0<ng (uh s)∧ng (uh s)=s.size∧ng (uh s)≤24):=rfl
 rw[e]
 have hw:=fun h=>Lm s h
 generalize ng (uh s)=w at hw
 by_cases h1:0<s.size
 ·by_cases h2:s.size≤24
  ·rw[show decide (0<w∧w=s.size∧w≤24)=((w:Int)==(s.size:Int)) by rw[Bool.eq_iff_iff,decide_eq_true_iff,beq_iff_eq];omega]
   exact ij.e0 s _ h1 h2 (hw (by omega))
  ·rw[show decide (0<w∧w=s.size∧w≤24)=false from decide_eq_false (by omega)]
   exact ij.e1 s h1 (by omega)
 ·rw[show decide (0<w∧w=s.size∧w≤24)=false from decide_eq_false (by omega)]
  exact ij.e2 s (by omega)
end HA
end Go.Proofs.YtfjfekodeplcoaaGreat.Sym
