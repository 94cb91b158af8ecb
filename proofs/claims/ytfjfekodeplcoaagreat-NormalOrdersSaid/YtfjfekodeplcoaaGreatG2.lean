/- Lemmas for the statements of this seat. -/
import Derived.Test.YtfjfekodeplcoaaGreatG1
import Derived.Test.YtfjfekodeplcoaaGreatG0
namespace Go.Proofs.YtfjfekodeplcoaaGreat.Sym
open Go Path
set_option linter.unusedVariables false
namespace wR
open fi
theorem times(a b:Words)(ha:a.length≤2199023255552)(hb:b.length≤2199023255552):Cp 134 [ae a,ae b] (ae (words (nat a*nat b))):=by
 have inner:∀(i:Nat) (v:UInt32) (r:PV),a[i]? = some v→i<a.length→(∀site:Words,site.length=a.length+b.length→nat site=nat (a.take i)*nat b+4294967296^i*(v.toNat*nat b)→(∀q,i+1+b.length≤q→q<site.length→wd site q=0)→cv.ar a b (i+1) site r) →
   ∀(j k carry:Nat) (site:Words),b.length-k=j→k≤b.length→site.length=a.length+b.length→carry<4294967296→(∀q,i+b.length≤q→q<site.length→wd site q=0) →
   nat site+4294967296^(i+k)*carry=nat (a.take i)*nat b+4294967296^i*(v.toNat*nat (b.take k))→cv.aJ a b i carry i k site r:=by
  intro i v r hv hi D3 j
  induction j with
  |zero =>
   intro k carry site hj hk hs hc hz hinv
   have Rm:k=b.length:=by omega
   subst Rm
   obtain⟨w,hw⟩:=gJ carry hc
   refine cv.nL a b i carry i b.length site w (by omega) (by omega) (by omega) (by omega) (by omega) (by omega) (D3 _ (by simpa using hs) ?_ ?_)
   ·obtain⟨u,hu⟩:∃u,site[i+b.length]? = some u:=⟨_,List.getElem?_eq_getElem (by omega)⟩
    have h0:=hz (i+b.length) (by omega) (by omega)
    rw[iK hu] at h0
    have h1:=o3 site (i+b.length) w u hu
    rw[h0,hw] at h1
    rw[aY (l:=b) (by omega)] at hinv
    omega
   ·intro q NC Dt
    rw[List.length_set] at Dt
    have:=hz q (by omega) Dt
    unfold wd at this ⊢
    rw[List.getElem?_set_ne (by omega)]
    exact this
  |succ j ih =>
   intro k carry site hj hk hs hc hz hinv
   obtain⟨u,hu⟩:∃u,b[k]? = some u:=⟨_,List.getElem?_eq_getElem (by omega)⟩
   obtain⟨x,hx⟩:∃x,site[i+k]? = some x:=⟨_,List.getElem?_eq_getElem (by omega)⟩
   have h1:=uI (iv v) (iv u)
   have h2:=iv x
   generalize hp:v.toNat*u.toNat=p at *
   obtain⟨w,hw⟩:=gJ ((carry+(p+x.toNat))%4294967296) (by omega)
   have e:(2:Nat)^min 32 64=4294967296:=by decide
   refine cv.nK a b i carry i k site v u p x (p+x.toNat) (carry+(p+x.toNat)) w ((carry+(p+x.toNat))/4294967296) (by omega) hv hu (by rw[hp];omega) (by omega) (by omega) hx (by omega) (by omega) hw.symm (by rw[e]) (by omega) (by omega) ?_
   refine ih (k+1) _ (site.set (i+k) w) (by omega) (by omega) (by simpa using hs) (by omega) ?_ ?_
   ·intro q NC Dt
    rw[List.length_set] at Dt
    have:=hz q NC Dt
    unfold wd at this ⊢
    rw[List.getElem?_set_ne (by omega)]
    exact this
   ·have g1:=o3 site (i+k) w x hx
    rw[hw] at g1
    rw[bO hu,show i+(k+1)=i+k+1 from rfl,Nat.pow_succ,Nat.mul_assoc]
    have g2:4294967296^(i+k)*((carry+(p+x.toNat))%4294967296)+4294967296^(i+k)*(4294967296*((carry+(p+x.toNat))/4294967296))=4294967296^(i+k)*carry+4294967296^(i+k)*p+4294967296^(i+k)*x.toNat:=by
     rw[←Nat.mul_add,←Nat.mul_add,←Nat.mul_add];congr 1;omega
    have g3:4294967296^i*(v.toNat*(nat (b.take k)+4294967296^k*u.toNat))=4294967296^i*(v.toNat*nat (b.take k))+4294967296^(i+k)*p:=by
     rw[←hp,Nat.pow_add,Nat.mul_add,Nat.mul_add]
     congr 1
     rw[Nat.mul_assoc];congr 1
     rw[Nat.mul_left_comm]
    omega
 have loop:∀(j t:Nat) (site:Words),a.length-t=j→t≤a.length→site.length=a.length+b.length→nat site=nat (a.take t)*nat b→(∀q,t+b.length≤q→q<site.length→wd site q=0) →
   cv.ar a b t site (ae (words (nat a*nat b))):=by
  intro j
  induction j with
  |zero =>
   intro t site hj ht hs hinv _
   rw[aY (by omega)] at hinv
   have:=cv.dD a b t site (words (nat site)) (by omega) (by omega) (trim site (by omega))
   rwa[hinv] at this
  |succ j ih =>
   intro t site hj ht hs hinv hz
   obtain⟨v,hv⟩:∃v,a[t]? = some v:=⟨_,List.getElem?_eq_getElem (by omega)⟩
   refine cv.dC a b t site (by omega) ?_
   refine inner t v _ hv (by omega) (fun Im G7 N5 Du => ?_) _ 0 0 site rfl (by omega) hs (by omega) hz ?_
   ·refine ih (t+1) Im (by omega) (by omega) G7 ?_ Du
    rw[N5,bO hv,Nat.add_mul,Nat.mul_assoc]
   ·simp[nat,hinv]
 refine cv.e0 a b (by omega) (by omega) (loop _ 0 _ rfl (by omega) (by simp) (by simp[nat,mg]) ?_)
 intro q _ hq
 unfold wd
 rw[List.getElem?_replicate]
 split
 ·rename_i w h
  split at h
  ·injection h with h;subst h;rfl
  ·cases h
 ·rfl
theorem Av(k:Nat):(4294967296:Nat)^k=2^(32*k):=by rw[Nat.pow_mul]
theorem MN{l:Words}{k:Nat}(h:l.length=k+1):nat l=nat (l.take k)+4294967296^k*wd l k:=by
 have:=dS l k
 rwa[aY (by omega)] at this
theorem bits(a:Words)(hc:cn a=true)(ha:a.length≤2199023255553):Cp 176 [ae a] (vI (blen (nat a))):=by
 by_cases h0:a.length=0
 ·have:a=[]:=List.eq_nil_of_length_eq_zero h0
  subst this
  exact dL.e0 [] rfl
 ·have loop:∀(j:Nat) (n:Int) (x:UInt32),x.toNat≤j→aK (n+j)→aK n→dL.ar n x (vI (n+blen x.toNat)):=by
   intro j
   induction j with
   |zero =>
    intro n x hx _ _
    have e:x.toNat=0:=by omega
    rw[e,sj]
    have:=dL.dD n x (by omega)
    rwa[show n+((0:Nat):Int)=n from by omega]
   |succ j ih =>
    intro n x hx hn Gg
    by_cases h:x.toNat=0
    ·rw[h,sj]
     have:=dL.dD n x (by omega)
     rwa[show n+((0:Nat):Int)=n from by omega]
    ·obtain⟨z,hz⟩:=gJ (x.toNat/2) (by have:=iv x;omega)
     have e:blen x.toNat=1+blen (x.toNat/2):=by
      have:=rS (n:=x.toNat) (k:=1)
      by_cases h1:x.toNat=1
      ·rw[h1];rfl
      ·exact this (by omega)
     unfold aK at hn Gg
     have:=ih (n+1) z (by omega) (by unfold aK;omega) (by unfold aK;omega)
     rw[hz] at this
     rw[e,show n+((1+blen (x.toNat/2):Nat):Int)=n+1+(blen (x.toNat/2):Nat) from by omega]
     exact dL.dC n x z (by omega) (by unfold aK;omega) (by rw[hz];rfl) this
  obtain⟨k,hk⟩:∃k,a.length=k+1:=⟨a.length-1,by omega⟩
  obtain⟨v,hv⟩:∃v,a[k]? = some v:=⟨_,List.getElem?_eq_getElem (by omega)⟩
  have h1:=(mo (v:=v) (by rw[hk];exact hv)).1 hc
  have h2:=ej (a.take k)
  rw[List.length_take,Nat.min_eq_left (by omega)] at h2
  have h3:=MN hk
  rw[iK hv] at h3
  have e:blen (nat a)=32*k+blen v.toNat:=by
   rw[Av] at h2 h3
   have h4:2^(32*k)≤nat a:=by
    have:=Nat.mul_le_mul_left (2^(32*k)) (show 1≤v.toNat by omega)
    omega
   rw[rS h4]
   congr 2
   rw[h3,Nat.add_mul_div_left _ _ (Nat.two_pow_pos _),Nat.div_eq_of_lt h2,Nat.zero_add]
  have hw:=iv v
  have:=loop v.toNat (32*((a.length:Int)-1)) v (Nat.le_refl _) (by unfold aK;omega) (by unfold aK;omega)
  rw[e,show((32*k+blen v.toNat:Nat):Int)=32*((a.length:Int)-1)+(blen v.toNat:Nat) from by omega]
  exact dL.e1 a k v h0 (by unfold aK;omega) (by unfold aK;omega) (by omega) hv this
theorem IB{v c:Nat}(hv:v<4294967296)(hc:c≤1):((v*2^(min 1 32))%4294967296%4294967296) ||| (c%4294967296)=(2*v)%4294967296+c:=by
 have e:(2:Nat)^min 1 32=2:=by decide
 rw[e,Nat.mod_mod,Nat.mod_eq_of_lt (show c<4294967296 by omega)]
 obtain⟨u,hu⟩:∃u,(v*2)%4294967296=2*u:=⟨(v*2)%4294967296/2,by omega⟩
 rw[hu]
 have:=Nat.two_pow_add_eq_or_of_lt (i:=1) (show c<2^1 by omega) u
 rw[show (2:Nat)^1=2 from rfl] at this
 rw[←this];omega
theorem MO{v s:Nat}(hs:s<32)(hv:v%2^(s+1)=0)(hl:v<4294967296):(v%4294967296) ||| (((1*2^(min (s%32) 32))%4294967296)%4294967296)=v+2^s:=by
 have h1:2^s<4294967296:=by
  have:=Nat.pow_lt_pow_right (a:=2) (by omega) hs
  omega
 rw[Nat.mod_eq_of_lt hs,Nat.min_eq_left (by omega),Nat.one_mul,Nat.mod_mod,Nat.mod_eq_of_lt hl,Nat.mod_eq_of_lt h1]
 have h2:v=2^(s+1)*(v/2^(s+1)):=by have:=Nat.div_add_mod v (2^(s+1));omega
 have h3:=Nat.two_pow_add_eq_or_of_lt (i:=s+1) (show 2^s<2^(s+1) by rw[Nat.pow_succ];have:=Nat.two_pow_pos s;omega) (v/2^(s+1))
 rw[←h2] at h3
 exact h3.symm
theorem IC(a:Words)(t:Nat)(ht:t≤a.length):wd a t=nat a/4294967296^t%4294967296:=by
 rw[rT a t ht,jf a t]
 have:=mG a t
 omega
theorem MP(a:Words)(t s Q:Nat)(hs:s<32)(ht:t≤a.length)(h:nat a=Q*2^(32*t+s+1)):wd a t%2^(s+1)=0:=by
 rw[IC a t ht,h,Av,show 32*t+s+1=(s+1)+32*t from by omega,Nat.pow_add,←Nat.mul_assoc,Nat.mul_div_cancel _ (Nat.two_pow_pos _)]
 have:(4294967296:Nat)=2^(s+1)*2^(32-(s+1)):=by rw[←Nat.pow_add,show s+1+(32-(s+1))=32 from by omega]
 rw[this,Nat.mod_mul_right_mod,Nat.mul_mod_left]
theorem MQ(a:Words)(k:Nat)(hk:k/32≤a.length):wd a (k/32)/2^(k%32)%2=nat a/2^k%2:=by
 rw[IC a _ hk,Av]
 have e:(4294967296:Nat)=2^(k%32)*2^(32-k%32):=by rw[←Nat.pow_add,show k%32+(32-k%32)=32 from by omega]
 have e2:(2:Nat)^(32-k%32)=2*2^(31-k%32):=by rw[show 32-k%32=(31-k%32)+1 from by omega,Nat.pow_succ,Nat.mul_comm]
 rw[e,Nat.mod_mul_right_div_self,e2,Nat.mod_mul_right_mod,Nat.div_div_eq_div_mul,←Nat.pow_add,Nat.div_add_mod]
theorem UE(a b:Words)(hb:b.length≤2199023255552):∀(i:Int) (q R:Words) (bit:Nat) (r:PV),R.length=b.length+1→nat R<nat b→bit≤1 →
  (∀(c:UInt32) (t:Nat) (U:Words),b.length+1≤t→U.length=b.length+1→nat U=2*nat R+bit→bZ.aJ a b i c t q U r) →
  ∀(j t:Nat) (c:UInt32) (U:Words),b.length+1-t=j→t≤b.length+1→U.length=b.length+1→c.toNat≤1→(∀p,t≤p→wd U p=wd R p) →
  nat (U.take t)+4294967296^t*c.toNat=2*nat (R.take t)+bit→bZ.aJ a b i c t q U r:=by
 have UF:=ej b
 have Lj:2*nat b<4294967296^(b.length+1):=by rw[Nat.pow_succ];omega
 intro i q R bit r hR VD MR D3 j
 induction j with
 |zero =>
  intro t c U hj ht hU hc gF hinv
  have zI:t=b.length+1:=by omega
  rw[←zI] at Lj
  refine D3 c _ U (by omega) hU ?_
  rw[aY (by omega),aY (by omega)] at hinv
  clear zI
  generalize 4294967296^t=P at hinv Lj
  have:c.toNat=0:=by
   refine Nat.eq_zero_of_not_pos fun hp => ?_
   have:=Nat.mul_le_mul_left P (show 1≤c.toNat from hp)
   omega
  rw[this] at hinv
  omega
 |succ j ih =>
  intro t c U hj ht hU hc gF hinv
  obtain⟨v,hv⟩:∃v,U[t]? = some v:=⟨_,List.getElem?_eq_getElem (by omega)⟩
  have Kw:=gF t (Nat.le_refl t)
  rw[iK hv] at Kw
  have xI:=iv v
  obtain⟨z,hz⟩:=gJ ((v.toNat*2^(min 1 32))%4294967296) (Nat.mod_lt _ (by omega))
  obtain⟨z1,EB⟩:=gJ ((2*v.toNat)%4294967296+c.toNat) (by omega)
  obtain⟨z2,G6⟩:=gJ (v.toNat/2147483648) (by omega)
  have UG:(2:Nat)^min 31 32=2147483648:=by decide
  refine bZ.nK a b i c t q U v z z1 z2 (by omega) hv hz.symm (by rw[hz,EB];exact IB xI hc) (by rw[UG,G6]) (by omega) (by omega) ?_
  refine ih (t+1) z2 (U.set t z1) (by omega) (by omega) (by simpa using hU) (by omega) (fun p hp=>by rw[sm (by omega)];exact gF p (by omega)) ?_
  rw[gp (by omega),dS R t,←Kw,EB,G6,Nat.pow_succ,Nat.mul_assoc]
  have h6:4294967296^t*((2*v.toNat)%4294967296+c.toNat)+4294967296^t*(4294967296*(v.toNat/2147483648))=4294967296^t*c.toNat+2*(4294967296^t*v.toNat):=by
   rw[Nat.mul_left_comm 2,←Nat.mul_add,←Nat.mul_add]
   congr 1
   omega
  omega
theorem Bx(a b:Words)(Le:cn a=true)(Dy:0<nat b)(ha:a.length≤2199023255552)(hb:b.length≤2199023255552) :
  Cp 145 [ae a,ae b] (.bh [ae (words (nat a/nat b)),ae (words (nat a%nat b))]):=by
 have loop:∀(n Q:Nat) (q R:Words),q.length=a.length→R.length=b.length+1→n≤blen (nat a)→n≤32*a.length→nat a/2^n=Q*nat b+nat R→nat R<nat b→nat q=Q*2^n →
   bZ.ar a b ((n:Int)-1) q R (.bh [ae (words (nat a/nat b)),ae (words (nat a%nat b))]):=by
  intro n
  induction n with
  |zero =>
   intro Q q R hq hR _ _ hdiv cN Li
   have h1:=trim q (by omega)
   have h2:=trim R (by omega)
   rw[Nat.pow_zero,Nat.div_one] at hdiv
   rw[Nat.pow_zero,Nat.mul_one] at Li
   have e1:nat a/nat b=nat q:=by
    rw[Li,hdiv,Nat.add_comm,Nat.add_mul_div_right _ _ Dy,Nat.div_eq_of_lt cN,Nat.zero_add]
   have e2:nat a%nat b=nat R:=by
    rw[hdiv,Nat.add_comm,Nat.add_mul_mod_self_right,Nat.mod_eq_of_lt cN]
   rw[e1,e2]
   exact bZ.dD a b _ q R _ _ (by omega) (by omega) (by omega) h1 h2
  |succ n ih =>
   intro Q q R hq hR hn zp hdiv cN Li
   have F6:n/32<a.length:=by omega
   obtain⟨v,hv⟩:∃v,a[n/32]? = some v:=⟨_,List.getElem?_eq_getElem F6⟩
   have xI:=iv v
   have hs:n%32<32:=Nat.mod_lt _ (by omega)
   obtain⟨z,hz⟩:=gJ (v.toNat/2^(n%32)) (Nat.lt_of_le_of_lt (Nat.div_le_self _ _) xI)
   obtain⟨z1,EB⟩:=gJ (nat a/2^n%2) (by omega)
   have MR:=MQ a n (by omega)
   rw[iK hv] at MR
   rw[show ((n+1:Nat):Int)-1=(n:Int) from by omega]
   refine bZ.dC a b (n:Int) q R n v n z z1 (by omega) rfl (by omega) hv rfl (by rw[Nat.min_eq_left (by omega),hz]) ?_ ?_
   ·rw[show (1:Nat)%4294967296=1 from rfl,Nat.and_one_is_mod,EB,←MR,hz]
    have:=Nat.lt_of_le_of_lt (Nat.div_le_self v.toNat (2^(n%32))) xI
    omega
   ·have Fe:nat a/2^n=2*(nat a/2^(n+1))+nat a/2^n%2:=by
     rw[Nat.pow_succ,←Nat.div_div_eq_div_mul];omega
    have rb:nat a/2^n%2≤1:=by omega
    generalize hbv:nat a/2^n%2=bit at *
    refine UE a b hb (n:Int) q R bit _ hR cN rb ?_ _ 0 z1 R rfl (by omega) hR (by omega) (fun _ _=>rfl) (by simp[nat];exact EB)
    intro c t U ht hU SX
    have vD:=IA U b (b.length+1) hU.symm (by omega) (by omega)
    by_cases vb:nat b≤nat U
    ·obtain⟨V,VE,UH,UI⟩:=take U b (b.length+1) hU.symm (by omega) vb
     obtain⟨u,hu⟩:∃u,q[n/32]? = some u:=⟨_,List.getElem?_eq_getElem (by omega)⟩
     have u5:=iv u
     have Bw:=MP q (n/32) (n%32) Q hs (by omega) (by rw[Li,show 32*(n/32)+n%32+1=n+1 from by omega])
     rw[iK hu] at Bw
     have VF:2^(n%32)<4294967296:=by
      have:=Nat.pow_lt_pow_right (a:=2) (by omega) hs
      omega
     obtain⟨z2,G6⟩:=gJ ((1*2^(min (n%32) 32))%4294967296) (Nat.mod_lt _ (by omega))
     have ND:=MO hs Bw u5
     rw[Nat.mod_eq_of_lt hs] at ND
     have hbound:u.toNat+2^(n%32)<4294967296:=by
      rw[←ND]
      exact Nat.or_lt_two_pow (n:=32) (Nat.mod_lt _ (by omega)) (Nat.mod_lt _ (by omega))
     obtain⟨z3,SY⟩:=gJ _ hbound
     refine bZ.nL a b (n:Int) c t q U U _ V n u n z2 z3 ht vD (by unfold ea;split<;>(try split)<;>omega) UI rfl (by omega) F6 hu rfl G6.symm (by rw[G6,SY];exact ND) (by omega) (by unfold aK;omega) ?_
     refine ih (2*Q+1) (q.set (n/32) z3) V (by simpa using hq) (by omega) (by omega) (by omega) ?_ ?_ ?_
     ·rw[Fe,hdiv,UH,SX,Nat.add_mul,Nat.mul_add,Nat.mul_assoc];omega
     ·omega
     ·have g:=o3 q (n/32) z3 u hu
      rw[SY,Nat.mul_add,Li,Av,←Nat.pow_add,show 32*(n/32)+n%32=n from by omega] at g
      rw[Nat.pow_succ] at g
      have:(2*Q+1)*2^n=Q*(2^n*2)+2^n:=by rw[Nat.add_mul,Nat.one_mul,Nat.mul_comm 2 Q,Nat.mul_assoc,Nat.mul_comm 2 (2^n)]
      omega
    ·refine bZ.vv a b (n:Int) c t q U U _ ht vD (by unfold ea;split<;>(try split)<;>omega) (by unfold aK;omega) ?_
     refine ih (2*Q) q U hq hU (by omega) (by omega) ?_ (by omega) ?_
     ·rw[Fe,hdiv,SX,Nat.mul_add,Nat.mul_assoc];omega
     ·rw[Li,Nat.pow_succ,Nat.mul_comm 2 Q,Nat.mul_assoc,Nat.mul_comm 2 (2^n)]
 have OQ:=bits a Le (by omega)
 have Jn:blen (nat a)≤32*a.length:=nD (by rw[←Av];exact ej a)
 refine bZ.e0 a b _ (by omega) (by omega) (by omega) OQ (by unfold aK;omega) ?_
 refine loop (blen (nat a)) 0 _ _ (by simp) (by simp) (Nat.le_refl _) Jn ?_ ?_ ?_
 ·rw[mg,Nat.div_eq_of_lt (Kl _)];simp
 ·rw[mg];exact Dy
 ·rw[mg];simp
theorem uJ{p:Nat}(hp:0<p):∃v z:UInt32,0<(words p).length∧(words p)[0]? = some v∧(v.toNat%4294967296) &&& (1%4294967296)=z.toNat∧z.toNat=p%2:=by
 have hl:0<(words p).length:=Nat.pos_of_ne_zero (by rw[Ne,dP];omega)
 obtain⟨v,hv⟩:∃v,(words p)[0]? = some v:=⟨_,List.getElem?_eq_getElem hl⟩
 obtain⟨z,hz⟩:=gJ (p%2) (by omega)
 refine⟨v,z,hl,hv,?_,hz⟩
 have h:=IC (words p) 0 (by omega)
 rw[iK hv,aF,Nat.pow_zero,Nat.div_one] at h
 rw[show (1:Nat)%4294967296=1 from rfl,Nat.and_one_is_mod,hz,h]
 omega
theorem CX{p q:Nat}(hp:p%2=0)(hq:q%2=1):Nat.gcd (p/2) q=Nat.gcd p q:=by
 have hc:Nat.Coprime 2 q:=by
  unfold Nat.Coprime
  rw[Nat.gcd_rec,hq];rfl
 have:=Nat.Coprime.gcd_mul_left_cancel (p/2) hc
 rw[←this]
 congr 1
 omega
theorem Ft{p q k:Nat}(hq:0<q)(h:(words q).length≤k):(words (Nat.gcd p q)).length≤k:=Nat.le_trans (dR (Nat.le_of_dvd hq (Nat.gcd_dvd_right p q))) h
theorem Bz(p:Nat)(hp:(words p).length≤2199023255553):aw a7 128 [.row 100000 0 (words p).length 1] [(100000,ws (words p))] (.row 100000 0 (words (p/2)).length 1) [(100000,ws (words (p/2)))]:=by
 have:=OP (words p) _ rfl hp
 rwa[aF] at this
theorem Lk(p q:Nat)(hp:(words p).length≤2199023255553)(K5:q≤p):∃U:Words,U.length=(words p).length ∧
  aw a7 130 [.row 100000 0 (words p).length 1,.row 100001 0 (words q).length 1] [(100000,ws (words p)),(100001,ws (words q))] (.pv (.bh [])) [(100000,ws U),(100001,ws (words q))] ∧
  aw a7 131 [.row 100000 0 (words p).length 1] [(100000,ws U)] (.row 100000 0 (words (p-q)).length 1) [(100000,ws (words (p-q)))]:=by
 obtain⟨U,h1,h2,h3⟩:=ON (words p) (words q) _ _ rfl rfl hp (by rw[aF,aF];exact K5)
 have hc:=cut U (by omega)
 rw[aF,aF] at h2
 rw[h2,h1] at hc
 exact⟨U,h1,h3,hc⟩
theorem gcd(a b:Words)(ha:a.length≤1099511627776)(hb:b.length≤1099511627776):Cp 90 [ae a,ae b] (ae (words (Nat.gcd (nat a) (nat b)))):=by
 have t1:=Lh a (by omega)
 have t2:=Lh b (by omega)
 have la:=yK a
 have lb:=yK b
 generalize nat a=A at *
 generalize nat b=B at *
 by_cases hA:A=0
 ·subst hA
  rw[Nat.gcd_zero_left]
  exact a8.e0 a b _ _ _ _ t1 t2 (by rw[fX];rfl) rfl
 by_cases hB:B=0
 ·subst hB
  rw[Nat.gcd_zero_right]
  exact a8.e1 a b _ _ _ _ t1 t2 (by rw[Ne,dP];exact hA) (by rw[fX];rfl) rfl
 refine a8.e2 a b _ _ _ _ t1 t2 (by rw[Ne,dP];exact hA) (by rw[Ne,dP];exact hB) ?_
 have fin:∀(j m t64 t65:Nat),t64-t65=j→t64<9223372036854775808→(words (m*2^j)).length≤1099511627776→a8.fE (words m) t64 t65 (ae (words (m*2^j))):=by
  intro j
  induction j with
  |zero =>
   intro m t64 t65 hj _ _
   rw[Nat.pow_zero,Nat.mul_one]
   exact a8.Ke _ _ _ (by omega)
  |succ j ih =>
   intro m t64 t65 hj ht hl
   have e:m*2^(j+1)=(m+m)*2^j:=by rw[Nat.pow_succ,Nat.add_mul,←Nat.mul_assoc];omega
   have hm:(words m).length≤1099511627776:=by
    refine Nat.le_trans (dR ?_) hl
    have:=Nat.mul_le_mul_left m (Nat.two_pow_pos (j+1))
    omega
   have hp:=plus (words m) (words m) (by omega) (by omega)
   rw[aF] at hp
   rw[e] at hl ⊢
   exact a8.Kd _ _ _ _ (by omega) hp (by omega) (ih (m+m) t64 (t65+1) (by omega) ht hl)
 have rounds:∀(s p q tw:Nat),p+q≤s→0<q→(words p).length≤1099511627776→(words q).length≤1099511627776→tw<9223372036854775808→(words (Nat.gcd p q*2^tw)).length≤1099511627776 →
   ((p%2=1∨q%2=1)→a8.aJ (words p).length (words q).length tw (words p) (words q) (ae (words (Nat.gcd p q*2^tw)))) ∧
   (0<p→(p%2=1∨q%2=1)→a8.cL (words p).length (words q).length tw (words p) (words q) (ae (words (Nat.gcd p q*2^tw)))) ∧
   (p%2=1→a8.ja (words p).length (words q).length tw (words p) (words q) (ae (words (Nat.gcd p q*2^tw)))):=by
  intro s
  induction s with
  |zero=>intro p q tw h1 h2;omega
  |succ s ih =>
   intro p q tw hs hq lp lq MS hl
   have L5:p%2=1→a8.ja (words p).length (words q).length tw (words p) (words q) (ae (words (Nat.gcd p q*2^tw))):=by
    intro hp
    obtain⟨v,z,g1,g2,g3,g4⟩:=uJ hq
    by_cases he:q%2=0
    ·have hg:=CX (p:=q) (q:=p) he hp
     have:=(ih p (q/2) tw (by omega) (by omega) lp (Nat.le_trans (dR (Nat.div_le_self q 2)) lq) MS (by rw[Nat.gcd_comm,hg,Nat.gcd_comm];exact hl)).2.2 hp
     rw[Nat.gcd_comm,hg,Nat.gcd_comm] at this
     exact a8.QY _ _ tw _ _ v z _ _ g1 g2 g3 (by omega) (Bz q (by omega)) this
    ·have hc:=Gd (words p) (words q) _ _ rfl rfl (by omega) (by omega)
     rw[aF,aF] at hc
     by_cases cN:p<q
     ·obtain⟨U,u1,u2,u3⟩:=Lk q p (by omega) (by omega)
      have hg:Nat.gcd (q-p) p=Nat.gcd p q:=by rw[Nat.gcd_sub_self_left (by omega),Nat.gcd_comm]
      have:=(ih (q-p) p tw (by omega) (by omega) (Nat.le_trans (dR (Nat.sub_le q p)) lq) lp MS (by rw[hg];exact hl)).1 (by omega)
      rw[hg] at this
      exact a8.QZ _ _ tw _ _ v z _ _ _ U _ _ _ g1 g2 g3 (by omega) hc (by unfold ea;split<;>(try split)<;>omega) u2 u3 this
     ·obtain⟨U,u1,u2,u3⟩:=Lk p q (by omega) (by omega)
      have hg:Nat.gcd (p-q) q=Nat.gcd p q:=Nat.gcd_sub_self_left (by omega)
      have:=(ih (p-q) q tw (by omega) hq (Nat.le_trans (dR (Nat.sub_le p q)) lp) lq MS (by rw[hg];exact hl)).1 (by omega)
      rw[hg] at this
      exact a8.Q0 _ _ tw _ _ v z _ _ _ U _ _ _ g1 g2 g3 (by omega) hc (by unfold ea;split<;>(try split)<;>omega) u2 u3 this
   have L3:0<p→(p%2=1∨q%2=1)→a8.cL (words p).length (words q).length tw (words p) (words q) (ae (words (Nat.gcd p q*2^tw))):=by
    intro hp yQ
    obtain⟨v,z,g1,g2,g3,g4⟩:=uJ hp
    by_cases he:p%2=0
    ·have hg:=CX (p:=p) (q:=q) he (by omega)
     have:=(ih (p/2) q tw (by omega) hq (Nat.le_trans (dR (Nat.div_le_self p 2)) lp) lq MS (by rw[hg];exact hl)).2.1 (by omega) (by omega)
     rw[hg] at this
     exact a8.H3 _ _ tw _ _ v z _ _ g1 g2 g3 (by omega) (Bz p (by omega)) this
    ·exact a8.Gb _ _ tw _ _ v z g1 g2 g3 (by omega) (L5 (by omega))
   refine⟨fun yQ => ?_,L3,L5⟩
   by_cases hp:p=0
   ·subst hp
    rw[Nat.gcd_zero_left] at hl ⊢
    exact a8.nL _ _ tw _ _ (by rw[fX];simp) rfl (fin tw q tw 0 rfl MS hl)
   ·exact a8.nK _ _ tw _ _ (Nat.pos_of_ne_zero (by rw[Ne,dP];exact hp)) (L3 (by omega) yQ)
 have first:∀(s p q tw:Nat),p+q≤s→0<p→0<q→(words p).length≤1099511627776→(words q).length≤1099511627776→(words (Nat.gcd p q*2^tw)).length≤1099511627776 →
   a8.ar (words p).length (words q).length tw (words p) (words q) (ae (words (Nat.gcd p q*2^tw))):=by
  intro s
  induction s with
  |zero=>intro p q tw h1 h2;omega
  |succ s ih =>
   intro p q tw hs hp hq lp lq hl
   have MS:tw+1<9223372036854775808:=by
    have h1:2^tw≤Nat.gcd p q*2^tw:=Nat.le_mul_of_pos_left _ (Nat.gcd_pos_of_pos_left _ hp)
    have h2:=jB (Nat.gcd p q*2^tw)
    rw[Av] at h2
    have h3:=(Nat.pow_lt_pow_iff_right (a:=2) (by omega)).1 (Nat.lt_of_le_of_lt h1 h2)
    omega
   obtain⟨v,z,g1,g2,g3,g4⟩:=uJ hp
   by_cases he:p%2=0
   ·obtain⟨v',z',Pm,GH,Pn,Pe⟩:=uJ hq
    by_cases gr:q%2=0
    ·have hg:Nat.gcd (p/2) (q/2)*2^(tw+1)=Nat.gcd p q*2^tw:=by
      have h:=Nat.gcd_mul_left 2 (p/2) (q/2)
      rw[show 2*(p/2)=p from by omega,show 2*(q/2)=q from by omega] at h
      rw[h,Nat.pow_succ,Nat.mul_comm 2,Nat.mul_assoc,Nat.mul_comm 2]
     have:=ih (p/2) (q/2) (tw+1) (by omega) (by omega) (by omega) (Nat.le_trans (dR (Nat.div_le_self p 2)) lp) (Nat.le_trans (dR (Nat.div_le_self q 2)) lq) (by rw[hg];exact hl)
     rw[hg] at this
     exact a8.dC _ _ tw _ _ v z v' z' _ _ _ _ g1 g2 g3 (by omega) Pm GH Pn (by omega) (Bz p (by omega)) (Bz q (by omega)) MS this
    ·exact a8.dD _ _ tw _ _ v z v' z' g1 g2 g3 (by omega) Pm GH Pn (by omega) ((rounds (p+q) p q tw (Nat.le_refl _) hq lp lq (by omega) hl).1 (by omega))
   ·exact a8.kM _ _ tw _ _ v z g1 g2 g3 (by omega) ((rounds (p+q) p q tw (Nat.le_refl _) hq lp lq (by omega) hl).1 (by omega))
 have:=first (A+B) A B 0 (Nat.le_refl _) (by omega) (by omega) (by omega) (by omega) (by rw[Nat.pow_zero,Nat.mul_one];exact Ft (by omega) (by omega))
 rwa[Nat.pow_zero,Nat.mul_one] at this
end wR
namespace wR
open fi
theorem Sign(a:aB)(h:Fit a.cM):Cp 48 [a.pv] (vI (o7 a.val)):=by
 have hm:=cM a h
 by_cases h0:a.val=0
 ·rw[h0,CU]
  exact ia.e0 a _ hm (by rw[h0];rfl)
 ·have hg:=neg a h
  have hl:(words a.val.natAbs).length≠0:=by rw[Ne,dP];omega
  by_cases hn:a.val<0
  ·rw[Fp hn]
   exact ia.e1 a _ _ hm hl hg (decide_eq_true hn)
  ·rw[Fq (by omega)]
   exact ia.e2 a _ _ hm hl hg (decide_eq_false hn)
theorem Neg(a:aB)(h:Fit a.cM):Cp 115 [a.pv] (Sym.whole (-a.val)).pv:=by
 have h3:=cM a h
 have h5:=neg a h
 have la:=bg a
 have hw:=form (!decide (a.val<0)) (words a.val.natAbs) (by have:(words a.val.natAbs).length≤a.cM.length:=la;omega)
 have e:(bif !decide (a.val<0) then -(nat (words a.val.natAbs):Int) else (nat (words a.val.natAbs):Int)) = -a.val:=by
  rw[aF]
  by_cases h:a.val<0
  ·simp[h];omega
  ·simp[h];omega
 rw[e] at hw
 exact oV.e0 a _ _ _ h5 h3 hw
theorem Add(a b:aB)(ha:Fit a.cM)(hb:Fit b.cM):Cp 126 [a.pv,b.pv] (Sym.whole (a.val+b.val)).pv:=by
 have h1:=cM a ha
 have h2:=cM b hb
 have h3:=neg a ha
 have h4:=neg b hb
 have la:(words a.val.natAbs).length≤a.cM.length:=bg a
 have lb:(words b.val.natAbs).length≤b.cM.length:=bg b
 by_cases hs:decide (a.val<0)=decide (b.val<0)
 ·have hp:=plus (words a.val.natAbs) (words b.val.natAbs) (by omega) (by omega)
  rw[aF,aF] at hp
  have hl:=kz (n:=a.val.natAbs+b.val.natAbs) (k:=max (words a.val.natAbs).length (words b.val.natAbs).length+1) (by
   have g1:=jB a.val.natAbs
   have g2:=jB b.val.natAbs
   have g3:=lJ (Nat.le_max_left (words a.val.natAbs).length (words b.val.natAbs).length)
   have g4:=lJ (Nat.le_max_right (words a.val.natAbs).length (words b.val.natAbs).length)
   rw[Nat.pow_succ];omega)
  have hw:=form (decide (a.val<0)) (words (a.val.natAbs+b.val.natAbs)) (by omega)
  rw[aF] at hw
  have e:(bif decide (a.val<0) then -((a.val.natAbs+b.val.natAbs:Nat):Int) else ((a.val.natAbs+b.val.natAbs:Nat):Int))=a.val+b.val:=by
   by_cases h:a.val<0
   ·have:b.val<0:=by simpa[h] using hs.symm
    simp[h];omega
   ·have:¬b.val<0:=by simpa[h] using hs.symm
    simp[h];omega
  rw[e] at hw
  exact iJ.e0 a b _ _ _ _ _ _ _ h1 h2 h3 h4 hs h3 hp hw
 ·have hc:=compare (words a.val.natAbs) (words b.val.natAbs) (by omega) (by omega)
  rw[aF,aF] at hc
  by_cases vb:b.val.natAbs≤a.val.natAbs
  ·have hl:=minus (words a.val.natAbs) (words b.val.natAbs) (by omega) (by rw[aF,aF];exact vb)
   rw[aF,aF] at hl
   have hlen:=dR (show a.val.natAbs-b.val.natAbs≤a.val.natAbs by omega)
   have hw:=form (decide (a.val<0)) (words (a.val.natAbs-b.val.natAbs)) (by omega)
   rw[aF] at hw
   have e:(bif decide (a.val<0) then -((a.val.natAbs-b.val.natAbs:Nat):Int) else ((a.val.natAbs-b.val.natAbs:Nat):Int))=a.val+b.val:=by
    by_cases h:a.val<0
    ·have:¬b.val<0:=by simpa[h] using hs
     simp[h];omega
    ·have:b.val<0:=by simpa[h] using hs
     simp[h];omega
   rw[e] at hw
   exact iJ.e1 a b _ _ _ _ _ _ _ _ h1 h2 h3 h4 hs hc (by unfold ea;split<;>(try split)<;>omega) h3 hl hw
  ·have hl:=minus (words b.val.natAbs) (words a.val.natAbs) (by omega) (by rw[aF,aF];omega)
   rw[aF,aF] at hl
   have hlen:=dR (show b.val.natAbs-a.val.natAbs≤b.val.natAbs by omega)
   have hw:=form (decide (b.val<0)) (words (b.val.natAbs-a.val.natAbs)) (by omega)
   rw[aF] at hw
   have e:(bif decide (b.val<0) then -((b.val.natAbs-a.val.natAbs:Nat):Int) else ((b.val.natAbs-a.val.natAbs:Nat):Int))=a.val+b.val:=by
    by_cases h:b.val<0
    ·have:¬a.val<0:=by intro h';simp[h,h'] at hs
     simp[h];omega
    ·have:a.val<0:=by
      refine Classical.byContradiction fun h' => ?_
      simp[h,h'] at hs
     simp[h];omega
   rw[e] at hw
   exact iJ.e2 a b _ _ _ _ _ _ _ _ h1 h2 h3 h4 hs hc (by unfold ea;split<;>(try split)<;>omega) h4 hl hw
theorem Sub(a b:aB)(ha:Fit a.cM)(hb:Fit b.cM):Cp 88 [a.pv,b.pv] (Sym.whole (a.val-b.val)).pv:=by
 have h1:=Neg b hb
 have h2:=Add a (Sym.whole (-b.val)) ha (by
  have:=bg b
  show(words (-b.val).natAbs).length≤_
  rw[Int.natAbs_neg]
  have:(words b.val.natAbs).length≤b.cM.length:=this
  omega)
 rw[aU,←Int.sub_eq_add_neg] at h2
 exact oS.e0 a b _ _ h1 h2
theorem Mul(a b:aB)(ha:Fit a.cM)(hb:Fit b.cM):Cp 93 [a.pv,b.pv] (Sym.whole (a.val*b.val)).pv:=by
 have h1:=cM a ha
 have h2:=cM b hb
 have h3:=neg a ha
 have h4:=neg b hb
 have la:(words a.val.natAbs).length≤a.cM.length:=bg a
 have lb:(words b.val.natAbs).length≤b.cM.length:=bg b
 have ht:=times (words a.val.natAbs) (words b.val.natAbs) (by omega) (by omega)
 rw[aF,aF] at ht
 have hl:(words (a.val.natAbs*b.val.natAbs)).length≤(words a.val.natAbs).length+(words b.val.natAbs).length:=by
  have:=jg a.val b.val
  unfold wl at this
  rw[Int.natAbs_mul] at this;exact this
 have hw:=form (!(decide (a.val<0)==decide (b.val<0))) (words (a.val.natAbs*b.val.natAbs)) (by omega)
 rw[aF] at hw
 have e:(bif !(decide (a.val<0)==decide (b.val<0)) then -((a.val.natAbs*b.val.natAbs:Nat):Int) else ((a.val.natAbs*b.val.natAbs:Nat):Int))=a.val*b.val:=by
  by_cases h:a.val<0<;>by_cases h':b.val<0<;>simp only[h,h',decide_true,decide_false,beq_self_eq_true,Bool.not_true,cond_false,Bool.not_false,cond_true,show(true==false)=false from rfl,show(false==true)=false from rfl]
  ·rw[←Int.natAbs_mul,Int.natAbs_of_nonneg (Int.mul_nonneg_of_nonpos_of_nonpos (by omega) (by omega))]
  ·rw[←Int.natAbs_mul,Int.ofNat_natAbs_of_nonpos (Int.mul_nonpos_of_nonpos_of_nonneg (by omega) (by omega))];omega
  ·rw[←Int.natAbs_mul,Int.ofNat_natAbs_of_nonpos (Int.mul_nonpos_of_nonneg_of_nonpos (by omega) (by omega))];omega
  ·rw[←Int.natAbs_mul,Int.natAbs_of_nonneg (Int.mul_nonneg (by omega) (by omega))]
 rw[e] at hw
 exact oT.e0 a b _ _ _ _ _ _ h3 h4 h1 h2 ht hw
theorem Of(n:Int)(h:aK n):Cp 74 [vI n] (Sym.whole n).pv:=by
 obtain⟨g1,g2⟩:=h
 have Iu:(2:Nat)^min 32 64=4294967296:=by decide
 have key:∀m:Nat,m=n.natAbs→∃w w1:UInt32,m%4294967296=w.toNat∧m/4294967296%4294967296=w1.toNat∧Cp 89 [(vB (decide (n<0))),(ae [w,w1])] (Sym.whole n).pv:=by
  intro m hm
  obtain⟨w,hw⟩:=gJ (m%4294967296) (by omega)
  obtain⟨w1,Dw⟩:=gJ (m/4294967296%4294967296) (by omega)
  refine⟨w,w1,hw.symm,Dw.symm,?_⟩
  have:=form (decide (n<0)) [w,w1] (by simp)
  have e:nat [w,w1]=m:=by simp only[nat,hw,Dw];omega
  rw[e,hm] at this
  have e2:(bif decide (n<0) then -(n.natAbs:Int) else (n.natAbs:Int))=n:=by
   by_cases h:n<0
   ·simp[h];omega
   ·simp[h];omega
  rw[e2] at this;exact this
 by_cases hn:n<0
 ·obtain⟨w,w1,q1,q2,q3⟩:=key n.natAbs rfl
  exact ma.e0 n (n%18446744073709551616).toNat n.natAbs w _ w1 _ (by omega) hn (by omega) q1 (by rw[Iu]) q2 q3
 ·obtain⟨w,w1,q1,q2,q3⟩:=key n.natAbs rfl
  exact ma.e1 n n.natAbs w _ w1 _ (by omega) (by omega) q1 (by rw[Iu]) q2 q3
theorem Div(a b:aB)(ha:Fit a.cM)(hb:Fit b.cM)(h0:b.val≠0) :
  Cp 116 [a.pv,b.pv] (.bh [(Sym.whole (a.val/b.val)).pv,(Sym.whole (a.val%b.val)).pv,vI 0]):=by
 have h1:=cM a ha
 have h2:=cM b hb
 have h3:=neg a ha
 have h4:=neg b hb
 have la:(words a.val.natAbs).length≤a.cM.length:=bg a
 have lb:(words b.val.natAbs).length≤b.cM.length:=bg b
 have RI:=Sign b hb
 have GI:o7 b.val≠0:=by unfold o7 ea;split<;>(try split)<;>omega
 have Lg:0<b.val.natAbs:=by omega
 have hd:=Bx (words a.val.natAbs) (words b.val.natAbs) (gK _) (by rw[aF];omega) (by omega) (by omega)
 rw[aF,aF] at hd
 have hq:=dR (Nat.div_le_self a.val.natAbs b.val.natAbs)
 have hr:=dR (Nat.le_of_lt (Nat.mod_lt a.val.natAbs Lg))
 have Dz:=Nat.div_add_mod a.val.natAbs b.val.natAbs
 have Rp:=Nat.mod_lt a.val.natAbs Lg
 generalize hQ:a.val.natAbs/b.val.natAbs=q at *
 generalize hR:a.val.natAbs%b.val.natAbs=r at *
 have sb:b.val=if b.val<0 then -(b.val.natAbs:Int) else (b.val.natAbs:Int):=by split<;>omega
 have uniq:∀x y:Int,a.val=b.val*x+y→0≤y→y<b.val.natAbs→a.val/b.val=x∧a.val%b.val=y:=by
  intro x y e1 e2 e3
  rcases Int.lt_or_gt_of_ne h0 with cX|cX
  ·exact(Int.ediv_emod_unique' cX).2 ⟨by omega,e2,by omega⟩
  ·exact(Int.ediv_emod_unique cX).2 ⟨by omega,e2,by omega⟩
 by_cases hn:a.val<0
 ·by_cases Jd:r=0
  ·have hw:=form (!(decide (a.val<0)==decide (b.val<0))) (words q) (by omega)
   have w7:=form false (words r) (by omega)
   rw[aF] at hw w7
   subst Jd
   have e:a.val/b.val=(bif !(decide (a.val<0)==decide (b.val<0)) then -(q:Int) else (q:Int))∧a.val%b.val=0:=by
    refine uniq _ 0 ?_ (by omega) (by omega)
    have sQ:(a.val.natAbs:Int)=(b.val.natAbs:Int)*q:=by rw[←Dz];simp
    by_cases h':b.val<0
    ·simp only[hn,h',decide_true,beq_self_eq_true,Bool.not_true,cond_false]
     have:(b.val.natAbs:Int) = -b.val:=by omega
     rw[this] at sQ
     have:(a.val.natAbs:Int) = -a.val:=by omega
     rw[this,Int.neg_mul] at sQ
     omega
    ·simp only[hn,h',decide_true,decide_false,show(true==false)=false from rfl,Bool.not_false,cond_true]
     have:(b.val.natAbs:Int)=b.val:=by omega
     rw[this] at sQ
     have:(a.val.natAbs:Int) = -a.val:=by omega
     rw[this] at sQ
     rw[Int.mul_neg];omega
   rw[e.1,e.2]
   exact iH.e2 a b _ _ _ _ _ _ _ _ _ _ RI GI h1 h2 hd h3 (decide_eq_true hn) (by rw[fX];simp) h3 h4 hw w7
  ·have hp:=plus (words q) [1] (by omega) (by simp)
   have hl:=minus (words b.val.natAbs) (words r) (by omega) (by rw[aF,aF];omega)
   rw[aF] at hp
   rw[aF,aF] at hl
   have e1:nat [1]=1:=rfl
   rw[e1] at hp
   have G2:=kz (n:=q+1) (k:=(words q).length+1) (by have:=jB q;rw[Nat.pow_succ];omega)
   have NK:=dR (show b.val.natAbs-r≤b.val.natAbs by omega)
   have hw:=form (!(decide (a.val<0)==decide (b.val<0))) (words (q+1)) (by omega)
   have w7:=form false (words (b.val.natAbs-r)) (by omega)
   rw[aF] at hw w7
   have e:a.val/b.val=(bif !(decide (a.val<0)==decide (b.val<0)) then -((q+1:Nat):Int) else ((q+1:Nat):Int))∧a.val%b.val=((b.val.natAbs-r:Nat):Int):=by
    refine uniq _ _ ?_ (by omega) (by omega)
    have sQ:(a.val.natAbs:Int)=(b.val.natAbs:Int)*q+r:=by rw[←Dz];simp
    by_cases h':b.val<0
    ·simp only[hn,h',decide_true,beq_self_eq_true,Bool.not_true,cond_false]
     have e5:(b.val.natAbs:Int) = -b.val:=by omega
     rw[e5] at sQ
     have:(a.val.natAbs:Int) = -a.val:=by omega
     rw[this,Int.neg_mul] at sQ
     rw[show ((q+1:Nat):Int)=(q:Int)+1 from by omega,Int.mul_add]
     omega
    ·simp only[hn,h',decide_true,decide_false,show(true==false)=false from rfl,Bool.not_false,cond_true]
     have:(b.val.natAbs:Int)=b.val:=by omega
     rw[this] at sQ
     have:(a.val.natAbs:Int) = -a.val:=by omega
     rw[this] at sQ
     rw[show ((q+1:Nat):Int)=(q:Int)+1 from by omega,Int.mul_neg,Int.mul_add];omega
   rw[e.1,e.2]
   exact iH.e1 a b _ _ _ _ _ _ _ _ _ _ _ _ _ RI GI h1 h2 hd h3 (decide_eq_true hn) (by have:=(dP (n:=r)).1;omega) hp h2 hl h3 h4 hw w7
 ·have hw:=form (!(decide (a.val<0)==decide (b.val<0))) (words q) (by omega)
  have w7:=form false (words r) (by omega)
  rw[aF] at hw w7
  have e:a.val/b.val=(bif !(decide (a.val<0)==decide (b.val<0)) then -(q:Int) else (q:Int))∧a.val%b.val=(r:Int):=by
   refine uniq _ _ ?_ (by omega) (by omega)
   have sQ:(a.val.natAbs:Int)=(b.val.natAbs:Int)*q+r:=by rw[←Dz];simp
   by_cases h':b.val<0
   ·simp only[hn,h',decide_true,decide_false,show(false==true)=false from rfl,Bool.not_false,cond_true]
    have e5:(b.val.natAbs:Int) = -b.val:=by omega
    rw[e5] at sQ
    have:(a.val.natAbs:Int)=a.val:=by omega
    rw[this,Int.neg_mul] at sQ
    rw[Int.mul_neg];omega
   ·simp only[hn,h',decide_false,beq_self_eq_true,Bool.not_true,cond_false]
    have:(b.val.natAbs:Int)=b.val:=by omega
    rw[this] at sQ
    have:(a.val.natAbs:Int)=a.val:=by omega
    rw[this] at sQ
    omega
  rw[e.1,e.2]
  exact iH.e3 a b _ _ _ _ _ _ _ _ _ _ RI GI h1 h2 hd h3 (decide_eq_false hn) h3 h4 hw w7
theorem EC(a b:aB)(ha:a.cM.length<1099511627776)(hb:b.cM.length<1099511627776):Cp 44 [a.pv,b.pv] (vI (ea a.val b.val)):=by
 have h1:=Sub a b (by omega) (by omega)
 have h2:=Sign (Sym.whole (a.val-b.val)) (by
  have g1:=By a.val (-b.val)
  have g2:=bg a
  have g3:=bg b
  rw[kp,←Int.sub_eq_add_neg] at g1
  show wl (a.val-b.val)≤_
  omega)
 rw[aU] at h2
 have e:o7 (a.val-b.val)=ea a.val b.val:=by
  unfold o7 ea
  split<;>split<;>(try split)<;>(try split)<;>omega
 rw[←e]
 exact oQ.e0 a b _ _ h1 h2
theorem Gcd(a b:aB)(ha:Fit a.cM)(hb:Fit b.cM):Cp 45 [a.pv,b.pv] (Sym.whole (Nat.gcd a.val.natAbs b.val.natAbs)).pv:=by
 have la:(words a.val.natAbs).length≤a.cM.length:=bg a
 have lb:(words b.val.natAbs).length≤b.cM.length:=bg b
 have hg:=gcd (words a.val.natAbs) (words b.val.natAbs) (by omega) (by omega)
 rw[aF,aF] at hg
 have hl:(words (Nat.gcd a.val.natAbs b.val.natAbs)).length≤1099511627776:=by
  by_cases h:b.val.natAbs=0
  ·rw[h,Nat.gcd_zero_right];omega
  ·exact Ft (by omega) (by omega)
 have hw:=form false (words (Nat.gcd a.val.natAbs b.val.natAbs)) (by omega)
 rw[aF] at hw
 exact oR.e0 a b _ _ _ _ (cM a ha) (cM b hb) hg hw
end wR
end Go.Proofs.YtfjfekodeplcoaaGreat.Sym
namespace Go.Proofs.YtfjfekodeplcoaaGreat.Sym
open fi
set_option linter.unusedVariables false
def aW.valid(a:aW):Bool :=
 bif a.num.isEmpty&&a.den.isEmpty then !a.neg else !a.num.isEmpty&&(!a.den.isEmpty&&(cn a.num&&(cn a.den&&Nat.beq (Nat.gcd (nat a.num) (nat a.den)) 1)))
def aW.val(a:aW):Rat:=bif a.valid && !a.num.isEmpty then Rat.divInt (bif a.neg then -(nat a.num:Int) else (nat a.num:Int)) (nat a.den:Int) else 0
def qc(q:Rat):aW:=bif q.num.natAbs.beq 0 then ⟨false,[],[]⟩ else ⟨decide (q.num<0),words q.num.natAbs,words q.den⟩
theorem beq_iff{a b:Nat} : Nat.beq a b=true↔a=b:=⟨Nat.eq_of_beq_eq_true,fun h=>by subst h;exact Nat.beq_refl a⟩
theorem uK{a b:Nat} : Nat.beq a b=false↔a≠b:=by
 constructor
 ·intro h e;rw[beq_iff.2 e] at h;cases h
 ·intro h
  cases hb:Nat.beq a b with
  |true=>exact absurd (beq_iff.1 hb) h
  |false=>rfl
theorem uL:qc 0=⟨false,[],[]⟩:=rfl
theorem qP{q:Rat}(h:q≠0):qc q=⟨decide (q.num<0),words q.num.natAbs,words q.den⟩:=by
 unfold qc
 rw[uK.2 (by intro e;exact h (Rat.num_eq_zero.1 (by omega))),cond_false]
theorem zM{n:Nat} : (words n).isEmpty=Nat.beq n 0:=by
 by_cases h:n=0
 ·subst h;rfl
 ·rw[uK.2 h,df]
  rw[decide_eq_false (by rw[dP];exact h)]
theorem vH(q:Rat):(qc q).valid=true:=by
 by_cases h:q=0
 ·subst h;rfl
 ·rw[qP h]
  unfold aW.valid
  have h1:q.num.natAbs≠0:=by intro e;exact h (Rat.num_eq_zero.1 (by omega))
  simp only[zM,uK.2 h1,uK.2 q.den_nz,Bool.and_self,Bool.not_false,cond_false,gK,aF,Bool.true_and]
  exact beq_iff.2 q.reduced
theorem mH{a:aW}(hv:a.valid=true)(h0:a.num≠[]):a.den≠[]∧cn a.num=true∧cn a.den=true∧Nat.gcd (nat a.num) (nat a.den)=1:=by
 have h1:a.num.isEmpty=false:=by cases h:a.num with
  |nil=>exact absurd h h0
  |cons=>rfl
 unfold aW.valid at hv
 rw[h1,Bool.false_and,cond_false,Bool.not_false,Bool.true_and] at hv
 simp only[Bool.and_eq_true] at hv
 obtain⟨g1,g2,g3,g4⟩:=hv
 refine⟨?_,g2,g3,beq_iff.1 g4⟩
 intro e;rw[e] at g1;cases g1
theorem ED{a:aW}(hv:a.valid=true)(h0:a.num=[]):a=⟨false,[],[]⟩:=by
 obtain⟨n,m,d⟩:=a
 subst h0
 unfold aW.valid at hv
 cases d with
 |nil=>cases n with
  |false=>rfl
  |true=>cases hv
 |cons=>cases hv
theorem so{a:aW}(hv:a.valid=true)(h0:a.num≠[]):a.val.num=(bif a.neg then -(nat a.num:Int) else (nat a.num:Int))∧a.val.den=nat a.den:=by
 obtain⟨g1,g2,g3,g4⟩:=mH hv h0
 have h1:a.num.isEmpty=false:=by cases h:a.num with
  |nil=>exact absurd h h0
  |cons=>rfl
 have hd:=py g3 g1
 unfold aW.val
 rw[hv,h1,Bool.not_false,Bool.and_self,cond_true,Rat.divInt_ofNat]
 have hr:Nat.Coprime (bif a.neg then -(nat a.num:Int) else (nat a.num:Int)).natAbs (nat a.den):=by
  cases a.neg<;>simp<;>exact g4
 rw[←Rat.mk_eq_mkRat _ _ (by omega) hr]
 exact⟨rfl,rfl⟩
theorem MT{a:aW}(hv:a.valid=true)(h0:a.num≠[]):a.val≠0:=by
 obtain⟨g1,g2,g3,g4⟩:=mH hv h0
 have:=py g2 h0
 intro e
 have h:=(so hv h0).1
 rw[e] at h
 have h:(0:Int)=_:=h
 cases hn:a.neg<;>rw[hn] at h<;>simp at h<;>omega
theorem BA{a:aW}(hv:a.valid=false):a.val=0:=by unfold aW.val;rw[hv];rfl
theorem xk{a:aW}(h:a.num=[]):a.val=0:=by unfold aW.val;rw[h];simp
theorem vJ{a:aW}(hv:a.valid=true):qc a.val=a:=by
 by_cases h0:a.num=[]
 ·rw[xk h0,ED hv h0];rfl
 ·obtain⟨g1,g2,g3,g4⟩:=mH hv h0
  have hp:=py g2 h0
  obtain⟨e1,e2⟩:=so hv h0
  rw[qP (MT hv h0),e1,e2,eH g3]
  obtain⟨n,m,d⟩:=a
  cases n
  ·simp only[cond_false,Int.natAbs_natCast,eH g2,aW.mk.injEq,and_true,decide_eq_false_iff_not]
   omega
  ·simp only[cond_true,Int.natAbs_neg,Int.natAbs_natCast,eH g2,aW.mk.injEq,and_true,decide_eq_true_eq]
   simp only at hp
   omega
theorem Kz{p q:Rat}(h:qc p=qc q):p=q:=by
 by_cases hp:p=0
 ·subst hp
  by_cases hq:q=0
  ·exact hq.symm
  ·rw[uL,qP hq] at h
   injection h with _ h _
   have:=sf.1 h.symm
   exact absurd (Rat.num_eq_zero.1 (by omega)) hq
 ·by_cases hq:q=0
  ·subst hq
   rw[uL,qP hp] at h
   injection h with _ h _
   have:=sf.1 h
   exact absurd (Rat.num_eq_zero.1 (by omega)) hp
  ·rw[qP hp,qP hq] at h
   injection h with h1 h2 h3
   have h2:=congrArg nat h2
   have h3:=congrArg nat h3
   rw[aF,aF] at h2 h3
   refine Rat.ext ?_ h3
   by_cases h:p.num<0
   ·have:q.num<0:=by simpa[h] using h1.symm
    omega
   ·have:¬q.num<0:=by simpa[h] using h1.symm
    omega
theorem nE(q:Rat):(qc q).val=q:=Kz (vJ (vH q))
def ht(q:Rat):Nat:=max (wl q.num) (wl (q.den:Int))
abbrev ot(a:aW):Prop:=a.num.length≤274877906944∧a.den.length≤274877906944
theorem BB:ht 0=1:=by decide
theorem ID(q:Rat):1≤ht q:=by
 have h:(words q.den).length≠0:=by rw[Ne,dP];exact q.den_nz
 have:wl (q.den:Int)≤ht q:=Nat.le_max_right _ _
 have h2:wl (q.den:Int)=(words q.den).length:=rfl
 omega
theorem jh(q:Rat):wl q.num≤ht q:=Nat.le_max_left _ _
theorem jW(q:Rat):wl (q.den:Int)≤ht q:=Nat.le_max_right _ _
theorem nG{q:Rat}(h:ht q≤274877906944):ot (qc q):=by
 by_cases h0:q=0
 ·subst h0;constructor<;>simp[uL]
 ·rw[qP h0]
  exact⟨Nat.le_trans (jh q) h,Nat.le_trans (jW q) h⟩
theorem jY{a:aW}{k:Nat}(h1:a.num.length≤k)(h2:a.den.length≤k)(hk:1≤k):ht a.val≤k:=by
 by_cases hv:a.valid=true
 ·by_cases h0:a.num=[]
  ·rw[xk h0,BB];exact hk
  ·obtain⟨g1,g2,g3,g4⟩:=mH hv h0
   obtain⟨e1,e2⟩:=so hv h0
   unfold ht
   rw[e1,e2]
   refine Nat.max_le.2 ⟨?_,?_⟩
   ·have e:(bif a.neg then -(nat a.num:Int) else (nat a.num:Int)).natAbs=nat a.num:=by cases a.neg<;>simp
    show(words _).length≤k
    rw[e,eH g2];exact h1
   ·show(words _).length≤k
    rw[Int.natAbs_natCast,eH g3];exact h2
 ·rw[BA (by simpa using hv),BB];exact hk
theorem tK{i j:Int}(h:i.natAbs≤j.natAbs):wl i≤wl j:=dR h
theorem Gh(n d:Int):ht (Rat.divInt n d)≤max (wl n) (max (wl d) 1):=by
 by_cases hd:d=0
 ·subst hd
  rw[Rat.divInt_zero,BB];omega
 ·unfold ht
  refine Nat.max_le.2 ⟨Nat.le_trans (tK ?_) (Nat.le_max_left _ _),Nat.le_trans (tK (j:=d) ?_) (Nat.le_trans (Nat.le_max_left _ _) (Nat.le_max_right _ _))⟩
  ·rw[Rat.num_divInt]
   have h1:=Int.natAbs_ediv_of_dvd (a:=d.sign*n) (b:=(d.gcd n:Int)) (by
    exact Int.dvd_mul_of_dvd_right (Int.gcd_dvd_right d n))
   rw[h1,Int.natAbs_mul,Int.natAbs_sign_of_ne_zero hd,Nat.one_mul]
   exact Nat.div_le_self _ _
  ·rw[Rat.den_divInt,if_neg hd,Int.natAbs_natCast]
   exact Nat.div_le_self _ _
theorem CY(n:Int)(d:Nat):ht (mkRat n d)≤max (wl n) (max (wl (d:Int)) 1):=by
 rw[←Rat.divInt_ofNat];exact Gh n d
theorem EE(a:Rat):ht (-a)=ht a:=by
 unfold ht
 rw[Rat.neg_num,kp,Rat.neg_den]
theorem IE(a b:Rat):ht (a*b)≤ht a+ht b:=by
 rw[Rat.mul_def']
 have h1:=CY (a.num*b.num) (a.den*b.den)
 have h2:=jg a.num b.num
 have h3:=jg (a.den:Int) (b.den:Int)
 have h4:=jh a
 have h5:=jW a
 have h6:=jh b
 have h7:=jW b
 have h8:=ID a
 rw[←Int.natCast_mul] at h3
 omega
theorem MU(a b:Rat):ht (a+b)≤ht a+ht b+1:=by
 rw[Rat.add_def']
 have h1:=CY (a.num*b.den+b.num*a.den) (a.den*b.den)
 have h2:=jg a.num b.den
 have h3:=jg b.num a.den
 have h9:=By (a.num*b.den) (b.num*a.den)
 have bQ:=jg (a.den:Int) (b.den:Int)
 have h4:=jh a
 have h5:=jW a
 have h6:=jh b
 have h7:=jW b
 have h8:=ID a
 rw[←Int.natCast_mul] at bQ
 omega
theorem EF(a b:Rat):ht (a-b)≤ht a+ht b+1:=by
 rw[Rat.sub_eq_add_neg,←EE b];exact MU a (-b)
theorem MV(n:Int):ht (n:Rat)=max (wl n) 1:=by
 unfold ht
 rw[Rat.num_intCast,Rat.den_intCast];rfl
def kO(p q:Rat):Int:=if p<q then -1 else if p=q then 0 else 1
theorem IF(p q:Rat):ea (p.num*q.den) (q.num*p.den)=kO p q:=by
 unfold ea kO
 have h1:=Rat.lt_iff p q
 have h2:p=q↔p.num*q.den=q.num*p.den:=by
  constructor
  ·intro h;subst h;rfl
  ·intro h
   have g1:=(Rat.le_iff p q).2 (by omega)
   have g2:=(Rat.le_iff q p).2 (by omega)
   exact Rat.le_antisymm g1 g2
 simp only[h1,h2]
theorem MW(p:Rat):p.num<0↔p<0:=by
 rw[Rat.lt_iff]
 simp
theorem CZ(p q:Rat):o7 (p-q).num=kO p q:=by
 unfold o7 ea kO
 have h1:(p-q).num<0↔p<q:=by
  rw[MW];constructor<;>intro h<;>grind
 have h2:(p-q).num=0↔p=q:=by
  rw[Rat.num_eq_zero];constructor<;>intro h<;>grind
 simp only[h1,h2]
theorem Aw(p:Rat):o7 p.num=kO p 0:=by
 have:=CZ p 0
 rwa[show p-0=p from by grind] at this
theorem kd{p q:Rat} : kO p q=0↔p=q:=by
 unfold kO;split
 ·rename_i h;constructor
  ·intro h;cases h
  ·intro e;subst e;exact absurd h (Rat.lt_irrefl)
 ·split
  ·simp_all
  ·simp_all
theorem BC{n d:Int}(hd:0<d)(g:Nat)(hg:g=Nat.gcd n.natAbs d.natAbs):(Rat.divInt n d).num=n/(g:Int)∧((Rat.divInt n d).den:Int)=d/(g:Int):=by
 have e:d.gcd n=g:=by rw[hg,Nat.gcd_comm];rfl
 refine⟨?_,?_⟩
 ·rw[Rat.num_divInt,e,Int.sign_eq_one_of_pos hd,Int.one_mul]
 ·rw[Rat.den_divInt,if_neg (by omega),e,Int.natCast_ediv,Int.natAbs_of_nonneg (by omega)]
end Go.Proofs.YtfjfekodeplcoaaGreat.Sym
namespace Go.Proofs.YtfjfekodeplcoaaGreat.Sym
open Go
set_option linter.unusedVariables false
def nth{α:Type}(xs:List α)(i:Int):Option α:=if 0≤i then xs[i.toNat]? else none
theorem ke{α:Type}(xs:List α)(k:Nat):nth xs (k:Int)=xs[k]? := by
 unfold nth;rw[if_pos (Int.natCast_nonneg k),Int.toNat_natCast]
theorem bX{α:Type}{xs:List α}{i:Int}{x:α}(h:nth xs i=some x):∃k:Nat,i=(k:Int)∧xs[k]? = some x:=by
 unfold nth at h
 split at h
 ·rename_i h0;exact⟨i.toNat,(Int.toNat_of_nonneg h0).symm,h⟩
 ·cases h
theorem yR{α:Type}{xs:List α}{i:Int} : nth xs i=none↔¬(0≤i∧i<(xs.length:Int)):=by
 unfold nth
 split
 ·rw[List.getElem?_eq_none_iff];omega
 ·simp;omega
theorem EG{α:Type}{xs:List α}{i:Int} : (∃x,nth xs i=some x)↔(0≤i∧i<(xs.length:Int)):=by
 cases h:nth xs i with
 |none=>rw[yR] at h;simp only[reduceCtorEq,exists_false,false_iff];exact h
 |some x =>
  have:¬nth xs i=none:=by rw[h];simp
  rw[yR] at this
  simp only[Option.some.injEq,exists_eq',true_iff];omega
theorem mq{α:Type}{xs:List α}{i:Int}{x:α}(h:nth xs i=some x):x∈xs:=by
 obtain⟨k,_,h⟩:=bX h;exact List.mem_of_getElem? h
def gL(c:Nat):Bool:=decide (97≤c∧c≤122)||decide (65≤c∧c≤90)
def lV(c:Nat):Bool:=gL c||decide (48≤c∧c≤57)||decide (c=95)
def ng:List Nat→Nat
 |[]=>0
 |b::t=>bif gL b then 1+(t.takeWhile lV).length else 0
def dU(s:ByteArray):Bool:=decide (0<ng (s.data.toList.map UInt8.toNat)∧ng (s.data.toList.map UInt8.toNat)=s.size∧ng (s.data.toList.map UInt8.toNat)≤24)
def scan(f:Nat→Int):Nat→Nat→Int
 |0,_=>0
 |n+1,i=>if f i=0 then scan f n (i+1) else f i
theorem vK{f:Nat→Int} : ∀{n i:Nat},scan f n i=0↔∀k,k<n→f (i+k)=0
 |0,i=>by simp[scan]
 |n+1,i=>by
  unfold scan
  constructor
  ·intro h k hk
   split at h
   ·rename_i h0
    cases k with
    |zero=>exact h0
    |succ k=>have:=vK.1 h k (by omega);rw[show i+(k+1)=i+1+k by omega];exact this
   ·rename_i h0;exact absurd h h0
  ·intro h
   have h0:f i=0:=h 0 (by omega)
   rw[if_pos h0,vK]
   intro k hk
   rw[show i+1+k=i+(k+1) by omega];exact h (k+1) (by omega)
def Ax(ms:List au)(k:Nat):Int :=
 match ms[k]? with
 |none=>0
 |some m=>if dU m.name=false then 5 else if (ms.take k).any (fun x=>decide (x.name=m.name))=true then 6 else if m.x.valid=true∧m.y.valid=true then 0 else 3
def jC(ms:List au):Int:=if 8<ms.length then 4 else scan (Ax ms) ms.length 0
def Ay(bs:List ab)(k:Nat):Int :=
 match bs[k]? with
 |none=>0
 |some b=>if dU b.name=false then 5 else if (bs.take k).any (fun x=>decide (x.name=b.name))=true then 6 else jC b.points
def nH(bs:List ab):Int:=scan (Ay bs) bs.length 0
def jE(l:aj)(j:ag):Int :=
 if j.kind≠0∧j.kind≠1 then 7 else
  match nth l.aa j.a,nth l.aa j.b with
  |some A,some B=>if j.a=j.b then 13 else
   match nth A.points j.bq,nth B.points j.fD with
   |some _,some p=>if j.kind=0 then (if j.fj≠0 then 2 else 0) else
    match nth B.points j.fj with
    |some q=>if kO p.x.val q.x.val=0∧kO p.y.val q.y.val=0 then 8 else 0
    |none=>9
   |_,_=>9
  |_,_=>9
def pz(l:aj)(k:Nat):Int :=
 match l.an[k]? with
 |none=>0
 |some j=>if dU j.name=false then 5 else if (l.an.take k).any (fun x=>decide (x.name=j.name))=true then 6 else jE l j
def dE(l:aj)(k:Nat)(d:af):Int :=
 match nth l.aa d.body with
 |none=>9
 |some _=>if d.body=0 then 7 else if (l.ak.take k).any (fun x=>decide (x.body=d.body))=true then 6 else 0
def nI(l:aj)(k:Nat):Int :=
 match l.ak[k]? with
 |none=>0
 |some d=>if dU d.name=false then 5 else if (l.ak.take k).any (fun x=>decide (x.name=d.name))=true then 6 else dE l k d
def o8(l:aj):Int:=if 16<l.an.length then 4 else scan (pz l) l.an.length 0
def ou(l:aj):Int:=if 2<l.ak.length then 4 else scan (nI l) l.ak.length 0
def gN(l:aj):Int :=
 if dU l.name=false then 5 else if l.aa.length=0 then 10 else if 8<l.aa.length then 4 else
  if nH l.aa≠0 then nH l.aa else if o8 l≠0 then o8 l else ou l
structure GP (ms:List au):Prop where
 len:ms.length≤8
 nodup:(ms.map au.name).Nodup
 all:∀m∈ms,dU m.name=true∧m.x.valid=true∧m.y.valid=true
def Jp(l:aj)(j:ag):Prop :=
 ∃A B P Q,nth l.aa j.a=some A∧nth l.aa j.b=some B∧j.a≠j.b∧nth A.points j.bq=some P∧nth B.points j.fD=some Q ∧
  (j.kind=0∧j.fj=0∨j.kind=1∧∃R,nth B.points j.fj=some R∧¬(kO Q.x.val R.x.val=0∧kO Q.y.val R.y.val=0))
structure Ok (l:aj):Prop where
 name:dU l.name=true
 pos:0<l.aa.length
 len:l.aa.length≤8
 aa:∀b∈l.aa,dU b.name=true∧GP b.points
 bn:(l.aa.map ab.name).Nodup
 jl:l.an.length≤16
 an:∀j∈l.an,dU j.name=true∧Jp l j
 jn:(l.an.map ag.name).Nodup
 dl:l.ak.length≤2
 ak:∀d∈l.ak,dU d.name=true∧(∃b,nth l.aa d.body=some b)∧d.body≠0
 dn:(l.ak.map af.name).Nodup
 db:(l.ak.map af.body).Nodup
theorem dG{α β:Type}[DecidableEq β](f:α→β)(xs:List α):(xs.map f).Nodup↔∀k x,xs[k]? = some x→(xs.take k).any (fun y=>decide (f y=f x))=false:=by
 constructor
 ·intro h k x hk
  rw[List.any_eq_false]
  intro y hy
  obtain⟨i,hi,e⟩:=List.getElem_of_mem hy
  have HI:i<k:=by rw[List.length_take] at hi;omega
  have wZ:=(List.getElem?_eq_some_iff.1 hk).1
  have:=List.pairwise_iff_getElem.1 (List.pairwise_map.1 h) i k (by omega) wZ HI
  rw[List.getElem_take] at e
  rw[(List.getElem?_eq_some_iff.1 hk).2,e] at this
  simpa using this
 ·intro h
  refine List.pairwise_map.2 (List.pairwise_iff_getElem.2 fun i j hi hj zo => ?_)
  have:=h j xs[j] (List.getElem?_eq_getElem hj)
  rw[List.any_eq_false] at this
  have:=this xs[i] (List.mem_of_getElem? (i:=i) (by rw[List.getElem?_take,if_pos zo,List.getElem?_eq_getElem hi]))
  simpa using this
theorem Az{p:Prop}[Decidable p]{a b:Int}(ha:a≠0):(if p then a else b)=0↔¬p∧b=0:=by
 split
 ·rename_i h;simp[h,ha]
 ·rename_i h;simp[h]
theorem Fu{α:Type}{f:Nat→Int}{xs:List α}{Q:Nat→α→Prop}(hf:∀k x,xs[k]? = some x→(f k=0↔Q k x)):scan f xs.length 0=0↔∀k x,xs[k]? = some x→Q k x:=by
 rw[vK]
 constructor
 ·intro h k x hk
  have:=h k (List.getElem?_eq_some_iff.1 hk).1
  rw[Nat.zero_add] at this
  exact(hf k x hk).1 this
 ·intro h k hk
  rw[Nat.zero_add]
  have:=List.getElem?_eq_getElem hk
  exact(hf k _ this).2 (h k _ this)
theorem xl{α:Type}{xs:List α}{Q:α→Prop} : (∀(k:Nat) x,xs[k]? = some x→Q x)↔∀x∈xs,Q x:=by
 constructor
 ·intro h x hx
  obtain⟨k,hk,e⟩:=List.getElem_of_mem hx
  exact h k x (by rw[List.getElem?_eq_getElem hk,e])
 ·exact fun h k x hk=>h x (List.mem_of_getElem? hk)
theorem BD {ms : List au} : jC ms = 0 ↔ GP ms := by
  unfold jC
  rw [Az (by decide), Fu (Q := fun k m => dU m.name = true ∧ (ms.take k).any (fun x => decide (x.name = m.name)) = false ∧ m.x.valid = true ∧ m.y.valid = true)
    (fun k m hk => by unfold Ax; rw [hk]; simp only [Az (show (5 : Int) ≠ 0 by decide), Az (show (6 : Int) ≠ 0 by decide), Bool.not_eq_false, Bool.not_eq_true]
                      by_cases h : m.x.valid = true ∧ m.y.valid = true <;> simp [h])]
  constructor
  · rintro ⟨h1, h2⟩
    exact ⟨by omega, (dG _ _).2 fun k x hk => (h2 k x hk).2.1, xl.1 fun k x hk => ⟨(h2 k x hk).1, (h2 k x hk).2.2⟩⟩
  · intro h
    exact ⟨by have := h.len; omega, fun k x hk => ⟨(h.all x (List.mem_of_getElem? hk)).1, (dG _ _).1 h.nodup k x hk, (h.all x (List.mem_of_getElem? hk)).2⟩⟩
theorem BE{bs:List ab} : nH bs=0↔(bs.map ab.name).Nodup∧∀b∈bs,dU b.name=true∧GP b.points:=by
 unfold nH
 rw[Fu (Q:=fun k b=>dU b.name=true∧(bs.take k).any (fun x=>decide (x.name=b.name))=false∧GP b.points)
  (fun k m hk=>by unfold Ay;rw[hk];simp only[Az (show (5:Int)≠0 by decide),Az (show (6:Int)≠0 by decide),Bool.not_eq_false,Bool.not_eq_true,BD])]
 constructor
 ·intro h2
  exact⟨(dG _ _).2 fun k x hk=>(h2 k x hk).2.1,xl.1 fun k x hk=>⟨(h2 k x hk).1,(h2 k x hk).2.2⟩⟩
 ·intro h k x hk
  exact⟨(h.2 x (List.mem_of_getElem? hk)).1,(dG _ _).1 h.1 k x hk,(h.2 x (List.mem_of_getElem? hk)).2⟩
theorem KA{l:aj}{j:ag} : jE l j=0↔Jp l j:=by
 constructor
 ·intro h
  unfold jE at h
  rw[Az (by decide)] at h
  obtain⟨hk,h⟩:=h
  split at h
  ·rename_i A B hA hB
   rw[Az (by decide)] at h
   obtain⟨iO,h⟩:=h
   split at h
   ·rename_i P Q hP hQ
    refine⟨A,B,P,Q,hA,hB,iO,hP,hQ,?_⟩
    split at h
    ·rename_i h0
     rw[Az (by decide)] at h
     exact .inl ⟨h0,by omega⟩
    ·rename_i h0
     split at h
     ·rename_i R hR
      rw[Az (by decide)] at h
      exact .inr ⟨by omega,R,hR,h.1⟩
     ·cases h
   ·cases h
  ·cases h
 ·rintro ⟨A,B,P,Q,hA,hB,iO,hP,hQ,h⟩
  unfold jE
  rcases h with ⟨h1,h2⟩|⟨h1,R,hR,h2⟩
  ·rw[if_neg (by omega)]
   simp only[hA,hB,hP,hQ,if_neg iO,h1,h2]
   rfl
  ·rw[if_neg (by omega)]
   simp only[hA,hB,hP,hQ,if_neg iO,h1,hR,if_neg h2]
   rfl
theorem BF{l:aj} : o8 l=0↔l.an.length≤16∧(l.an.map ag.name).Nodup∧∀j∈l.an,dU j.name=true∧Jp l j:=by
 unfold o8
 rw[Az (by decide),Fu (Q:=fun k j=>dU j.name=true∧(l.an.take k).any (fun x=>decide (x.name=j.name))=false∧Jp l j)
  (fun k m hk=>by unfold pz;rw[hk];simp only[Az (show (5:Int)≠0 by decide),Az (show (6:Int)≠0 by decide),Bool.not_eq_false,Bool.not_eq_true,KA])]
 constructor
 ·rintro ⟨h1,h2⟩
  exact⟨by omega,(dG _ _).2 fun k x hk=>(h2 k x hk).2.1,xl.1 fun k x hk=>⟨(h2 k x hk).1,(h2 k x hk).2.2⟩⟩
 ·rintro ⟨h1,h2,h3⟩
  exact⟨by omega,fun k x hk=>⟨(h3 x (List.mem_of_getElem? hk)).1,(dG _ _).1 h2 k x hk,(h3 x (List.mem_of_getElem? hk)).2⟩⟩
theorem zN{l:aj} : ou l=0↔l.ak.length≤2∧(l.ak.map af.name).Nodup∧(l.ak.map af.body).Nodup∧∀d∈l.ak,dU d.name=true∧(∃b,nth l.aa d.body=some b)∧d.body≠0:=by
 unfold ou
 rw[Az (by decide),Fu (Q:=fun k d=>dU d.name=true∧(l.ak.take k).any (fun x=>decide (x.name=d.name))=false∧(∃b,nth l.aa d.body=some b)∧d.body≠0∧(l.ak.take k).any (fun x=>decide (x.body=d.body))=false)
  (fun k m hk=>by
   unfold nI;rw[hk];simp only[Az (show (5:Int)≠0 by decide),Az (show (6:Int)≠0 by decide),Bool.not_eq_false,Bool.not_eq_true]
   unfold dE
   cases nth l.aa m.body with
   |none=>simp
   |some b=>simp only[Az (show (7:Int)≠0 by decide),Az (show (6:Int)≠0 by decide),Bool.not_eq_true,Option.some.injEq,exists_eq',true_and,and_true,ne_eq])]
 constructor
 ·rintro ⟨h1,h2⟩
  exact⟨by omega,(dG _ _).2 fun k x hk=>(h2 k x hk).2.1,(dG _ _).2 fun k x hk=>(h2 k x hk).2.2.2.2,xl.1 fun k x hk=>⟨(h2 k x hk).1,(h2 k x hk).2.2.1,(h2 k x hk).2.2.2.1⟩⟩
 ·rintro ⟨h1,h2,h3,h4⟩
  exact⟨by omega,fun k x hk=>⟨(h4 x (List.mem_of_getElem? hk)).1,(dG _ _).1 h2 k x hk,(h4 x (List.mem_of_getElem? hk)).2.1,(h4 x (List.mem_of_getElem? hk)).2.2,(dG _ _).1 h3 k x hk⟩⟩
theorem fG{l:aj} : gN l=0↔Ok l:=by
 unfold gN
 rw[Az (by decide),Az (by decide),Az (by decide)]
 have e:∀(x y z:Int),(if x≠0 then x else if y≠0 then y else z)=0↔x=0∧y=0∧z=0:=by
  intro x y z
  by_cases hx:x=0<;>by_cases hy:y=0<;>simp[hx,hy]
 rw[e,BE,BF,zN]
 constructor
 ·rintro ⟨h1,h2,h3,⟨h4,h5⟩,⟨h6,h7,h8⟩,h9,bQ,cW,cP⟩
  exact⟨by simpa using h1,by omega,by omega,h5,h4,h6,h8,h7,h9,cP,bQ,cW⟩
 ·intro h
  exact⟨by rw[h.name];simp,by have:=h.pos;omega,by have:=h.len;omega,⟨h.bn,h.aa⟩,⟨h.jl,h.jn,h.an⟩,h.dl,h.dn,h.db,h.ak⟩
def o9(b:ab)(k:Int):Int:=match nth b.points k with
 |some p=>(rk au.name b.points p.name:Int)
 |none=>0
def gO(l:aj)(i:Int):Int:=if i=0 then 0 else match nth l.aa i with
 |some b=>1+(rk ab.name (l.aa.drop 1) b.name:Int)
 |none=>0
def nb(b:ab):ab:=⟨b.name,b8 au.name b.points⟩
def nJ(l:aj)(i k:Int):Int:=match nth l.aa i with
 |some b=>o9 b k
 |none=>0
def uM(j:ag)(A P B Q:Int):ag:=if B<A then ⟨j.name,j.kind,B,Q,A,P,j.fj⟩ else ⟨j.name,j.kind,A,P,B,Q,j.fj⟩
def jN(l:aj)(j:ag):ag :=
 if j.kind=1 then ⟨j.name,j.kind,gO l j.a,nJ l j.a j.bq,gO l j.b,min (nJ l j.b j.fD) (nJ l j.b j.fj),max (nJ l j.b j.fD) (nJ l j.b j.fj)⟩
 else uM j (gO l j.a) (nJ l j.a j.bq) (gO l j.b) (nJ l j.b j.fD)
def dN(l:aj)(d:af):af:=⟨d.name,gO l d.body⟩
def eJ:List ab→List ab
 |[]=>[]
 |b::t=>nb b::b8 ab.name (t.map nb)
def bY(l:aj):aj:=⟨l.name,eJ l.aa,b8 ag.name (l.an.map (jN l)),b8 af.name (l.ak.map (dN l))⟩
theorem xm(b:ab):(nb b).name=b.name:=rfl
theorem xn(l:aj)(j:ag):(jN l j).name=j.name:=by
 unfold jN uM;split
 ·rfl
 ·split<;>rfl
theorem kD(l:aj)(js:List ag):(js.map (jN l)).map ag.name=js.map ag.name:=by
 rw[List.map_map];exact List.map_congr_left fun j _=>xn l j
theorem kE(l:aj)(ds:List af):(ds.map (dN l)).map af.name=ds.map af.name:=by
 rw[List.map_map];rfl
theorem kF(bs:List ab):(bs.map nb).map ab.name=bs.map ab.name:=by
 rw[List.map_map];rfl
theorem kG:∀(bs:List ab),(eJ bs).Perm (bs.map nb)
 |[] => .refl _
 |b::t=>(dQ _).cons _
theorem ov(bs:List ab):(eJ bs).length=bs.length:=by rw[(kG bs).length_eq,List.length_map]
theorem sq{α β:Type}{f:α→β}{xs:List α}(hn:(xs.map f).Nodup){i k:Nat}{x y:α}(h1:xs[i]? = some x)(h2:xs[k]? = some y)(h:f x=f y):i=k:=by
 have hp:=List.pairwise_iff_getElem.1 (List.pairwise_map.1 hn)
 obtain⟨g1,e1⟩:=List.getElem?_eq_some_iff.1 h1
 obtain⟨g2,e2⟩:=List.getElem?_eq_some_iff.1 h2
 rcases Nat.lt_trichotomy i k with h3|h3|h3
 ·exact absurd (by rw[e1,e2];exact h) (hp i k g1 g2 h3)
 ·exact h3
 ·exact absurd (by rw[e1,e2];exact h.symm) (hp k i g2 g1 h3)
theorem C0{bs:List ab}(hn:(bs.map ab.name).Nodup){i:Int}{b:ab}{nm:ByteArray}{js ds}(h:nth bs i=some b):nth (eJ bs) (gO ⟨nm,bs,js,ds⟩ i)=some (nb b):=by
 obtain⟨k,rfl,hk⟩:=bX h
 cases bs with
 |nil=>cases hk
 |cons f t =>
  unfold gO
  cases k with
  |zero =>
   injection hk with hk;subst hk
   rfl
  |succ k =>
   have hk:t[k]? = some b:=hk
   rw[if_neg (by omega),h]
   show nth (eJ (f::t)) (1+(rk ab.name t b.name:Int))=_
   rw[show (1+(rk ab.name t b.name:Int))=((rk ab.name t b.name+1:Nat):Int) by omega,ke]
   show(b8 ab.name (t.map nb))[rk ab.name t b.name]? = _
   have zp:((t.map nb).map ab.name).Nodup:=by rw[kF];exact(List.nodup_cons.1 hn).2
   have:=rQ zp (List.mem_map_of_mem (f:=nb) (List.mem_of_getElem? hk))
   rw[tH nb xm] at this
   exact this
theorem BG{l:aj}{i:Int}{b:ab}(h:nth l.aa i=some b)(h0:i≠0):gO l i≠0:=by
 unfold gO;rw[if_neg h0,h];show 1+(rk ab.name (l.aa.drop 1) b.name:Int)≠0;omega
theorem uN(l:aj):gO l 0=0:=rfl
theorem qQ{l:aj}(hn:(l.aa.map ab.name).Nodup){i k:Int}{b c:ab}(h1:nth l.aa i=some b)(h2:nth l.aa k=some c)(h:gO l i=gO l k):i=k:=by
 by_cases hi:i=0
 ·by_cases hk:k=0
  ·omega
  ·subst hi;rw[uN] at h;exact absurd h.symm (BG h2 hk)
 ·by_cases hk:k=0
  ·subst hk;rw[uN] at h;exact absurd h (BG h1 hi)
  ·obtain⟨i,rfl,Ha⟩:=bX h1
   obtain⟨k,rfl,LF⟩:=bX h2
   unfold gO at h
   rw[if_neg hi,if_neg hk,h1,h2] at h
   have h:rk ab.name (l.aa.drop 1) b.name=rk ab.name (l.aa.drop 1) c.name:=by
    have h:1+(rk ab.name (l.aa.drop 1) b.name:Int)=1+(rk ab.name (l.aa.drop 1) c.name:Int):=h
    omega
   have m1:b∈l.aa.drop 1:=List.mem_of_getElem? (i:=i-1) (by rw[List.getElem?_drop,show 1+(i-1)=i by omega];exact Ha)
   have m2:c∈l.aa.drop 1:=List.mem_of_getElem? (i:=k-1) (by rw[List.getElem?_drop,show 1+(k-1)=k by omega];exact LF)
   have hd:((l.aa.drop 1).map ab.name).Nodup:=by rw[List.map_drop];exact hn.sublist (List.drop_sublist 1 _)
   have e:=Il hd m1 m2 h
   subst e
   have:=sq hn Ha LF rfl
   omega
theorem Fv{b:ab}(h:GP b.points){k:Int}{p:au}(hk:nth b.points k=some p):nth (nb b).points (o9 b k)=some p:=by
 unfold o9;rw[hk]
 show nth (b8 au.name b.points) (rk au.name b.points p.name:Int)=_
 rw[ke]
 exact rQ h.nodup (mq hk)
theorem IG{b:ab}(h:GP b.points){k:Int}{p:au}(hk:nth b.points k=some p):o9 (nb b) (o9 b k)=o9 b k:=by
 have:=Fv h hk
 have e:∀q,o9 (nb b) q=match nth (nb b).points q with|some p=>(rk au.name (nb b).points p.name:Int)|none=>0:=fun _=>rfl
 rw[e,this]
 show(rk au.name (b8 au.name b.points) p.name:Int)=o9 b k
 rw[sh (dQ _)]
 unfold o9;rw[hk]
theorem Ll{b:ab}(h:GP b.points):nb (nb b)=nb b:=by
 unfold nb;rw[qN h.nodup]
theorem MX{b:ab}(h:GP b.points):GP (nb b).points :=
 ⟨by rw[show (nb b).points=b8 au.name b.points from rfl,gh];exact h.len,((dQ b.points).map au.name).nodup_iff.2 h.nodup,fun m hm=>h.all m (kC.1 hm)⟩
section
variable {l:aj} (hl:Ok l)
include hl
theorem Ok.at{i:Int}{b:ab}(h:nth l.aa i=some b):nth (bY l).aa (gO l i)=some (nb b):=C0 hl.bn h
theorem Ok.Jq{i:Int}{b:ab}(h:nth l.aa i=some b):GP b.points:=(hl.aa b (mq h)).2
theorem Ok.BH{i:Int}{b:ab}(h:nth l.aa i=some b):gO (bY l) (gO l i)=gO l i:=by
 by_cases h0:i=0
 ·subst h0;rw[uN,uN]
 ·have e:∀q,gO (bY l) q=if q=0 then 0 else match nth (bY l).aa q with|some b=>1+(rk ab.name ((bY l).aa.drop 1) b.name:Int)|none=>0:=fun _=>rfl
  rw[e,if_neg (BG h h0),hl.at h]
  unfold gO
  rw[if_neg h0,h]
  show 1+(rk ab.name ((eJ l.aa).drop 1) b.name:Int)=1+(rk ab.name (l.aa.drop 1) b.name:Int)
  congr 2
  cases hb:l.aa with
  |nil=>rfl
  |cons f t =>
   show rk ab.name (b8 ab.name (t.map nb)) b.name=rk ab.name t b.name
   rw[sh (dQ _),tH nb xm]
theorem Ok.yS{i k:Int}{b:ab}{p:au}(h:nth l.aa i=some b)(hk:nth b.points k=some p):nJ (bY l) (gO l i) (nJ l i k)=nJ l i k:=by
 unfold nJ
 rw[hl.at h,h]
 exact IG (hl.Jq h) hk
theorem Ok.MY{j:ag}(h:Jp l j):Jp (bY l) (jN l j):=by
 obtain⟨A,B,P,Q,hA,hB,iO,hP,hQ,h⟩:=h
 have gA:=hl.at hA
 have gB:=hl.at hB
 have NG:gO l j.a≠gO l j.b:=fun e=>iO (qQ hl.bn hA hB e)
 have gP:=Fv (hl.Jq hA) hP
 have gQ:=Fv (hl.Jq hB) hQ
 have eP:nJ l j.a j.bq=o9 A j.bq:=by unfold nJ;rw[hA]
 have eQ:nJ l j.b j.fD=o9 B j.fD:=by unfold nJ;rw[hB]
 rcases h with ⟨h1,h2⟩|⟨h1,R,hR,h2⟩
 ·unfold jN uM
  rw[if_neg (by omega),eP,eQ]
  split
  ·exact⟨nb B,nb A,Q,P,gB,gA,NG.symm,gQ,gP,.inl ⟨h1,h2⟩⟩
  ·exact⟨nb A,nb B,P,Q,gA,gB,NG,gP,gQ,.inl ⟨h1,h2⟩⟩
 ·have gR:=Fv (hl.Jq hB) hR
  have eR:nJ l j.b j.fj=o9 B j.fj:=by unfold nJ;rw[hB]
  unfold jN
  rw[if_pos h1,eP,eQ,eR]
  by_cases cN:o9 B j.fD≤o9 B j.fj
  ·refine⟨nb A,nb B,P,Q,gA,gB,NG,gP,?_,.inr ⟨h1,R,?_,h2⟩⟩
   ·show nth (nb B).points (min _ _)=_;rw[Int.min_eq_left cN];exact gQ
   ·show nth (nb B).points (max _ _)=_;rw[Int.max_eq_right cN];exact gR
  ·refine⟨nb A,nb B,P,R,gA,gB,NG,gP,?_,.inr ⟨h1,Q,?_,fun ⟨e1,e2⟩=>h2 ⟨kd.2 (kd.1 e1).symm,kd.2 (kd.1 e2).symm⟩⟩⟩
   ·show nth (nb B).points (min _ _)=_;rw[Int.min_eq_right (by omega)];exact gR
   ·show nth (nb B).points (max _ _)=_;rw[Int.max_eq_left (by omega)];exact gQ
theorem Ok.norm:Ok (bY l) where
 name:=hl.name
 pos:=by show 0<(eJ l.aa).length;rw[ov];exact hl.pos
 len:=by show(eJ l.aa).length≤8;rw[ov];exact hl.len
 aa b hb:=by
  obtain⟨c,hc,rfl⟩:=List.mem_map.1 ((kG l.aa).mem_iff.1 hb)
  exact⟨(hl.aa c hc).1,MX (hl.aa c hc).2⟩
 bn:=by
  refine((kG l.aa).map ab.name).nodup_iff.2 ?_
  rw[kF];exact hl.bn
 jl:=by show(b8 _ _).length≤16;rw[gh,List.length_map];exact hl.jl
 an j hj:=by
  obtain⟨i,hi,rfl⟩:=List.mem_map.1 (kC.1 hj)
  exact⟨by rw[xn];exact(hl.an i hi).1,hl.MY (hl.an i hi).2⟩
 jn:=((dQ _).map ag.name).nodup_iff.2 (by rw[kD];exact hl.jn)
 dl:=by show(b8 _ _).length≤2;rw[gh,List.length_map];exact hl.dl
 ak d hd:=by
  obtain⟨i,hi,rfl⟩:=List.mem_map.1 (kC.1 hd)
  obtain⟨h1,⟨b,h2⟩,h3⟩:=hl.ak i hi
  exact⟨h1,⟨_,hl.at h2⟩,BG h2 h3⟩
 dn:=((dQ _).map af.name).nodup_iff.2 (by rw[kE];exact hl.dn)
 db:=by
  refine((dQ _).map af.body).nodup_iff.2 ?_
  rw[List.map_map]
  have:=hl.db
  refine List.pairwise_map.2 ((List.pairwise_map.1 this).imp_of_mem fun {a b} ha hb iO => ?_)
  obtain⟨_,⟨x,h2⟩,_⟩:=hl.ak a ha
  obtain⟨_,⟨y,h4⟩,_⟩:=hl.ak b hb
  exact fun e=>iO (qQ hl.bn h2 h4 e)
theorem Ok.KB{j:ag}(h:Jp l j):jN (bY l) (jN l j)=jN l j:=by
 obtain⟨A,B,P,Q,hA,hB,iO,hP,hQ,h⟩:=h
 have NG:gO l j.a≠gO l j.b:=fun e=>iO (qQ hl.bn hA hB e)
 have eA:=hl.BH hA
 have eB:=hl.BH hB
 have eP:=hl.yS hA hP
 have eQ:=hl.yS hB hQ
 rcases h with ⟨h1,h2⟩|⟨h1,R,hR,h2⟩
 ·have hk:j.kind≠1:=by omega
  by_cases cN:gO l j.b<gO l j.a
  ·have e:jN l j=⟨j.name,j.kind,gO l j.b,nJ l j.b j.fD,gO l j.a,nJ l j.a j.bq,j.fj⟩:=by unfold jN uM;rw[if_neg hk,if_pos cN]
   rw[e]
   unfold jN uM
   simp only[eA,eB,eP,eQ]
   rw[if_neg hk,if_neg (by omega)]
  ·have e:jN l j=⟨j.name,j.kind,gO l j.a,nJ l j.a j.bq,gO l j.b,nJ l j.b j.fD,j.fj⟩:=by unfold jN uM;rw[if_neg hk,if_neg cN]
   rw[e]
   unfold jN uM
   simp only[eA,eB,eP,eQ]
   rw[if_neg hk,if_neg cN]
 ·have eR:=hl.yS hB hR
  have e:jN l j=⟨j.name,j.kind,gO l j.a,nJ l j.a j.bq,gO l j.b,min (nJ l j.b j.fD) (nJ l j.b j.fj),max (nJ l j.b j.fD) (nJ l j.b j.fj)⟩:=by unfold jN;rw[if_pos h1]
  rw[e]
  unfold jN
  rw[if_pos h1]
  by_cases cN:nJ l j.b j.fD≤nJ l j.b j.fj
  ·simp only[Int.min_eq_left cN,Int.max_eq_right cN,eA,eB,eP,eQ,eR]
  ·have cN:nJ l j.b j.fj≤nJ l j.b j.fD:=by omega
   simp only[Int.min_eq_right cN,Int.max_eq_left cN,eA,eB,eP,eQ,eR,Int.min_eq_left cN,Int.max_eq_right cN]
theorem Ok.idem:bY (bY l)=bY l:=by
 have h1:eJ (eJ l.aa)=eJ l.aa:=by
  cases hb:l.aa with
  |nil=>rfl
  |cons f t =>
   have hn:=hl.bn
   rw[hb] at hn
   have zp:((t.map nb).map ab.name).Nodup:=by rw[kF];exact(List.nodup_cons.1 hn).2
   have m:=hl.aa;rw[hb] at m
   show nb (nb f)::b8 ab.name ((b8 ab.name (t.map nb)).map nb)=_
   rw[Ll (m f (List.mem_cons_self ..)).2,←si nb xm,List.map_map,List.map_congr_left (f:=nb ∘ nb) (g:=nb) (fun b hb=>Ll (m b (List.mem_cons_of_mem _ hb)).2),qN zp]
   rfl
 have h2:b8 ag.name ((b8 ag.name (l.an.map (jN l))).map (jN (bY l)))=b8 ag.name (l.an.map (jN l)):=by
  have zp:((l.an.map (jN l)).map ag.name).Nodup:=by rw[kD];exact hl.jn
  rw[←si (jN (bY l)) (xn _),List.map_map,List.map_congr_left (f:=jN (bY l) ∘ jN l) (g:=jN l) (fun j hj=>hl.KB (hl.an j hj).2),qN zp]
 have h3:b8 af.name ((b8 af.name (l.ak.map (dN l))).map (dN (bY l)))=b8 af.name (l.ak.map (dN l)):=by
  have zp:((l.ak.map (dN l)).map af.name).Nodup:=by rw[kE];exact hl.dn
  rw[←si (key:=af.name) (key':=af.name) (dN (bY l)) (fun _=>rfl),List.map_map,List.map_congr_left (f:=dN (bY l) ∘ dN l) (g:=dN l) (fun d hd => ?_),qN zp]
  obtain⟨_,⟨b,h⟩,_⟩:=hl.ak d hd
  show af.mk d.name (gO (bY l) (gO l d.body))=⟨d.name,gO l d.body⟩
  rw[hl.BH h]
 show aj.mk l.name (eJ (eJ l.aa)) (b8 ag.name ((b8 ag.name (l.an.map (jN l))).map (jN (bY l)))) (b8 af.name ((b8 af.name (l.ak.map (dN l))).map (dN (bY l))))=_
 rw[h1,h2,h3];rfl
end
end Go.Proofs.YtfjfekodeplcoaaGreat.Sym
