/- Lemmas for the statements of this seat. -/
import Derived.Test.YtllmkadmohkbfaaGreatDoorH1
import Derived.Test.YtllmkadmohkbfaaGreatDoorQ2
namespace Go.Proofs.YtllmkadmohkbfaaGreatDoor.Sym
open Go Path
set_option linter.unusedVariables false
namespace tE
open cP
theorem times(a b:Words)(ha:a.length≤2199023255552)(hb:b.length≤2199023255552):Cp 233 [aa a,aa b] (aa (words (nat a*nat b))):=by
 have inner:∀(i:Nat) (v:UInt32) (r:PV),a[i]? = some v→i<a.length→(∀site:Words,site.length=a.length+b.length→nat site=nat (a.take i)*nat b+4294967296^i*(v.toNat*nat b)→(∀q,i+1+b.length≤q→q<site.length→wd site q=0)→cI.ah a b (i+1) site r) →
   ∀(j k carry:Nat) (site:Words),b.length-k=j→k≤b.length→site.length=a.length+b.length→carry<4294967296→(∀q,i+b.length≤q→q<site.length→wd site q=0) →
   nat site+4294967296^(i+k)*carry=nat (a.take i)*nat b+4294967296^i*(v.toNat*nat (b.take k))→cI.bK a b i carry i k site r:=by
  intro i v r hv hi HT j
  induction j with
  |zero =>
   intro k carry site hj hk hs hc hz hinv
   have WU:k=b.length:=by omega
   subst WU
   obtain⟨w,hw⟩:=iw carry hc
   refine cI.CN a b i carry i b.length site w (by omega) (by omega) (by omega) (by omega) (by omega) (by omega) (HT _ (by simpa using hs) ?_ ?_)
   ·obtain⟨u,hu⟩:∃u,site[i+b.length]? = some u:=⟨_,List.getElem?_eq_getElem (by omega)⟩
    have h0:=hz (i+b.length) (by omega) (by omega)
    rw[jz hu] at h0
    have h1:=qn site (i+b.length) w u hu
    rw[h0,hw] at h1
    rw[aQ (l:=b) (by omega)] at hinv
    omega
   ·intro q SQ Hn
    rw[List.length_set] at Hn
    have:=hz q (by omega) Hn
    unfold wd at this ⊢
    rw[List.getElem?_set_ne (by omega)]
    exact this
  |succ j ih =>
   intro k carry site hj hk hs hc hz hinv
   obtain⟨u,hu⟩:∃u,b[k]? = some u:=⟨_,List.getElem?_eq_getElem (by omega)⟩
   obtain⟨x,hx⟩:∃x,site[i+k]? = some x:=⟨_,List.getElem?_eq_getElem (by omega)⟩
   have h1:=wX (jh v) (jh u)
   have h2:=jh x
   generalize hp:v.toNat*u.toNat=p at *
   obtain⟨w,hw⟩:=iw ((carry+(p+x.toNat))%4294967296) (by omega)
   have e:(2:Nat)^min 32 64=4294967296:=by decide
   refine cI.Ac a b i carry i k site v u p x (p+x.toNat) (carry+(p+x.toNat)) w ((carry+(p+x.toNat))/4294967296) (by omega) hv hu (by rw[hp];omega) (by omega) (by omega) hx (by omega) (by omega) hw.symm (by rw[e]) (by omega) (by omega) ?_
   refine ih (k+1) _ (site.set (i+k) w) (by omega) (by omega) (by simpa using hs) (by omega) ?_ ?_
   ·intro q SQ Hn
    rw[List.length_set] at Hn
    have:=hz q SQ Hn
    unfold wd at this ⊢
    rw[List.getElem?_set_ne (by omega)]
    exact this
   ·have g1:=qn site (i+k) w x hx
    rw[hw] at g1
    rw[bY hu,show i+(k+1)=i+k+1 from rfl,Nat.pow_succ,Nat.mul_assoc]
    have g2:4294967296^(i+k)*((carry+(p+x.toNat))%4294967296)+4294967296^(i+k)*(4294967296*((carry+(p+x.toNat))/4294967296))=4294967296^(i+k)*carry+4294967296^(i+k)*p+4294967296^(i+k)*x.toNat:=by
     rw[←Nat.mul_add,←Nat.mul_add,←Nat.mul_add];congr 1;omega
    have g3:4294967296^i*(v.toNat*(nat (b.take k)+4294967296^k*u.toNat))=4294967296^i*(v.toNat*nat (b.take k))+4294967296^(i+k)*p:=by
     rw[←hp,Nat.pow_add,Nat.mul_add,Nat.mul_add]
     congr 1
     rw[Nat.mul_assoc];congr 1
     rw[Nat.mul_left_comm]
    omega
 have loop:∀(j t:Nat) (site:Words),a.length-t=j→t≤a.length→site.length=a.length+b.length→nat site=nat (a.take t)*nat b→(∀q,t+b.length≤q→q<site.length→wd site q=0) →
   cI.ah a b t site (aa (words (nat a*nat b))):=by
  intro j
  induction j with
  |zero =>
   intro t site hj ht hs hinv _
   rw[aQ (by omega)] at hinv
   have:=cI.cR a b t site (words (nat site)) (by omega) (by omega) (trim site (by omega))
   rwa[hinv] at this
  |succ j ih =>
   intro t site hj ht hs hinv hz
   obtain⟨v,hv⟩:∃v,a[t]? = some v:=⟨_,List.getElem?_eq_getElem (by omega)⟩
   refine cI.l10 a b t site (by omega) ?_
   refine inner t v _ hv (by omega) (fun MF Kk Tp N0 => ?_) _ 0 0 site rfl (by omega) hs (by omega) hz ?_
   ·refine ih (t+1) MF (by omega) (by omega) Kk ?_ N0
    rw[Tp,bY hv,Nat.add_mul,Nat.mul_assoc]
   ·simp[nat,hinv]
 refine cI.e0 a b (by omega) (by omega) (loop _ 0 _ rfl (by omega) (by simp) (by simp[nat,mS]) ?_)
 intro q _ hq
 unfold wd
 rw[List.getElem?_replicate]
 split
 ·rename_i w h
  split at h
  ·injection h with h;subst h;rfl
  ·cases h
 ·rfl
theorem Dx(k:Nat):(4294967296:Nat)^k=2^(32*k):=by rw[Nat.pow_mul]
theorem RR{l:Words}{k:Nat}(h:l.length=k+1):nat l=nat (l.take k)+4294967296^k*wd l k:=by
 have:=et l k
 rwa[aQ (by omega)] at this
theorem bits(a:Words)(hc:cn a=true)(ha:a.length≤2199023255553):Cp 293 [aa a] (vI (blen (nat a))):=by
 by_cases h0:a.length=0
 ·have:a=[]:=List.eq_nil_of_length_eq_zero h0
  subst this
  exact ee.e0 [] rfl
 ·have loop:∀(j:Nat) (n:Int) (x:UInt32),x.toNat≤j→ax (n+j)→ax n→ee.ah n x (vI (n+blen x.toNat)):=by
   intro j
   induction j with
   |zero =>
    intro n x hx _ _
    have e:x.toNat=0:=by omega
    rw[e,ug]
    have:=ee.cR n x (by omega)
    rwa[show n+((0:Nat):Int)=n from by omega]
   |succ j ih =>
    intro n x hx hn Xe
    by_cases h:x.toNat=0
    ·rw[h,ug]
     have:=ee.cR n x (by omega)
     rwa[show n+((0:Nat):Int)=n from by omega]
    ·obtain⟨z,hz⟩:=iw (x.toNat/2) (by have:=jh x;omega)
     have e:blen x.toNat=1+blen (x.toNat/2):=by
      have:=tC (n:=x.toNat) (k:=1)
      by_cases h1:x.toNat=1
      ·rw[h1];rfl
      ·exact this (by omega)
     unfold ax at hn Xe
     have:=ih (n+1) z (by omega) (by unfold ax;omega) (by unfold ax;omega)
     rw[hz] at this
     rw[e,show n+((1+blen (x.toNat/2):Nat):Int)=n+1+(blen (x.toNat/2):Nat) from by omega]
     exact ee.l10 n x z (by omega) (by unfold ax;omega) (by rw[hz];rfl) this
  obtain⟨k,hk⟩:∃k,a.length=k+1:=⟨a.length-1,by omega⟩
  obtain⟨v,hv⟩:∃v,a[k]? = some v:=⟨_,List.getElem?_eq_getElem (by omega)⟩
  have h1:=(nd (v:=v) (by rw[hk];exact hv)).1 hc
  have h2:=eL (a.take k)
  rw[List.length_take,Nat.min_eq_left (by omega)] at h2
  have h3:=RR hk
  rw[jz hv] at h3
  have e:blen (nat a)=32*k+blen v.toNat:=by
   rw[Dx] at h2 h3
   have h4:2^(32*k)≤nat a:=by
    have:=Nat.mul_le_mul_left (2^(32*k)) (show 1≤v.toNat by omega)
    omega
   rw[tC h4]
   congr 2
   rw[h3,Nat.add_mul_div_left _ _ (Nat.two_pow_pos _),Nat.div_eq_of_lt h2,Nat.zero_add]
  have hw:=jh v
  have:=loop v.toNat (32*((a.length:Int)-1)) v (Nat.le_refl _) (by unfold ax;omega) (by unfold ax;omega)
  rw[e,show((32*k+blen v.toNat:Nat):Int)=32*((a.length:Int)-1)+(blen v.toNat:Nat) from by omega]
  exact ee.e1 a k v h0 (by unfold ax;omega) (by unfold ax;omega) (by omega) hv this
theorem MS{v c:Nat}(hv:v<4294967296)(hc:c≤1):((v*2^(min 1 32))%4294967296%4294967296) ||| (c%4294967296)=(2*v)%4294967296+c:=by
 have e:(2:Nat)^min 1 32=2:=by decide
 rw[e,Nat.mod_mod,Nat.mod_eq_of_lt (show c<4294967296 by omega)]
 obtain⟨u,hu⟩:∃u,(v*2)%4294967296=2*u:=⟨(v*2)%4294967296/2,by omega⟩
 rw[hu]
 have:=Nat.two_pow_add_eq_or_of_lt (i:=1) (show c<2^1 by omega) u
 rw[show (2:Nat)^1=2 from rfl] at this
 rw[←this];omega
theorem RS{v s:Nat}(hs:s<32)(hv:v%2^(s+1)=0)(hl:v<4294967296):(v%4294967296) ||| (((1*2^(min (s%32) 32))%4294967296)%4294967296)=v+2^s:=by
 have h1:2^s<4294967296:=by
  have:=Nat.pow_lt_pow_right (a:=2) (by omega) hs
  omega
 rw[Nat.mod_eq_of_lt hs,Nat.min_eq_left (by omega),Nat.one_mul,Nat.mod_mod,Nat.mod_eq_of_lt hl,Nat.mod_eq_of_lt h1]
 have h2:v=2^(s+1)*(v/2^(s+1)):=by have:=Nat.div_add_mod v (2^(s+1));omega
 have h3:=Nat.two_pow_add_eq_or_of_lt (i:=s+1) (show 2^s<2^(s+1) by rw[Nat.pow_succ];have:=Nat.two_pow_pos s;omega) (v/2^(s+1))
 rw[←h2] at h3
 exact h3.symm
theorem MT(a:Words)(t:Nat)(ht:t≤a.length):wd a t=nat a/4294967296^t%4294967296:=by
 rw[tD a t ht,jM a t]
 have:=nF a t
 omega
theorem RT(a:Words)(t s Q:Nat)(hs:s<32)(ht:t≤a.length)(h:nat a=Q*2^(32*t+s+1)):wd a t%2^(s+1)=0:=by
 rw[MT a t ht,h,Dx,show 32*t+s+1=(s+1)+32*t from by omega,Nat.pow_add,←Nat.mul_assoc,Nat.mul_div_cancel _ (Nat.two_pow_pos _)]
 have:(4294967296:Nat)=2^(s+1)*2^(32-(s+1)):=by rw[←Nat.pow_add,show s+1+(32-(s+1))=32 from by omega]
 rw[this,Nat.mod_mul_right_mod,Nat.mul_mod_left]
theorem RU(a:Words)(k:Nat)(hk:k/32≤a.length):wd a (k/32)/2^(k%32)%2=nat a/2^k%2:=by
 rw[MT a _ hk,Dx]
 have e:(4294967296:Nat)=2^(k%32)*2^(32-k%32):=by rw[←Nat.pow_add,show k%32+(32-k%32)=32 from by omega]
 have e2:(2:Nat)^(32-k%32)=2*2^(31-k%32):=by rw[show 32-k%32=(31-k%32)+1 from by omega,Nat.pow_succ,Nat.mul_comm]
 rw[e,Nat.mod_mul_right_div_self,e2,Nat.mod_mul_right_mod,Nat.div_div_eq_div_mul,←Nat.pow_add,Nat.div_add_mod]
theorem dbl(a b:Words)(hb:b.length≤2199023255552):∀(i:Int) (q R:Words) (bit:Nat) (r:PV),R.length=b.length+1→nat R<nat b→bit≤1 →
  (∀(c:UInt32) (t:Nat) (U:Words),b.length+1≤t→U.length=b.length+1→nat U=2*nat R+bit→b7.bK a b i c t q U r) →
  ∀(j t:Nat) (c:UInt32) (U:Words),b.length+1-t=j→t≤b.length+1→U.length=b.length+1→c.toNat≤1→(∀p,t≤p→wd U p=wd R p) →
  nat (U.take t)+4294967296^t*c.toNat=2*nat (R.take t)+bit→b7.bK a b i c t q U r:=by
 have aa9:=eL b
 have Qd:2*nat b<4294967296^(b.length+1):=by rw[Nat.pow_succ];omega
 intro i q R bit r hR hRb RV HT j
 induction j with
 |zero =>
  intro t c U hj ht hU hc il hinv
  have wH:t=b.length+1:=by omega
  rw[←wH] at Qd
  refine HT c _ U (by omega) hU ?_
  rw[aQ (by omega),aQ (by omega)] at hinv
  clear wH
  generalize 4294967296^t=P at hinv Qd
  have:c.toNat=0:=by
   refine Nat.eq_zero_of_not_pos fun hp => ?_
   have:=Nat.mul_le_mul_left P (show 1≤c.toNat from hp)
   omega
  rw[this] at hinv
  omega
 |succ j ih =>
  intro t c U hj ht hU hc il hinv
  obtain⟨v,hv⟩:∃v,U[t]? = some v:=⟨_,List.getElem?_eq_getElem (by omega)⟩
  have Fj:=il t (Nat.le_refl t)
  rw[jz hv] at Fj
  have AN:=jh v
  obtain⟨z,hz⟩:=iw ((v.toNat*2^(min 1 32))%4294967296) (Nat.mod_lt _ (by omega))
  obtain⟨z1,Gi⟩:=iw ((2*v.toNat)%4294967296+c.toNat) (by omega)
  obtain⟨z2,Og⟩:=iw (v.toNat/2147483648) (by omega)
  have e31:(2:Nat)^min 31 32=2147483648:=by decide
  refine b7.Ac a b i c t q U v z z1 z2 (by omega) hv hz.symm (by rw[hz,Gi];exact MS AN hc) (by rw[e31,Og]) (by omega) (by omega) ?_
  refine ih (t+1) z2 (U.set t z1) (by omega) (by omega) (by simpa using hU) (by omega) (fun p hp=>by rw[ui (by omega)];exact il p (by omega)) ?_
  rw[gQ (by omega),et R t,←Fj,Gi,Og,Nat.pow_succ,Nat.mul_assoc]
  have h6:4294967296^t*((2*v.toNat)%4294967296+c.toNat)+4294967296^t*(4294967296*(v.toNat/2147483648))=4294967296^t*c.toNat+2*(4294967296^t*v.toNat):=by
   rw[Nat.mul_left_comm 2,←Nat.mul_add,←Nat.mul_add]
   congr 1
   omega
  omega
theorem ku(a b:Words)(P8:cn a=true)(Jw:0<nat b)(ha:a.length≤2199023255552)(hb:b.length≤2199023255552) :
  Cp 274 [aa a,aa b] (.aB [aa (words (nat a/nat b)),aa (words (nat a%nat b))]):=by
 have loop:∀(n Q:Nat) (q R:Words),q.length=a.length→R.length=b.length+1→n≤blen (nat a)→n≤32*a.length→nat a/2^n=Q*nat b+nat R→nat R<nat b→nat q=Q*2^n →
   b7.ah a b ((n:Int)-1) q R (.aB [aa (words (nat a/nat b)),aa (words (nat a%nat b))]):=by
  intro n
  induction n with
  |zero =>
   intro Q q R hq hR _ _ hdiv ba Qc
   have h1:=trim q (by omega)
   have h2:=trim R (by omega)
   rw[Nat.pow_zero,Nat.div_one] at hdiv
   rw[Nat.pow_zero,Nat.mul_one] at Qc
   have e1:nat a/nat b=nat q:=by
    rw[Qc,hdiv,Nat.add_comm,Nat.add_mul_div_right _ _ Jw,Nat.div_eq_of_lt ba,Nat.zero_add]
   have e2:nat a%nat b=nat R:=by
    rw[hdiv,Nat.add_comm,Nat.add_mul_mod_self_right,Nat.mod_eq_of_lt ba]
   rw[e1,e2]
   exact b7.cR a b _ q R _ _ (by omega) (by omega) (by omega) h1 h2
  |succ n ih =>
   intro Q q R hq hR hn KA hdiv ba Qc
   have KC:n/32<a.length:=by omega
   obtain⟨v,hv⟩:∃v,a[n/32]? = some v:=⟨_,List.getElem?_eq_getElem KC⟩
   have AN:=jh v
   have hs:n%32<32:=Nat.mod_lt _ (by omega)
   obtain⟨z,hz⟩:=iw (v.toNat/2^(n%32)) (Nat.lt_of_le_of_lt (Nat.div_le_self _ _) AN)
   obtain⟨z1,Gi⟩:=iw (nat a/2^n%2) (by omega)
   have RV:=RU a n (by omega)
   rw[jz hv] at RV
   rw[show ((n+1:Nat):Int)-1=(n:Int) from by omega]
   refine b7.l10 a b (n:Int) q R n v n z z1 (by omega) rfl (by omega) hv rfl (by rw[Nat.min_eq_left (by omega),hz]) ?_ ?_
   ·rw[show (1:Nat)%4294967296=1 from rfl,Nat.and_one_is_mod,Gi,←RV,hz]
    have:=Nat.lt_of_le_of_lt (Nat.div_le_self v.toNat (2^(n%32))) AN
    omega
   ·have Jp:nat a/2^n=2*(nat a/2^(n+1))+nat a/2^n%2:=by
     rw[Nat.pow_succ,←Nat.div_div_eq_div_mul];omega
    have tU:nat a/2^n%2≤1:=by omega
    generalize hbv:nat a/2^n%2=bit at *
    refine dbl a b hb (n:Int) q R bit _ hR ba tU ?_ _ 0 z1 R rfl (by omega) hR (by omega) (fun _ _=>rfl) (by simp[nat];exact Gi)
    intro c t U ht hU YO
    have BN:=MQ U b (b.length+1) hU.symm (by omega) (by omega)
    by_cases CD:nat b≤nat U
    ·obtain⟨V,hV1,hV2,hV3⟩:=take U b (b.length+1) hU.symm (by omega) CD
     obtain⟨u,hu⟩:∃u,q[n/32]? = some u:=⟨_,List.getElem?_eq_getElem (by omega)⟩
     have xE:=jh u
     have zR:=RT q (n/32) (n%32) Q hs (by omega) (by rw[Qc,show 32*(n/32)+n%32+1=n+1 from by omega])
     rw[jz hu] at zR
     have h2s:2^(n%32)<4294967296:=by
      have:=Nat.pow_lt_pow_right (a:=2) (by omega) hs
      omega
     obtain⟨z2,Og⟩:=iw ((1*2^(min (n%32) 32))%4294967296) (Nat.mod_lt _ (by omega))
     have SR:=RS hs zR xE
     rw[Nat.mod_eq_of_lt hs] at SR
     have hbound:u.toNat+2^(n%32)<4294967296:=by
      rw[←SR]
      exact Nat.or_lt_two_pow (n:=32) (Nat.mod_lt _ (by omega)) (Nat.mod_lt _ (by omega))
     obtain⟨z3,YP⟩:=iw _ hbound
     refine b7.CN a b (n:Int) c t q U U _ V n u n z2 z3 ht BN (by unfold dR;split<;>(try split)<;>omega) hV3 rfl (by omega) KC hu rfl Og.symm (by rw[Og,YP];exact SR) (by omega) (by unfold ax;omega) ?_
     refine ih (2*Q+1) (q.set (n/32) z3) V (by simpa using hq) (by omega) (by omega) (by omega) ?_ ?_ ?_
     ·rw[Jp,hdiv,hV2,YO,Nat.add_mul,Nat.mul_add,Nat.mul_assoc];omega
     ·omega
     ·have g:=qn q (n/32) z3 u hu
      rw[YP,Nat.mul_add,Qc,Dx,←Nat.pow_add,show 32*(n/32)+n%32=n from by omega] at g
      rw[Nat.pow_succ] at g
      have:(2*Q+1)*2^n=Q*(2^n*2)+2^n:=by rw[Nat.add_mul,Nat.one_mul,Nat.mul_comm 2 Q,Nat.mul_assoc,Nat.mul_comm 2 (2^n)]
      omega
    ·refine b7.Mt a b (n:Int) c t q U U _ ht BN (by unfold dR;split<;>(try split)<;>omega) (by unfold ax;omega) ?_
     refine ih (2*Q) q U hq hU (by omega) (by omega) ?_ (by omega) ?_
     ·rw[Jp,hdiv,YO,Nat.mul_add,Nat.mul_assoc];omega
     ·rw[Qc,Nat.pow_succ,Nat.mul_comm 2 Q,Nat.mul_assoc,Nat.mul_comm 2 (2^n)]
 have Uc:=bits a P8 (by omega)
 have RI:blen (nat a)≤32*a.length:=se (by rw[←Dx];exact eL a)
 refine b7.e0 a b _ (by omega) (by omega) (by omega) Uc (by unfold ax;omega) ?_
 refine loop (blen (nat a)) 0 _ _ (by simp) (by simp) (Nat.le_refl _) RI ?_ ?_ ?_
 ·rw[mS,Nat.div_eq_of_lt (O0 _)];simp
 ·rw[mS];exact Jw
 ·rw[mS];simp
theorem wZ{p:Nat}(hp:0<p):∃v z:UInt32,0<(words p).length∧(words p)[0]? = some v∧(v.toNat%4294967296) &&& (1%4294967296)=z.toNat∧z.toNat=p%2:=by
 have hl:0<(words p).length:=Nat.pos_of_ne_zero (by rw[Ne,dK];omega)
 obtain⟨v,hv⟩:∃v,(words p)[0]? = some v:=⟨_,List.getElem?_eq_getElem hl⟩
 obtain⟨z,hz⟩:=iw (p%2) (by omega)
 refine⟨v,z,hl,hv,?_,hz⟩
 have h:=MT (words p) 0 (by omega)
 rw[jz hv,aD,Nat.pow_zero,Nat.div_one] at h
 rw[show (1:Nat)%4294967296=1 from rfl,Nat.and_one_is_mod,hz,h]
 omega
theorem Gn{p q:Nat}(hp:p%2=0)(hq:q%2=1):Nat.gcd (p/2) q=Nat.gcd p q:=by
 have hc:Nat.Coprime 2 q:=by
  unfold Nat.Coprime
  rw[Nat.gcd_rec,hq];rfl
 have:=Nat.Coprime.gcd_mul_left_cancel (p/2) hc
 rw[←this]
 congr 1
 omega
theorem w5{p q k:Nat}(hq:0<q)(h:(words q).length≤k):(words (Nat.gcd p q)).length≤k:=Nat.le_trans (ek (Nat.le_of_dvd hq (Nat.gcd_dvd_right p q))) h
theorem EJ(p:Nat)(hp:(words p).length≤2199023255553):av bp 279 [.row 100000 0 (words p).length 1] [(100000,ws (words p))] (.row 100000 0 (words (p/2)).length 1) [(100000,ws (words (p/2)))]:=by
 have:=MR (words p) _ rfl hp
 rwa[aD] at this
theorem Qe(p q:Nat)(hp:(words p).length≤2199023255553)(PZ:q≤p):∃U:Words,U.length=(words p).length ∧
  av bp 280 [.row 100000 0 (words p).length 1,.row 100001 0 (words q).length 1] [(100000,ws (words p)),(100001,ws (words q))] (.pv (.aB [])) [(100000,ws U),(100001,ws (words q))] ∧
  av bp 281 [.row 100000 0 (words p).length 1] [(100000,ws U)] (.row 100000 0 (words (p-q)).length 1) [(100000,ws (words (p-q)))]:=by
 obtain⟨U,h1,h2,h3⟩:=Ua (words p) (words q) _ _ rfl rfl hp (by rw[aD,aD];exact PZ)
 have hc:=cut U (by omega)
 rw[aD,aD] at h2
 rw[h2,h1] at hc
 exact⟨U,h1,h3,hc⟩
theorem gcd(a b:Words)(ha:a.length≤1099511627776)(hb:b.length≤1099511627776):Cp 255 [aa a,aa b] (aa (words (Nat.gcd (nat a) (nat b)))):=by
 have t1:=Qb a (by omega)
 have t2:=Qb b (by omega)
 have la:=BJ a
 have lb:=BJ b
 generalize nat a=A at *
 generalize nat b=B at *
 by_cases hA:A=0
 ·subst hA
  rw[Nat.gcd_zero_left]
  exact aV.e0 a b _ _ _ _ t1 t2 (by rw[fF];rfl) rfl
 by_cases hB:B=0
 ·subst hB
  rw[Nat.gcd_zero_right]
  exact aV.e1 a b _ _ _ _ t1 t2 (by rw[Ne,dK];exact hA) (by rw[fF];rfl) rfl
 refine aV.e2 a b _ _ _ _ t1 t2 (by rw[Ne,dK];exact hA) (by rw[Ne,dK];exact hB) ?_
 have fin:∀(j m t64 t65:Nat),t64-t65=j→t64<9223372036854775808→(words (m*2^j)).length≤1099511627776→aV.Gc (words m) t64 t65 (aa (words (m*2^j))):=by
  intro j
  induction j with
  |zero =>
   intro m t64 t65 hj _ _
   rw[Nat.pow_zero,Nat.mul_one]
   exact aV.Z1 _ _ _ (by omega)
  |succ j ih =>
   intro m t64 t65 hj ht hl
   have e:m*2^(j+1)=(m+m)*2^j:=by rw[Nat.pow_succ,Nat.add_mul,←Nat.mul_assoc];omega
   have hm:(words m).length≤1099511627776:=by
    refine Nat.le_trans (ek ?_) hl
    have:=Nat.mul_le_mul_left m (Nat.two_pow_pos (j+1))
    omega
   have hp:=plus (words m) (words m) (by omega) (by omega)
   rw[aD] at hp
   rw[e] at hl ⊢
   exact aV.Z0 _ _ _ _ (by omega) hp (by omega) (ih (m+m) t64 (t65+1) (by omega) ht hl)
 have rounds:∀(s p q tw:Nat),p+q≤s→0<q→(words p).length≤1099511627776→(words q).length≤1099511627776→tw<9223372036854775808→(words (Nat.gcd p q*2^tw)).length≤1099511627776 →
   ((p%2=1∨q%2=1)→aV.bK (words p).length (words q).length tw (words p) (words q) (aa (words (Nat.gcd p q*2^tw)))) ∧
   (0<p→(p%2=1∨q%2=1)→aV.mB (words p).length (words q).length tw (words p) (words q) (aa (words (Nat.gcd p q*2^tw)))) ∧
   (p%2=1→aV.BB (words p).length (words q).length tw (words p) (words q) (aa (words (Nat.gcd p q*2^tw)))):=by
  intro s
  induction s with
  |zero=>intro p q tw h1 h2;omega
  |succ s ih =>
   intro p q tw hs hq lp lq RW hl
   have L5:p%2=1→aV.BB (words p).length (words q).length tw (words p) (words q) (aa (words (Nat.gcd p q*2^tw))):=by
    intro hp
    obtain⟨v,z,g1,g2,g3,g4⟩:=wZ hq
    by_cases he:q%2=0
    ·have hg:=Gn (p:=q) (q:=p) he hp
     have:=(ih p (q/2) tw (by omega) (by omega) lp (Nat.le_trans (ek (Nat.div_le_self q 2)) lq) RW (by rw[Nat.gcd_comm,hg,Nat.gcd_comm];exact hl)).2.2 hp
     rw[Nat.gcd_comm,hg,Nat.gcd_comm] at this
     exact aV.Z2 _ _ tw _ _ v z _ _ g1 g2 g3 (by omega) (EJ q (by omega)) this
    ·have hc:=KP (words p) (words q) _ _ rfl rfl (by omega) (by omega)
     rw[aD,aD] at hc
     by_cases ba:p<q
     ·obtain⟨U,u1,u2,u3⟩:=Qe q p (by omega) (by omega)
      have hg:Nat.gcd (q-p) p=Nat.gcd p q:=by rw[Nat.gcd_sub_self_left (by omega),Nat.gcd_comm]
      have:=(ih (q-p) p tw (by omega) (by omega) (Nat.le_trans (ek (Nat.sub_le q p)) lq) lp RW (by rw[hg];exact hl)).1 (by omega)
      rw[hg] at this
      exact aV.Z3 _ _ tw _ _ v z _ _ _ U _ _ _ g1 g2 g3 (by omega) hc (by unfold dR;split<;>(try split)<;>omega) u2 u3 this
     ·obtain⟨U,u1,u2,u3⟩:=Qe p q (by omega) (by omega)
      have hg:Nat.gcd (p-q) q=Nat.gcd p q:=Nat.gcd_sub_self_left (by omega)
      have:=(ih (p-q) q tw (by omega) hq (Nat.le_trans (ek (Nat.sub_le p q)) lp) lq RW (by rw[hg];exact hl)).1 (by omega)
      rw[hg] at this
      exact aV.Z4 _ _ tw _ _ v z _ _ _ U _ _ _ g1 g2 g3 (by omega) hc (by unfold dR;split<;>(try split)<;>omega) u2 u3 this
   have L3:0<p→(p%2=1∨q%2=1)→aV.mB (words p).length (words q).length tw (words p) (words q) (aa (words (Nat.gcd p q*2^tw))):=by
    intro hp Ud
    obtain⟨v,z,g1,g2,g3,g4⟩:=wZ hp
    by_cases he:p%2=0
    ·have hg:=Gn (p:=p) (q:=q) he (by omega)
     have:=(ih (p/2) q tw (by omega) hq (Nat.le_trans (ek (Nat.div_le_self p 2)) lp) lq RW (by rw[hg];exact hl)).2.1 (by omega) (by omega)
     rw[hg] at this
     exact aV.WH _ _ tw _ _ v z _ _ g1 g2 g3 (by omega) (EJ p (by omega)) this
    ·exact aV.TV _ _ tw _ _ v z g1 g2 g3 (by omega) (L5 (by omega))
   refine⟨fun Ud => ?_,L3,L5⟩
   by_cases hp:p=0
   ·subst hp
    rw[Nat.gcd_zero_left] at hl ⊢
    exact aV.CN _ _ tw _ _ (by rw[fF];simp) rfl (fin tw q tw 0 rfl RW hl)
   ·exact aV.Ac _ _ tw _ _ (Nat.pos_of_ne_zero (by rw[Ne,dK];exact hp)) (L3 (by omega) Ud)
 have first:∀(s p q tw:Nat),p+q≤s→0<p→0<q→(words p).length≤1099511627776→(words q).length≤1099511627776→(words (Nat.gcd p q*2^tw)).length≤1099511627776 →
   aV.ah (words p).length (words q).length tw (words p) (words q) (aa (words (Nat.gcd p q*2^tw))):=by
  intro s
  induction s with
  |zero=>intro p q tw h1 h2;omega
  |succ s ih =>
   intro p q tw hs hp hq lp lq hl
   have RW:tw+1<9223372036854775808:=by
    have h1:2^tw≤Nat.gcd p q*2^tw:=Nat.le_mul_of_pos_left _ (Nat.gcd_pos_of_pos_left _ hp)
    have h2:=j9 (Nat.gcd p q*2^tw)
    rw[Dx] at h2
    have h3:=(Nat.pow_lt_pow_iff_right (a:=2) (by omega)).1 (Nat.lt_of_le_of_lt h1 h2)
    omega
   obtain⟨v,z,g1,g2,g3,g4⟩:=wZ hp
   by_cases he:p%2=0
   ·obtain⟨v',z',UY,Ld,UZ,UR⟩:=wZ hq
    by_cases hO:q%2=0
    ·have hg:Nat.gcd (p/2) (q/2)*2^(tw+1)=Nat.gcd p q*2^tw:=by
      have h:=Nat.gcd_mul_left 2 (p/2) (q/2)
      rw[show 2*(p/2)=p from by omega,show 2*(q/2)=q from by omega] at h
      rw[h,Nat.pow_succ,Nat.mul_comm 2,Nat.mul_assoc,Nat.mul_comm 2]
     have:=ih (p/2) (q/2) (tw+1) (by omega) (by omega) (by omega) (Nat.le_trans (ek (Nat.div_le_self p 2)) lp) (Nat.le_trans (ek (Nat.div_le_self q 2)) lq) (by rw[hg];exact hl)
     rw[hg] at this
     exact aV.l10 _ _ tw _ _ v z v' z' _ _ _ _ g1 g2 g3 (by omega) UY Ld UZ (by omega) (EJ p (by omega)) (EJ q (by omega)) RW this
    ·exact aV.cR _ _ tw _ _ v z v' z' g1 g2 g3 (by omega) UY Ld UZ (by omega) ((rounds (p+q) p q tw (Nat.le_refl _) hq lp lq (by omega) hl).1 (by omega))
   ·exact aV.kM _ _ tw _ _ v z g1 g2 g3 (by omega) ((rounds (p+q) p q tw (Nat.le_refl _) hq lp lq (by omega) hl).1 (by omega))
 have:=first (A+B) A B 0 (Nat.le_refl _) (by omega) (by omega) (by omega) (by omega) (by rw[Nat.pow_zero,Nat.mul_one];exact w5 (by omega) (by omega))
 rwa[Nat.pow_zero,Nat.mul_one] at this
end tE
namespace tE
open cP
theorem Sign(a:au)(h:Fit a.cD):Cp 211 [a.pv] (vI (px a.val)):=by
 have hm:=cD a h
 by_cases h0:a.val=0
 ·rw[h0,Gk]
  exact iO.e0 a _ hm (by rw[h0];rfl)
 ·have hg:=neg a h
  have hl:(words a.val.natAbs).length≠0:=by rw[Ne,dK];omega
  by_cases hn:a.val<0
  ·rw[Jz hn]
   exact iO.e1 a _ _ hm hl hg (decide_eq_true hn)
  ·rw[JA (by omega)]
   exact iO.e2 a _ _ hm hl hg (decide_eq_false hn)
theorem Neg(a:au)(h:Fit a.cD):Cp 170 [a.pv] (Sym.whole (-a.val)).pv:=by
 have h3:=cD a h
 have h5:=neg a h
 have la:=bc a
 have hw:=form (!decide (a.val<0)) (words a.val.natAbs) (by have:(words a.val.natAbs).length≤a.cD.length:=la;omega)
 have e:(bif !decide (a.val<0) then -(nat (words a.val.natAbs):Int) else (nat (words a.val.natAbs):Int)) = -a.val:=by
  rw[aD]
  by_cases h:a.val<0
  ·simp[h];omega
  ·simp[h];omega
 rw[e] at hw
 exact pU.e0 a _ _ _ h5 h3 hw
theorem Add(a b:au)(ha:Fit a.cD)(hb:Fit b.cD):Cp 146 [a.pv,b.pv] (Sym.whole (a.val+b.val)).pv:=by
 have h1:=cD a ha
 have h2:=cD b hb
 have h3:=neg a ha
 have h4:=neg b hb
 have la:(words a.val.natAbs).length≤a.cD.length:=bc a
 have lb:(words b.val.natAbs).length≤b.cD.length:=bc b
 by_cases hs:decide (a.val<0)=decide (b.val<0)
 ·have hp:=plus (words a.val.natAbs) (words b.val.natAbs) (by omega) (by omega)
  rw[aD,aD] at hp
  have hl:=e9 (n:=a.val.natAbs+b.val.natAbs) (k:=max (words a.val.natAbs).length (words b.val.natAbs).length+1) (by
   have g1:=j9 a.val.natAbs
   have g2:=j9 b.val.natAbs
   have g3:=mg (Nat.le_max_left (words a.val.natAbs).length (words b.val.natAbs).length)
   have g4:=mg (Nat.le_max_right (words a.val.natAbs).length (words b.val.natAbs).length)
   rw[Nat.pow_succ];omega)
  have hw:=form (decide (a.val<0)) (words (a.val.natAbs+b.val.natAbs)) (by omega)
  rw[aD] at hw
  have e:(bif decide (a.val<0) then -((a.val.natAbs+b.val.natAbs:Nat):Int) else ((a.val.natAbs+b.val.natAbs:Nat):Int))=a.val+b.val:=by
   by_cases h:a.val<0
   ·have:b.val<0:=by simpa[h] using hs.symm
    simp[h];omega
   ·have:¬b.val<0:=by simpa[h] using hs.symm
    simp[h];omega
  rw[e] at hw
  exact jw.e0 a b _ _ _ _ _ _ _ h1 h2 h3 h4 hs h3 hp hw
 ·have hc:=compare (words a.val.natAbs) (words b.val.natAbs) (by omega) (by omega)
  rw[aD,aD] at hc
  by_cases CD:b.val.natAbs≤a.val.natAbs
  ·have hl:=minus (words a.val.natAbs) (words b.val.natAbs) (by omega) (by rw[aD,aD];exact CD)
   rw[aD,aD] at hl
   have hlen:=ek (show a.val.natAbs-b.val.natAbs≤a.val.natAbs by omega)
   have hw:=form (decide (a.val<0)) (words (a.val.natAbs-b.val.natAbs)) (by omega)
   rw[aD] at hw
   have e:(bif decide (a.val<0) then -((a.val.natAbs-b.val.natAbs:Nat):Int) else ((a.val.natAbs-b.val.natAbs:Nat):Int))=a.val+b.val:=by
    by_cases h:a.val<0
    ·have:¬b.val<0:=by simpa[h] using hs
     simp[h];omega
    ·have:b.val<0:=by simpa[h] using hs
     simp[h];omega
   rw[e] at hw
   exact jw.e1 a b _ _ _ _ _ _ _ _ h1 h2 h3 h4 hs hc (by unfold dR;split<;>(try split)<;>omega) h3 hl hw
  ·have hl:=minus (words b.val.natAbs) (words a.val.natAbs) (by omega) (by rw[aD,aD];omega)
   rw[aD,aD] at hl
   have hlen:=ek (show b.val.natAbs-a.val.natAbs≤b.val.natAbs by omega)
   have hw:=form (decide (b.val<0)) (words (b.val.natAbs-a.val.natAbs)) (by omega)
   rw[aD] at hw
   have e:(bif decide (b.val<0) then -((b.val.natAbs-a.val.natAbs:Nat):Int) else ((b.val.natAbs-a.val.natAbs:Nat):Int))=a.val+b.val:=by
    by_cases h:b.val<0
    ·have:¬a.val<0:=by intro h';simp[h,h'] at hs
     simp[h];omega
    ·have:a.val<0:=by
      refine Classical.byContradiction fun h' => ?_
      simp[h,h'] at hs
     simp[h];omega
   rw[e] at hw
   exact jw.e2 a b _ _ _ _ _ _ _ _ h1 h2 h3 h4 hs hc (by unfold dR;split<;>(try split)<;>omega) h4 hl hw
theorem Sub(a b:au)(ha:Fit a.cD)(hb:Fit b.cD):Cp 254 [a.pv,b.pv] (Sym.whole (a.val-b.val)).pv:=by
 have h1:=Neg b hb
 have h2:=Add a (Sym.whole (-b.val)) ha (by
  have:=bc b
  show(words (-b.val).natAbs).length≤_
  rw[Int.natAbs_neg]
  have:(words b.val.natAbs).length≤b.cD.length:=this
  omega)
 rw[aw,←Int.sub_eq_add_neg] at h2
 exact pX.e0 a b _ _ h1 h2
theorem Mul(a b:au)(ha:Fit a.cD)(hb:Fit b.cD):Cp 147 [a.pv,b.pv] (Sym.whole (a.val*b.val)).pv:=by
 have h1:=cD a ha
 have h2:=cD b hb
 have h3:=neg a ha
 have h4:=neg b hb
 have la:(words a.val.natAbs).length≤a.cD.length:=bc a
 have lb:(words b.val.natAbs).length≤b.cD.length:=bc b
 have ht:=times (words a.val.natAbs) (words b.val.natAbs) (by omega) (by omega)
 rw[aD,aD] at ht
 have hl:(words (a.val.natAbs*b.val.natAbs)).length≤(words a.val.natAbs).length+(words b.val.natAbs).length:=by
  have:=dS a.val b.val
  unfold wl at this
  rw[Int.natAbs_mul] at this;exact this
 have hw:=form (!(decide (a.val<0)==decide (b.val<0))) (words (a.val.natAbs*b.val.natAbs)) (by omega)
 rw[aD] at hw
 have e:(bif !(decide (a.val<0)==decide (b.val<0)) then -((a.val.natAbs*b.val.natAbs:Nat):Int) else ((a.val.natAbs*b.val.natAbs:Nat):Int))=a.val*b.val:=by
  by_cases h:a.val<0<;>by_cases h':b.val<0<;>simp only[h,h',decide_true,decide_false,beq_self_eq_true,Bool.not_true,cond_false,Bool.not_false,cond_true,show(true==false)=false from rfl,show(false==true)=false from rfl]
  ·rw[←Int.natAbs_mul,Int.natAbs_of_nonneg (Int.mul_nonneg_of_nonpos_of_nonpos (by omega) (by omega))]
  ·rw[←Int.natAbs_mul,Int.ofNat_natAbs_of_nonpos (Int.mul_nonpos_of_nonpos_of_nonneg (by omega) (by omega))];omega
  ·rw[←Int.natAbs_mul,Int.ofNat_natAbs_of_nonpos (Int.mul_nonpos_of_nonneg_of_nonpos (by omega) (by omega))];omega
  ·rw[←Int.natAbs_mul,Int.natAbs_of_nonneg (Int.mul_nonneg (by omega) (by omega))]
 rw[e] at hw
 exact pT.e0 a b _ _ _ _ _ _ h3 h4 h1 h2 ht hw
theorem Of(n:Int)(h:ax n):Cp 171 [vI n] (Sym.whole n).pv:=by
 obtain⟨g1,g2⟩:=h
 have MK:(2:Nat)^min 32 64=4294967296:=by decide
 have key:∀m:Nat,m=n.natAbs→∃w w1:UInt32,m%4294967296=w.toNat∧m/4294967296%4294967296=w1.toNat∧Cp 229 [(vB (decide (n<0))),(aa [w,w1])] (Sym.whole n).pv:=by
  intro m hm
  obtain⟨w,hw⟩:=iw (m%4294967296) (by omega)
  obtain⟨w1,Lh⟩:=iw (m/4294967296%4294967296) (by omega)
  refine⟨w,w1,hw.symm,Lh.symm,?_⟩
  have:=form (decide (n<0)) [w,w1] (by simp)
  have e:nat [w,w1]=m:=by simp only[nat,hw,Lh];omega
  rw[e,hm] at this
  have e2:(bif decide (n<0) then -(n.natAbs:Int) else (n.natAbs:Int))=n:=by
   by_cases h:n<0
   ·simp[h];omega
   ·simp[h];omega
  rw[e2] at this;exact this
 by_cases hn:n<0
 ·obtain⟨w,w1,q1,q2,q3⟩:=key n.natAbs rfl
  exact mM.e0 n (n%18446744073709551616).toNat n.natAbs w _ w1 _ (by omega) hn (by omega) q1 (by rw[MK]) q2 q3
 ·obtain⟨w,w1,q1,q2,q3⟩:=key n.natAbs rfl
  exact mM.e1 n n.natAbs w _ w1 _ (by omega) (by omega) q1 (by rw[MK]) q2 q3
theorem Div(a b:au)(ha:Fit a.cD)(hb:Fit b.cD)(h0:b.val≠0) :
  Cp 223 [a.pv,b.pv] (.aB [(Sym.whole (a.val/b.val)).pv,(Sym.whole (a.val%b.val)).pv,vI 0]):=by
 have h1:=cD a ha
 have h2:=cD b hb
 have h3:=neg a ha
 have h4:=neg b hb
 have la:(words a.val.natAbs).length≤a.cD.length:=bc a
 have lb:(words b.val.natAbs).length≤b.cD.length:=bc b
 have Pc:=Sign b hb
 have HP:px b.val≠0:=by unfold px dR;split<;>(try split)<;>omega
 have Qa:0<b.val.natAbs:=by omega
 have hd:=ku (words a.val.natAbs) (words b.val.natAbs) (ix _) (by rw[aD];omega) (by omega) (by omega)
 rw[aD,aD] at hd
 have hq:=ek (Nat.div_le_self a.val.natAbs b.val.natAbs)
 have hr:=ek (Nat.le_of_lt (Nat.mod_lt a.val.natAbs Qa))
 have Hr:=Nat.div_add_mod a.val.natAbs b.val.natAbs
 have WX:=Nat.mod_lt a.val.natAbs Qa
 generalize hQ:a.val.natAbs/b.val.natAbs=q at *
 generalize hR:a.val.natAbs%b.val.natAbs=r at *
 have sb:b.val=if b.val<0 then -(b.val.natAbs:Int) else (b.val.natAbs:Int):=by split<;>omega
 have uniq:∀x y:Int,a.val=b.val*x+y→0≤y→y<b.val.natAbs→a.val/b.val=x∧a.val%b.val=y:=by
  intro x y e1 e2 e3
  rcases Int.lt_or_gt_of_ne h0 with fz|fz
  ·exact(Int.ediv_emod_unique' fz).2 ⟨by omega,e2,by omega⟩
  ·exact(Int.ediv_emod_unique fz).2 ⟨by omega,e2,by omega⟩
 by_cases hn:a.val<0
 ·by_cases C3:r=0
  ·have hw:=form (!(decide (a.val<0)==decide (b.val<0))) (words q) (by omega)
   have z8:=form false (words r) (by omega)
   rw[aD] at hw z8
   subst C3
   have e:a.val/b.val=(bif !(decide (a.val<0)==decide (b.val<0)) then -(q:Int) else (q:Int))∧a.val%b.val=0:=by
    refine uniq _ 0 ?_ (by omega) (by omega)
    have tZ:(a.val.natAbs:Int)=(b.val.natAbs:Int)*q:=by rw[←Hr];simp
    by_cases h':b.val<0
    ·simp only[hn,h',decide_true,beq_self_eq_true,Bool.not_true,cond_false]
     have:(b.val.natAbs:Int) = -b.val:=by omega
     rw[this] at tZ
     have:(a.val.natAbs:Int) = -a.val:=by omega
     rw[this,Int.neg_mul] at tZ
     omega
    ·simp only[hn,h',decide_true,decide_false,show(true==false)=false from rfl,Bool.not_false,cond_true]
     have:(b.val.natAbs:Int)=b.val:=by omega
     rw[this] at tZ
     have:(a.val.natAbs:Int) = -a.val:=by omega
     rw[this] at tZ
     rw[Int.mul_neg];omega
   rw[e.1,e.2]
   exact jx.e2 a b _ _ _ _ _ _ _ _ _ _ Pc HP h1 h2 hd h3 (decide_eq_true hn) (by rw[fF];simp) h3 h4 hw z8
  ·have hp:=plus (words q) [1] (by omega) (by simp)
   have hl:=minus (words b.val.natAbs) (words r) (by omega) (by rw[aD,aD];omega)
   rw[aD] at hp
   rw[aD,aD] at hl
   have e1:nat [1]=1:=rfl
   rw[e1] at hp
   have yI:=e9 (n:=q+1) (k:=(words q).length+1) (by have:=j9 q;rw[Nat.pow_succ];omega)
   have Pb:=ek (show b.val.natAbs-r≤b.val.natAbs by omega)
   have hw:=form (!(decide (a.val<0)==decide (b.val<0))) (words (q+1)) (by omega)
   have z8:=form false (words (b.val.natAbs-r)) (by omega)
   rw[aD] at hw z8
   have e:a.val/b.val=(bif !(decide (a.val<0)==decide (b.val<0)) then -((q+1:Nat):Int) else ((q+1:Nat):Int))∧a.val%b.val=((b.val.natAbs-r:Nat):Int):=by
    refine uniq _ _ ?_ (by omega) (by omega)
    have tZ:(a.val.natAbs:Int)=(b.val.natAbs:Int)*q+r:=by rw[←Hr];simp
    by_cases h':b.val<0
    ·simp only[hn,h',decide_true,beq_self_eq_true,Bool.not_true,cond_false]
     have e5:(b.val.natAbs:Int) = -b.val:=by omega
     rw[e5] at tZ
     have:(a.val.natAbs:Int) = -a.val:=by omega
     rw[this,Int.neg_mul] at tZ
     rw[show ((q+1:Nat):Int)=(q:Int)+1 from by omega,Int.mul_add]
     omega
    ·simp only[hn,h',decide_true,decide_false,show(true==false)=false from rfl,Bool.not_false,cond_true]
     have:(b.val.natAbs:Int)=b.val:=by omega
     rw[this] at tZ
     have:(a.val.natAbs:Int) = -a.val:=by omega
     rw[this] at tZ
     rw[show ((q+1:Nat):Int)=(q:Int)+1 from by omega,Int.mul_neg,Int.mul_add];omega
   rw[e.1,e.2]
   exact jx.e1 a b _ _ _ _ _ _ _ _ _ _ _ _ _ Pc HP h1 h2 hd h3 (decide_eq_true hn) (by have:=(dK (n:=r)).1;omega) hp h2 hl h3 h4 hw z8
 ·have hw:=form (!(decide (a.val<0)==decide (b.val<0))) (words q) (by omega)
  have z8:=form false (words r) (by omega)
  rw[aD] at hw z8
  have e:a.val/b.val=(bif !(decide (a.val<0)==decide (b.val<0)) then -(q:Int) else (q:Int))∧a.val%b.val=(r:Int):=by
   refine uniq _ _ ?_ (by omega) (by omega)
   have tZ:(a.val.natAbs:Int)=(b.val.natAbs:Int)*q+r:=by rw[←Hr];simp
   by_cases h':b.val<0
   ·simp only[hn,h',decide_true,decide_false,show(false==true)=false from rfl,Bool.not_false,cond_true]
    have e5:(b.val.natAbs:Int) = -b.val:=by omega
    rw[e5] at tZ
    have:(a.val.natAbs:Int)=a.val:=by omega
    rw[this,Int.neg_mul] at tZ
    rw[Int.mul_neg];omega
   ·simp only[hn,h',decide_false,beq_self_eq_true,Bool.not_true,cond_false]
    have:(b.val.natAbs:Int)=b.val:=by omega
    rw[this] at tZ
    have:(a.val.natAbs:Int)=a.val:=by omega
    rw[this] at tZ
    omega
  rw[e.1,e.2]
  exact jx.e3 a b _ _ _ _ _ _ _ _ _ _ Pc HP h1 h2 hd h3 (decide_eq_false hn) h3 h4 hw z8
theorem o9(a b:au)(ha:a.cD.length<1099511627776)(hb:b.cD.length<1099511627776):Cp 190 [a.pv,b.pv] (vI (dR a.val b.val)):=by
 have h1:=Sub a b (by omega) (by omega)
 have h2:=Sign (Sym.whole (a.val-b.val)) (by
  have g1:=BP a.val (-b.val)
  have g2:=bc a
  have g3:=bc b
  rw[iy,←Int.sub_eq_add_neg] at g1
  show wl (a.val-b.val)≤_
  omega)
 rw[aw] at h2
 have e:px (a.val-b.val)=dR a.val b.val:=by
  unfold px dR
  split<;>split<;>(try split)<;>(try split)<;>omega
 rw[←e]
 exact pV.e0 a b _ _ h1 h2
theorem Gcd(a b:au)(ha:Fit a.cD)(hb:Fit b.cD):Cp 191 [a.pv,b.pv] (Sym.whole (Nat.gcd a.val.natAbs b.val.natAbs)).pv:=by
 have la:(words a.val.natAbs).length≤a.cD.length:=bc a
 have lb:(words b.val.natAbs).length≤b.cD.length:=bc b
 have hg:=gcd (words a.val.natAbs) (words b.val.natAbs) (by omega) (by omega)
 rw[aD,aD] at hg
 have hl:(words (Nat.gcd a.val.natAbs b.val.natAbs)).length≤1099511627776:=by
  by_cases h:b.val.natAbs=0
  ·rw[h,Nat.gcd_zero_right];omega
  ·exact w5 (by omega) (by omega)
 have hw:=form false (words (Nat.gcd a.val.natAbs b.val.natAbs)) (by omega)
 rw[aD] at hw
 exact pW.e0 a b _ _ _ _ (cD a ha) (cD b hb) hg hw
end tE
end Go.Proofs.YtllmkadmohkbfaaGreatDoor.Sym
namespace Go.Proofs.YtllmkadmohkbfaaGreatDoor.Sym
open cP
set_option linter.unusedVariables false
def af.valid(a:af):Bool :=
 bif a.num.isEmpty&&a.den.isEmpty then !a.neg else !a.num.isEmpty&&(!a.den.isEmpty&&(cn a.num&&(cn a.den&&Nat.beq (Nat.gcd (nat a.num) (nat a.den)) 1)))
def af.val(a:af):Rat:=bif a.valid && !a.num.isEmpty then Rat.divInt (bif a.neg then -(nat a.num:Int) else (nat a.num:Int)) (nat a.den:Int) else 0
def aJ(q:Rat):af:=bif q.num.natAbs.beq 0 then ⟨false,[],[]⟩ else ⟨decide (q.num<0),words q.num.natAbs,words q.den⟩
theorem beq_iff{a b:Nat} : Nat.beq a b=true↔a=b:=⟨Nat.eq_of_beq_eq_true,fun h=>by subst h;exact Nat.beq_refl a⟩
theorem fh{a b:Nat} : Nat.beq a b=false↔a≠b:=by
 constructor
 ·intro h e;rw[beq_iff.2 e] at h;cases h
 ·intro h
  cases hb:Nat.beq a b with
  |true=>exact absurd (beq_iff.1 hb) h
  |false=>rfl
theorem rf:aJ 0=⟨false,[],[]⟩:=rfl
theorem sf{q:Rat}(h:q≠0):aJ q=⟨decide (q.num<0),words q.num.natAbs,words q.den⟩:=by
 unfold aJ
 rw[fh.2 (by intro e;exact h (Rat.num_eq_zero.1 (by omega))),cond_false]
theorem CQ{n:Nat} : (words n).isEmpty=Nat.beq n 0:=by
 by_cases h:n=0
 ·subst h;rfl
 ·rw[fh.2 h,dB]
  rw[decide_eq_false (by rw[dK];exact h)]
theorem ri(q:Rat):(aJ q).valid=true:=by
 by_cases h:q=0
 ·subst h;rfl
 ·rw[sf h]
  unfold af.valid
  have h1:q.num.natAbs≠0:=by intro e;exact h (Rat.num_eq_zero.1 (by omega))
  simp only[CQ,fh.2 h1,fh.2 q.den_nz,Bool.and_self,Bool.not_false,cond_false,ix,aD,Bool.true_and]
  exact beq_iff.2 q.reduced
theorem nG{a:af}(hv:a.valid=true)(h0:a.num≠[]):a.den≠[]∧cn a.num=true∧cn a.den=true∧Nat.gcd (nat a.num) (nat a.den)=1:=by
 have h1:a.num.isEmpty=false:=by cases h:a.num with
  |nil=>exact absurd h h0
  |cons=>rfl
 unfold af.valid at hv
 rw[h1,Bool.false_and,cond_false,Bool.not_false,Bool.true_and] at hv
 simp only[Bool.and_eq_true] at hv
 obtain⟨g1,g2,g3,g4⟩:=hv
 refine⟨?_,g2,g3,beq_iff.1 g4⟩
 intro e;rw[e] at g1;cases g1
theorem Ir{a:af}(hv:a.valid=true)(h0:a.num=[]):a=⟨false,[],[]⟩:=by
 obtain⟨n,m,d⟩:=a
 subst h0
 unfold af.valid at hv
 cases d with
 |nil=>cases n with
  |false=>rfl
  |true=>cases hv
 |cons=>cases hv
theorem uj{a:af}(hv:a.valid=true)(h0:a.num≠[]):a.val.num=(bif a.neg then -(nat a.num:Int) else (nat a.num:Int))∧a.val.den=nat a.den:=by
 obtain⟨g1,g2,g3,g4⟩:=nG hv h0
 have h1:a.num.isEmpty=false:=by cases h:a.num with
  |nil=>exact absurd h h0
  |cons=>rfl
 have hd:=qI g3 g1
 unfold af.val
 rw[hv,h1,Bool.not_false,Bool.and_self,cond_true,Rat.divInt_ofNat]
 have hr:Nat.Coprime (bif a.neg then -(nat a.num:Int) else (nat a.num:Int)).natAbs (nat a.den):=by
  cases a.neg<;>simp<;>exact g4
 rw[←Rat.mk_eq_mkRat _ _ (by omega) hr]
 exact⟨rfl,rfl⟩
theorem EK{a:af}(hv:a.valid=true)(h0:a.num≠[]):a.val≠0:=by
 obtain⟨g1,g2,g3,g4⟩:=nG hv h0
 have:=qI g2 h0
 intro e
 have h:=(uj hv h0).1
 rw[e] at h
 have h:(0:Int)=_:=h
 cases hn:a.neg<;>rw[hn] at h<;>simp at h<;>omega
theorem EL{a:af}(hv:a.valid=false):a.val=0:=by unfold af.val;rw[hv];rfl
theorem si{a:af}(h:a.num=[]):a.val=0:=by unfold af.val;rw[h];simp
theorem yc{a:af}(hv:a.valid=true):aJ a.val=a:=by
 by_cases h0:a.num=[]
 ·rw[si h0,Ir hv h0];rfl
 ·obtain⟨g1,g2,g3,g4⟩:=nG hv h0
  have hp:=qI g2 h0
  obtain⟨e1,e2⟩:=uj hv h0
  rw[sf (EK hv h0),e1,e2,eZ g3]
  obtain⟨n,m,d⟩:=a
  cases n
  ·simp only[cond_false,Int.natAbs_natCast,eZ g2,af.mk.injEq,and_true,decide_eq_false_iff_not]
   omega
  ·simp only[cond_true,Int.natAbs_neg,Int.natAbs_natCast,eZ g2,af.mk.injEq,and_true,decide_eq_true_eq]
   simp only at hp
   omega
theorem JC{p q:Rat}(h:aJ p=aJ q):p=q:=by
 by_cases hp:p=0
 ·subst hp
  by_cases hq:q=0
  ·exact hq.symm
  ·rw[rf,sf hq] at h
   injection h with _ h _
   have:=uf.1 h.symm
   exact absurd (Rat.num_eq_zero.1 (by omega)) hq
 ·by_cases hq:q=0
  ·subst hq
   rw[rf,sf hp] at h
   injection h with _ h _
   have:=uf.1 h
   exact absurd (Rat.num_eq_zero.1 (by omega)) hp
  ·rw[sf hp,sf hq] at h
   injection h with h1 h2 h3
   have h2:=congrArg nat h2
   have h3:=congrArg nat h3
   rw[aD,aD] at h2 h3
   refine Rat.ext ?_ h3
   by_cases h:p.num<0
   ·have:q.num<0:=by simpa[h] using h1.symm
    omega
   ·have:¬q.num<0:=by simpa[h] using h1.symm
    omega
theorem bl(q:Rat):(aJ q).val=q:=JC (yc (ri q))
def ht(q:Rat):Nat:=max (wl q.num) (wl (q.den:Int))
abbrev kD(a:af):Prop:=a.num.length≤274877906944∧a.den.length≤274877906944
theorem jA:ht 0=1:=by decide
theorem Is(q:Rat):1≤ht q:=by
 have h:(words q.den).length≠0:=by rw[Ne,dK];exact q.den_nz
 have:wl (q.den:Int)≤ht q:=Nat.le_max_right _ _
 have h2:wl (q.den:Int)=(words q.den).length:=rfl
 omega
theorem eF(q:Rat):wl q.num≤ht q:=Nat.le_max_left _ _
theorem eP(q:Rat):wl (q.den:Int)≤ht q:=Nat.le_max_right _ _
theorem iS{q:Rat}(h:ht q≤274877906944):kD (aJ q):=by
 by_cases h0:q=0
 ·subst h0;constructor<;>simp[rf]
 ·rw[sf h0]
  exact⟨Nat.le_trans (eF q) h,Nat.le_trans (eP q) h⟩
theorem dU{a:af}{k:Nat}(h1:a.num.length≤k)(h2:a.den.length≤k)(hk:1≤k):ht a.val≤k:=by
 by_cases hv:a.valid=true
 ·by_cases h0:a.num=[]
  ·rw[si h0,jA];exact hk
  ·obtain⟨g1,g2,g3,g4⟩:=nG hv h0
   obtain⟨e1,e2⟩:=uj hv h0
   unfold ht
   rw[e1,e2]
   refine Nat.max_le.2 ⟨?_,?_⟩
   ·have e:(bif a.neg then -(nat a.num:Int) else (nat a.num:Int)).natAbs=nat a.num:=by cases a.neg<;>simp
    show(words _).length≤k
    rw[e,eZ g2];exact h1
   ·show(words _).length≤k
    rw[Int.natAbs_natCast,eZ g3];exact h2
 ·rw[EL (by simpa using hv),jA];exact hk
theorem vM{i j:Int}(h:i.natAbs≤j.natAbs):wl i≤wl j:=ek h
theorem uk(n d:Int):ht (Rat.divInt n d)≤max (wl n) (max (wl d) 1):=by
 by_cases hd:d=0
 ·subst hd
  rw[Rat.divInt_zero,jA];omega
 ·unfold ht
  refine Nat.max_le.2 ⟨Nat.le_trans (vM ?_) (Nat.le_max_left _ _),Nat.le_trans (vM (j:=d) ?_) (Nat.le_trans (Nat.le_max_left _ _) (Nat.le_max_right _ _))⟩
  ·rw[Rat.num_divInt]
   have h1:=Int.natAbs_ediv_of_dvd (a:=d.sign*n) (b:=(d.gcd n:Int)) (by
    exact Int.dvd_mul_of_dvd_right (Int.gcd_dvd_right d n))
   rw[h1,Int.natAbs_mul,Int.natAbs_sign_of_ne_zero hd,Nat.one_mul]
   exact Nat.div_le_self _ _
  ·rw[Rat.den_divInt,if_neg hd,Int.natAbs_natCast]
   exact Nat.div_le_self _ _
theorem RX:wl 1=1:=rfl
theorem Gp(n:Int)(d:Nat):ht (mkRat n d)≤max (wl n) (max (wl (d:Int)) 1):=by
 rw[←Rat.divInt_ofNat];exact uk n d
theorem vN(a:Rat):ht (-a)=ht a:=by
 unfold ht
 rw[Rat.neg_num,iy,Rat.neg_den]
theorem fw(a b:Rat):ht (a*b)≤ht a+ht b:=by
 rw[Rat.mul_def']
 have h1:=Gp (a.num*b.num) (a.den*b.den)
 have h2:=dS a.num b.num
 have h3:=dS (a.den:Int) (b.den:Int)
 have h4:=eF a
 have h5:=eP a
 have h6:=eF b
 have h7:=eP b
 have h8:=Is a
 rw[←Int.natCast_mul] at h3
 omega
theorem mT(a b:Rat):ht (a+b)≤ht a+ht b+1:=by
 rw[Rat.add_def']
 have h1:=Gp (a.num*b.den+b.num*a.den) (a.den*b.den)
 have h2:=dS a.num b.den
 have h3:=dS b.num a.den
 have h9:=BP (a.num*b.den) (b.num*a.den)
 have dh:=dS (a.den:Int) (b.den:Int)
 have h4:=eF a
 have h5:=eP a
 have h6:=eF b
 have h7:=eP b
 have h8:=Is a
 rw[←Int.natCast_mul] at dh
 omega
theorem sj(a b:Rat):ht (a-b)≤ht a+ht b+1:=by
 rw[Rat.sub_eq_add_neg,←vN b];exact mT a (-b)
theorem MU(a:Rat):ht a⁻¹≤ht a:=by
 rw[Rat.inv_def]
 have h1:=uk (a.den:Int) a.num
 have h4:=eF a
 have h5:=eP a
 have h8:=Is a
 omega
theorem nV(a b:Rat):ht (a/b)≤ht a+ht b:=by
 rw[Rat.div_def]
 have:=fw a b⁻¹
 have:=MU b
 omega
theorem tF(n:Int):ht (n:Rat)=max (wl n) 1:=by
 unfold ht
 rw[Rat.num_intCast,Rat.den_intCast];rfl
def eh(p q:Rat):Int:=if p<q then -1 else if p=q then 0 else 1
theorem MV(p q:Rat):dR (p.num*q.den) (q.num*p.den)=eh p q:=by
 unfold dR eh
 have h1:=Rat.lt_iff p q
 have h2:p=q↔p.num*q.den=q.num*p.den:=by
  constructor
  ·intro h;subst h;rfl
  ·intro h
   have g1:=(Rat.le_iff p q).2 (by omega)
   have g2:=(Rat.le_iff q p).2 (by omega)
   exact Rat.le_antisymm g1 g2
 simp only[h1,h2]
theorem RY(p:Rat):p.num<0↔p<0:=by
 rw[Rat.lt_iff]
 simp
theorem Gq(p q:Rat):px (p-q).num=eh p q:=by
 unfold px dR eh
 have h1:(p-q).num<0↔p<q:=by
  rw[RY];constructor<;>intro h<;>grind
 have h2:(p-q).num=0↔p=q:=by
  rw[Rat.num_eq_zero];constructor<;>intro h<;>grind
 simp only[h1,h2]
theorem yd(p:Rat):px p.num=eh p 0:=by
 have:=Gq p 0
 rwa[show p-0=p from by grind] at this
theorem EM{p q:Rat} : eh p q<0↔p<q:=by
 unfold eh;split
 ·simp_all
 ·split
  ·simp_all
  ·simp_all
theorem ew{p q:Rat} : eh p q=0↔p=q:=by
 unfold eh;split
 ·rename_i h;constructor
  ·intro h;cases h
  ·intro e;subst e;exact absurd h (Rat.lt_irrefl)
 ·split
  ·simp_all
  ·simp_all
theorem JD{p q:Rat} : 0<eh p q↔q<p:=by
 unfold eh;split
 ·rename_i h;constructor
  ·intro h;cases h
  ·intro e;grind
 ·split
  ·rename_i h1 h;subst h;simp[Rat.lt_irrefl]
  ·rename_i h1 h2
   constructor
   ·intro _;grind
   ·intro _;decide
def fa(p q:Rat):Rat:=if eh p q≤0 then p else q
def fR(p q:Rat):Rat:=if 0≤eh p q then p else q
theorem EN{n d:Int}(hd:0<d)(g:Nat)(hg:g=Nat.gcd n.natAbs d.natAbs):(Rat.divInt n d).num=n/(g:Int)∧((Rat.divInt n d).den:Int)=d/(g:Int):=by
 have e:d.gcd n=g:=by rw[hg,Nat.gcd_comm];rfl
 refine⟨?_,?_⟩
 ·rw[Rat.num_divInt,e,Int.sign_eq_one_of_pos hd,Int.one_mul]
 ·rw[Rat.den_divInt,if_neg (by omega),e,Int.natCast_ediv,Int.natAbs_of_nonneg (by omega)]
open Go Path
theorem Gr{a:af}(h1:a.num.length=0)(h2:a.den.length=0):a.valid = !a.neg:=by
 unfold af.valid;rw[dB,dB,decide_eq_true h1,decide_eq_true h2];rfl
theorem Gs{a:af}(h1:a.num.length=0)(h2:a.den.length≠0):a.valid=false:=by
 unfold af.valid;rw[dB,dB,decide_eq_true h1,decide_eq_false h2];rfl
theorem Gt{a:af}(h1:a.num.length≠0)(h2:a.den.length=0):a.valid=false:=by
 unfold af.valid;rw[dB,dB,decide_eq_false h1,decide_eq_true h2];rfl
theorem Gu{a:af}(h1:a.num.length≠0)(h2:a.den.length≠0):a.valid=(cn a.num&&(cn a.den&&Nat.beq (Nat.gcd (nat a.num) (nat a.den)) 1)):=by
 unfold af.valid;rw[dB,dB,decide_eq_false h1,decide_eq_false h2];rfl
theorem vO{m:Words}(h:m.length≠0):(⟨false,m⟩:au).valid=cn m:=by
 unfold au.valid
 rw[dB,decide_eq_false h];rfl
theorem w6{m:Words}(h:m.length≠0)(hc:cn m=true):(⟨false,m⟩:au).val=(nat m:Int):=by
 unfold au.val
 rw[vO h,hc];rfl
theorem JE(g:Nat):(dR (g:Int) 1==0)=Nat.beq g 1:=by
 by_cases h:g=1
 ·subst h;rfl
 ·rw[fh.2 h]
  unfold dR
  split
  ·rfl
  ·rw[if_neg (by omega)];rfl
theorem Gv{a:af}(hv:a.valid=true)(h0:a.num.length≠0):Sym.whole a.val.num=⟨a.neg,a.num⟩∧Sym.whole (a.val.den:Int)=⟨false,a.den⟩:=by
 have Vf:a.num≠[]:=by intro e;rw[e] at h0;exact h0 rfl
 obtain⟨g1,g2,g3,g4⟩:=nG hv Vf
 obtain⟨e1,e2⟩:=uj hv Vf
 have hp:=qI g2 Vf
 rw[e1,e2]
 refine⟨?_,?_⟩
 ·unfold Sym.whole
  cases hn:a.neg
  ·simp only[cond_false,Int.natAbs_natCast,eZ g2,au.mk.injEq,and_true,decide_eq_false_iff_not];omega
  ·simp only[cond_true,Int.natAbs_neg,Int.natAbs_natCast,eZ g2,au.mk.injEq,and_true,decide_eq_true_eq];omega
 ·unfold Sym.whole
  simp only[Int.natAbs_natCast,eZ g3,au.mk.injEq,and_true,decide_eq_false_iff_not];omega
theorem ye{a b:Int}{k:Nat}(ha:wl a≤k)(hb:wl b≤k):wl ((Nat.gcd a.natAbs b.natAbs:Nat):Int)≤k:=by
 by_cases h:b=0
 ·subst h
  rw[Int.natAbs_zero,Nat.gcd_zero_right]
  show(words _).length≤k
  rw[Int.natAbs_natCast];exact ha
 ·exact Nat.le_trans (vM (by rw[Int.natAbs_natCast];exact Nat.le_of_dvd (by omega) (Nat.gcd_dvd_right _ _))) hb
theorem formed{n d:Int}(hn:n≠0)(hd:0<d)(g:Nat)(hg:g=Nat.gcd n.natAbs d.natAbs):aJ (Rat.divInt n d)=⟨decide (n/(g:Int)<0),(Sym.whole (n/(g:Int))).cD,(Sym.whole (d/(g:Int))).cD⟩:=by
 obtain⟨e1,e2⟩:=EN (n:=n) hd g hg
 have di:Rat.divInt n d≠0:=by
  intro e
  rw[e] at e1
  have e1:(0:Int)=n/(g:Int):=e1
  have h1:(g:Int)∣n:=by rw[hg];exact Int.ofNat_dvd_left.2 (Nat.gcd_dvd_left _ _)
  have:=Int.ediv_mul_cancel h1
  rw[←e1] at this
  omega
 rw[sf di,e1]
 unfold Sym.whole
 simp only[af.mk.injEq,true_and]
 rw[←e2,Int.natAbs_natCast]
theorem BR{n:Int}(hn:n≠0)(g:Nat)(hg:g∣n.natAbs):decide (n/(g:Int)<0)=decide (n<0)∧(n/(g:Int)).natAbs=((n.natAbs:Int)/(g:Int)).natAbs:=by
 have h1:(g:Int)∣n:=Int.ofNat_dvd_left.2 hg
 have h2:=Int.ediv_mul_cancel h1
 have Ak:0<g:=Nat.pos_of_dvd_of_pos hg (by omega)
 refine⟨?_,?_⟩
 ·congr 1
  refine propext ⟨fun h => ?_,fun h => ?_⟩
  ·have:=Int.mul_neg_of_neg_of_pos h (show (0:Int)<g by omega)
   omega
  ·exact Int.ediv_neg_of_neg_of_pos h (by omega)
 ·rw[Int.natAbs_ediv_of_dvd h1,Int.natAbs_natCast,←Int.natCast_ediv,Int.natAbs_natCast]
namespace um
theorem one:Cp 114 [] (Sym.whole 1).pv:=wR.e0 _ (cP.Of 1 (by unfold ax;omega))
theorem Valid(a:af)(h:kD a):Cp 164 [a.pv] (vB a.valid):=by
 obtain⟨l1,l2⟩:=h
 by_cases h1:a.num.length=0
 ·by_cases h2:a.den.length=0
  ·rw[Gr h1 h2];exact gm.e0 a h1 h2
  ·rw[Gs h1 h2];exact gm.e1 a h1 h2
 ·by_cases h2:a.den.length=0
  ·rw[Gt h1 h2];exact gm.e2 a h1 h2
  ·rw[Gu h1 h2]
   have v1:=cP.Valid ⟨false,a.num⟩ (show a.num.length≤_ by omega)
   have v2:=cP.Valid ⟨false,a.den⟩ (show a.den.length≤_ by omega)
   rw[vO h1] at v1
   rw[vO h2] at v2
   cases zk:cn a.num with
   |false=>rw[Bool.false_and];exact gm.e3 a _ h1 h2 v1 zk
   |true =>
    rw[Bool.true_and]
    cases Cx:cn a.den with
    |false=>rw[Bool.false_and];exact gm.e4 a _ _ h1 h2 v1 zk v2 Cx
    |true =>
     have hg:=cP.Gcd ⟨false,a.num⟩ ⟨false,a.den⟩ (show a.num.length≤_ by omega) (show a.den.length≤_ by omega)
     rw[w6 h1 zk,w6 h2 Cx,Int.natAbs_natCast,Int.natAbs_natCast] at hg
     have gl:=ye (a:=(nat a.num:Int)) (b:=(nat a.den:Int)) (k:=274877906944) (by show(words _).length≤_;rw[Int.natAbs_natCast,eZ zk];exact l1) (by show(words _).length≤_;rw[Int.natAbs_natCast,eZ Cx];exact l2)
     rw[Int.natAbs_natCast,Int.natAbs_natCast] at gl
     have hc:=cP.o9 (Sym.whole (Nat.gcd (nat a.num) (nat a.den):Nat)) (Sym.whole 1) (show wl _≤_ by omega) (show wl 1≤_ by decide)
     rw[aw,aw] at hc
     rw[Bool.true_and,←JE]
     exact gm.e5 a _ _ _ _ _ h1 h2 v1 zk v2 Cx hg one hc
theorem jN(a:af)(h:kD a):Cp 92 [a.pv] (.aB [(Sym.whole a.val.num).pv,(Sym.whole (a.val.den:Int)).pv]):=by
 have hv:=Valid a h
 cases hc:a.valid with
 |false=>rw[EL hc];exact l9.e0 a _ _ hv hc one
 |true =>
  by_cases h0:a.num.length=0
  ·rw[si (List.eq_nil_of_length_eq_zero h0)];exact l9.e1 a _ _ hv hc h0 one
  ·obtain⟨e1,e2⟩:=Gv hc h0
   rw[e1,e2]
   exact l9.e2 a _ hv hc h0 (by have:=h.1;simp;omega) (by have:=h.2;simp;omega)
theorem form(n d:au)(hn:n.cD.length≤1099511627776)(hd:d.cD.length≤1099511627776)(h0:d.val≠0):Cp 113 [n.pv,d.pv] (aJ (Rat.divInt n.val d.val)).pv:=by
 have sn:=cP.Sign n hn
 have sd:=cP.Sign d hd
 have wn:=bc n
 have wd':=bc d
 by_cases hz:n.val=0
 ·rw[hz,Rat.zero_divInt]
  exact jl.e0 n d _ sn (by rw[hz];rfl)
 ·have FP:px n.val≠0:=by unfold px dR;split<;>(try split)<;>omega
  by_cases tG:d.val<0
  ·have e:Rat.divInt n.val d.val=Rat.divInt (-n.val) (-d.val):=by rw[Rat.divInt_neg',Int.neg_neg]
   have n1:=cP.Neg n hn
   have d1:=cP.Neg d hd
   have l1:(Sym.whole (-n.val)).cD.length≤1099511627776:=by show wl _≤_;rw[iy];omega
   have l2:(Sym.whole (-d.val)).cD.length≤1099511627776:=by show wl _≤_;rw[iy];omega
   have g:=cP.Gcd _ _ l1 l2
   rw[aw,aw] at g
   have Ao:=ye (a := -n.val) (b := -d.val) (k:=1099511627776) (by rw[iy];omega) (by rw[iy];omega)
   have s2:=cP.Sign _ l1
   rw[aw] at s2
   rw[e,formed (by omega) (by omega) _ rfl]
   obtain⟨f1,f2⟩:=BR (n := -n.val) (by omega) (Nat.gcd (-n.val).natAbs (-d.val).natAbs) (Nat.gcd_dvd_left _ _)
   have Ak:((Nat.gcd (-n.val).natAbs (-d.val).natAbs:Nat):Int)≠0:=by
    have:=Nat.gcd_pos_of_pos_left (-d.val).natAbs (show 0<(-n.val).natAbs by omega)
    omega
   rw[f1,show(Sym.whole (-n.val/((Nat.gcd (-n.val).natAbs (-d.val).natAbs:Nat):Int))).cD=(Sym.whole (((-n.val).natAbs:Int)/((Nat.gcd (-n.val).natAbs (-d.val).natAbs:Nat):Int))).cD from by unfold Sym.whole;rw[f2]]
   generalize hG:((Nat.gcd (-n.val).natAbs (-d.val).natAbs:Nat):Int)=G at *
   have dd:=cP.Div (Sym.whole (-d.val)) (Sym.whole G) l2 Ao (by rw[aw];exact Ak)
   rw[aw,aw] at dd
   by_cases hs : -n.val<0
   ·have n2:=cP.Neg _ l1
    rw[aw] at n2
    have dn:=cP.Div (Sym.whole (- -n.val)) (Sym.whole G) (by show wl _≤_;rw[iy,iy];omega) Ao (by rw[aw];exact Ak)
    rw[aw,aw] at dn
    rw[show ((-n.val).natAbs:Int) = - -n.val from by omega]
    have:=jl.e1 n d _ _ _ _ _ _ _ _ _ none _ _ none sn FP sd (by unfold px dR;rw[if_pos tG];omega) n1 d1 g s2 (by unfold px dR;rw[if_pos hs];omega) n2 dn dd
    rw[show decide (px (-n.val)<0)=decide (-n.val<0) from by unfold px dR;rw[if_pos hs,decide_eq_true hs];rfl] at this
    exact this
   ·have dn:=cP.Div (Sym.whole (-n.val)) (Sym.whole G) l1 Ao (by rw[aw];exact Ak)
    rw[aw,aw] at dn
    rw[show ((-n.val).natAbs:Int) = -n.val from by omega]
    have N4:px (-n.val)=1:=by unfold px dR;rw[if_neg hs,if_neg (by omega)]
    have:=jl.e2 n d _ _ _ _ _ _ _ _ none _ _ none sn FP sd (by unfold px dR;rw[if_pos tG];omega) n1 d1 g s2 (by rw[N4];omega) dn dd
    rw[show decide (px (-n.val)<0)=decide (-n.val<0) from by rw[N4,decide_eq_false hs];rfl] at this
    exact this
  ·have g:=cP.Gcd _ _ hn hd
   have Ao:=ye (a:=n.val) (b:=d.val) (k:=1099511627776) (by omega) (by omega)
   rw[formed hz (by omega) _ rfl]
   obtain⟨f1,f2⟩:=BR hz (Nat.gcd n.val.natAbs d.val.natAbs) (Nat.gcd_dvd_left _ _)
   have Ak:((Nat.gcd n.val.natAbs d.val.natAbs:Nat):Int)≠0:=by
    have:=Nat.gcd_pos_of_pos_left d.val.natAbs (show 0<n.val.natAbs by omega)
    omega
   rw[f1,show(Sym.whole (n.val/((Nat.gcd n.val.natAbs d.val.natAbs:Nat):Int))).cD=(Sym.whole ((n.val.natAbs:Int)/((Nat.gcd n.val.natAbs d.val.natAbs:Nat):Int))).cD from by unfold Sym.whole;rw[f2]]
   generalize hG:((Nat.gcd n.val.natAbs d.val.natAbs:Nat):Int)=G at *
   have dd:=cP.Div d (Sym.whole G) hd Ao (by rw[aw];exact Ak)
   rw[aw] at dd
   have Vg:0≤px d.val:=by unfold px dR;rw[if_neg tG];split<;>omega
   by_cases hs:n.val<0
   ·have n2:=cP.Neg _ hn
    have dn:=cP.Div (Sym.whole (-n.val)) (Sym.whole G) (by show wl _≤_;rw[iy];omega) Ao (by rw[aw];exact Ak)
    rw[aw,aw] at dn
    rw[show (n.val.natAbs:Int) = -n.val from by omega]
    have:=jl.e3 n d _ _ _ _ _ _ _ none _ _ none sn FP sd Vg g sn (by unfold px dR;rw[if_pos hs];omega) n2 dn dd
    rw[show decide (px n.val<0)=decide (n.val<0) from by unfold px dR;rw[if_pos hs,decide_eq_true hs];rfl] at this
    exact this
   ·have dn:=cP.Div n (Sym.whole G) hn Ao (by rw[aw];exact Ak)
    rw[aw] at dn
    rw[show (n.val.natAbs:Int)=n.val from by omega]
    have N4:px n.val=1:=by unfold px dR;rw[if_neg hs,if_neg (by omega)]
    have:=jl.e4 n d _ _ _ _ _ _ none _ _ none sn FP sd Vg g sn (by rw[N4];omega) dn dd
    rw[show decide (px n.val<0)=decide (n.val<0) from by rw[N4,decide_eq_false hs];rfl] at this
    exact this
theorem va(n d:Int)(hn:wl n≤1099511627776)(hd:wl d≤1099511627776)(h0:d≠0):Cp 113 [(Sym.whole n).pv,(Sym.whole d).pv] (aJ (Rat.divInt n d)).pv:=by
 have:=form (Sym.whole n) (Sym.whole d) hn hd (by rw[aw];exact h0)
 rwa[aw,aw] at this
theorem It(n d:au)(hn:n.cD.length≤1099511627776)(hd:d.cD.length≤1099511627776)(h0:d.val≠0):Cp 90 [n.pv,d.pv] (.aB [(aJ (Rat.divInt n.val d.val)).pv,.az]) :=
 u5.e1 n d _ _ (cP.Sign d hd) (by unfold px dR;split<;>(try split)<;>omega) (form n d hn hd h0)
theorem Of(n:Int)(h:ax n):Cp 46 [vI n] (aJ (n:Rat)).pv:=by
 have hw:wl n≤2:=mC (by unfold ax at h;omega)
 have:=va n 1 (by omega) (by decide) (by omega)
 rw[show Rat.divInt n 1=(n:Rat) from by rw[Rat.divInt_eq_div];grind] at this
 exact yZ.e0 n _ _ _ (cP.Of n h) one this
theorem Neg(a:af)(h:kD a):Cp 87 [a.pv] (aJ (-a.val)).pv:=by
 have hp:=jN a h
 have hh:=dU h.1 h.2 (by omega)
 have h1:=eF a.val
 have h2:=eP a.val
 have hn:=cP.Neg (Sym.whole a.val.num) (show wl _≤_ by omega)
 rw[aw] at hn
 have hf:=va (-a.val.num) a.val.den (by rw[iy];omega) (by omega) (by have:=a.val.den_nz;omega)
 rw[←Rat.neg_divInt,Rat.num_divInt_den] at hf
 exact wP.e0 a _ _ _ _ hp hn hf
theorem Sign(a:af)(h:kD a):Cp 33 [a.pv] (vI (eh a.val 0)):=by
 have hp:=jN a h
 have hh:=dU h.1 h.2 (by omega)
 have h1:=eF a.val
 have hs:=cP.Sign (Sym.whole a.val.num) (show wl _≤_ by omega)
 rw[aw,yd] at hs
 exact u0.e0 a _ _ _ hp hs
theorem Add(a b:af)(ha:kD a)(hb:kD b):Cp 91 [a.pv,b.pv] (aJ (a.val+b.val)).pv:=by
 have pa:=jN a ha
 have pb:=jN b hb
 have la:=dU ha.1 ha.2 (by omega)
 have lb:=dU hb.1 hb.2 (by omega)
 have h1:=eF a.val
 have h2:=eP a.val
 have h3:=eF b.val
 have h4:=eP b.val
 have m1:=cP.Mul (Sym.whole a.val.num) (Sym.whole (b.val.den:Int)) (show wl _≤_ by omega) (show wl _≤_ by omega)
 have m2:=cP.Mul (Sym.whole b.val.num) (Sym.whole (a.val.den:Int)) (show wl _≤_ by omega) (show wl _≤_ by omega)
 have m3:=cP.Mul (Sym.whole (a.val.den:Int)) (Sym.whole (b.val.den:Int)) (show wl _≤_ by omega) (show wl _≤_ by omega)
 rw[aw,aw] at m1 m2 m3
 have w1:=dS a.val.num b.val.den
 have w2:=dS b.val.num a.val.den
 have w3:=dS (a.val.den:Int) b.val.den
 have s:=cP.Add (Sym.whole (a.val.num*b.val.den)) (Sym.whole (b.val.num*a.val.den)) (show wl _≤_ by omega) (show wl _≤_ by omega)
 rw[aw,aw] at s
 have w4:=BP (a.val.num*b.val.den) (b.val.num*a.val.den)
 have hf:=va (a.val.num*b.val.den+b.val.num*a.val.den) ((a.val.den:Int)*(b.val.den:Int)) (by omega) (by omega) (by
  have:=a.val.den_nz
  have:=b.val.den_nz
  exact Int.mul_ne_zero (by omega) (by omega))
 rw[←Int.natCast_mul,Rat.divInt_ofNat,←Rat.add_def',Int.natCast_mul] at hf
 exact wQ.e0 a b _ _ _ _ _ _ _ _ _ pa pb m1 m2 s m3 hf
theorem Sub(a b:af)(ha:kD a)(hb:kD b):Cp 32 [a.pv,b.pv] (aJ (a.val-b.val)).pv:=by
 have hn:=Neg b hb
 have lb:=dU hb.1 hb.2 (by omega)
 have hs:=Add a (aJ (-b.val)) ha (iS (by rw[vN];exact lb))
 rw[bl,←Rat.sub_eq_add_neg] at hs
 exact wN.e0 a b _ _ hn hs
theorem Mul(a b:af)(ha:kD a)(hb:kD b):Cp 198 [a.pv,b.pv] (aJ (a.val*b.val)).pv:=by
 have pa:=jN a ha
 have pb:=jN b hb
 have la:=dU ha.1 ha.2 (by omega)
 have lb:=dU hb.1 hb.2 (by omega)
 have h1:=eF a.val
 have h2:=eP a.val
 have h3:=eF b.val
 have h4:=eP b.val
 have m1:=cP.Mul (Sym.whole a.val.num) (Sym.whole b.val.num) (show wl _≤_ by omega) (show wl _≤_ by omega)
 have m3:=cP.Mul (Sym.whole (a.val.den:Int)) (Sym.whole (b.val.den:Int)) (show wl _≤_ by omega) (show wl _≤_ by omega)
 rw[aw,aw] at m1 m3
 have w1:=dS a.val.num b.val.num
 have w3:=dS (a.val.den:Int) b.val.den
 have hf:=va (a.val.num*b.val.num) ((a.val.den:Int)*(b.val.den:Int)) (by omega) (by omega) (by
  have:=a.val.den_nz
  have:=b.val.den_nz
  exact Int.mul_ne_zero (by omega) (by omega))
 rw[←Int.natCast_mul,Rat.divInt_ofNat,←Rat.mul_def',Int.natCast_mul] at hf
 exact wS.e0 a b _ _ _ _ _ _ _ pa pb m1 m3 hf
theorem Div(a b:af)(ha:kD a)(hb:kD b)(h0:b.val≠0):Cp 234 [a.pv,b.pv] (.aB [(aJ (a.val/b.val)).pv,.az]):=by
 have pa:=jN a ha
 have pb:=jN b hb
 have la:=dU ha.1 ha.2 (by omega)
 have lb:=dU hb.1 hb.2 (by omega)
 have h1:=eF a.val
 have h2:=eP a.val
 have h3:=eF b.val
 have h4:=eP b.val
 have m1:=cP.Mul (Sym.whole a.val.num) (Sym.whole (b.val.den:Int)) (show wl _≤_ by omega) (show wl _≤_ by omega)
 have m3:=cP.Mul (Sym.whole (a.val.den:Int)) (Sym.whole b.val.num) (show wl _≤_ by omega) (show wl _≤_ by omega)
 rw[aw,aw] at m1 m3
 have w1:=dS a.val.num b.val.den
 have w3:=dS (a.val.den:Int) b.val.num
 have hf:=It (Sym.whole (a.val.num*b.val.den)) (Sym.whole ((a.val.den:Int)*b.val.num)) (show wl _≤_ by omega) (show wl _≤_ by omega) (by
  rw[aw]
  have:=a.val.den_nz
  refine Int.mul_ne_zero (by omega) (fun e=>h0 (Rat.num_eq_zero.1 e)))
 rw[aw,aw,←Rat.divInt_mul_divInt,Rat.num_divInt_den,←Rat.inv_def,←Rat.div_def] at hf
 exact wT.e0 a b _ _ _ _ _ _ _ none pa pb m1 m3 hf
theorem Ue(a:af)(h:kD a):Cp 218 [a.pv] (Sym.whole a.val.floor).pv:=by
 have hp:=jN a h
 have hh:=dU h.1 h.2 (by omega)
 have h1:=eF a.val
 have h2:=eP a.val
 have hd:=cP.Div (Sym.whole a.val.num) (Sym.whole (a.val.den:Int)) (show wl _≤_ by omega) (show wl _≤_ by omega) (by rw[aw];have:=a.val.den_nz;omega)
 rw[aw,aw,←Rat.floor_def] at hd
 exact tv.e0 a _ _ _ _ none hp hd
theorem o9(a b:af)(ha:kD a)(hb:kD b):Cp 34 [a.pv,b.pv] (vI (eh a.val b.val)):=by
 have pa:=jN a ha
 have pb:=jN b hb
 have la:=dU ha.1 ha.2 (by omega)
 have lb:=dU hb.1 hb.2 (by omega)
 have h1:=eF a.val
 have h2:=eP a.val
 have h3:=eF b.val
 have h4:=eP b.val
 have m1:=cP.Mul (Sym.whole a.val.num) (Sym.whole (b.val.den:Int)) (show wl _≤_ by omega) (show wl _≤_ by omega)
 have m2:=cP.Mul (Sym.whole b.val.num) (Sym.whole (a.val.den:Int)) (show wl _≤_ by omega) (show wl _≤_ by omega)
 rw[aw,aw] at m1 m2
 have w1:=dS a.val.num b.val.den
 have w2:=dS b.val.num a.val.den
 have hc:=cP.o9 (Sym.whole (a.val.num*b.val.den)) (Sym.whole (b.val.num*a.val.den)) (show wl _≤_ by omega) (show wl _≤_ by omega)
 rw[aw,aw,MV] at hc
 exact wO.e0 a b _ _ _ _ _ _ _ pa pb m1 m2 hc
end um
namespace uo
theorem one:Cp 172 [] (Sym.whole 1).pv:=qd.e0 _ (tE.Of 1 (by unfold ax;omega))
theorem plain(m:Words)(h:m.length≤274877906944):Cp 189 [aa m] (vB (!m.isEmpty&&cn m)):=by
 rw[dB]
 by_cases h0:m.length=0
 ·rw[decide_eq_true h0,Bool.not_true,Bool.false_and]
  exact kr.e1 m (by omega)
 ·rw[decide_eq_false h0,Bool.not_false,Bool.true_and]
  obtain⟨v,hv⟩:∃v,m[m.length-1]? = some v:=⟨_,List.getElem?_eq_getElem (by omega)⟩
  have:=kr.e0 m (m.length-1) v (by omega) (by unfold ax;omega) (by omega) hv
  have e:cn m=((v.toNat:Int) != 0):=by
   have h1:=nd hv
   by_cases h2:v.toNat=0
   ·have h3:((v.toNat:Int) != 0)=false:=by simp[h2]
    rw[h3]
    cases hc:cn m with
    |true=>exact absurd h2 (h1.1 hc)
    |false=>rfl
   ·have h3:((v.toNat:Int) != 0)=true:=by simp;omega
    rw[h3];exact h1.2 h2
  rw[e];exact this
theorem MW{m:Words}(h:m.length≤274877906944)(h0:m.length≠0):Cp 189 [aa m] (vB (cn m)):=by
 have:=plain m h
 rwa[dB,decide_eq_false h0,Bool.not_false,Bool.true_and] at this
theorem MX{m:Words}(h0:m.length=0):Cp 189 [aa m] (vB false):=by
 have:=plain m (by omega)
 rwa[dB,decide_eq_true h0,Bool.not_true,Bool.false_and] at this
theorem Valid(a:af)(h:kD a):Cp 111 [a.pv] (vB a.valid):=by
 obtain⟨l1,l2⟩:=h
 by_cases h1:a.num.length=0
 ·by_cases h2:a.den.length=0
  ·rw[Gr h1 h2];exact da.e0 a h1 h2
  ·rw[Gs h1 h2];exact da.e3 a _ h1 h2 (MX h1) rfl
 ·have p1:=MW l1 h1
  by_cases h2:a.den.length=0
  ·rw[Gt h1 h2]
   cases zk:cn a.num with
   |false=>exact da.e6 a _ h1 p1 zk
   |true=>exact da.e5 a _ _ h1 p1 zk (MX h2) rfl
  ·have p2:=MW l2 h2
   rw[Gu h1 h2]
   cases zk:cn a.num with
   |false=>rw[Bool.false_and];exact da.e6 a _ h1 p1 zk
   |true =>
    rw[Bool.true_and]
    cases Cx:cn a.den with
    |false=>rw[Bool.false_and];exact da.e5 a _ _ h1 p1 zk p2 Cx
    |true =>
     have hg:=tE.Gcd ⟨false,a.num⟩ ⟨false,a.den⟩ (show a.num.length≤_ by omega) (show a.den.length≤_ by omega)
     rw[w6 h1 zk,w6 h2 Cx,Int.natAbs_natCast,Int.natAbs_natCast] at hg
     have gl:=ye (a:=(nat a.num:Int)) (b:=(nat a.den:Int)) (k:=274877906944) (by show(words _).length≤_;rw[Int.natAbs_natCast,eZ zk];exact l1) (by show(words _).length≤_;rw[Int.natAbs_natCast,eZ Cx];exact l2)
     rw[Int.natAbs_natCast,Int.natAbs_natCast] at gl
     have hc:=tE.o9 (Sym.whole (Nat.gcd (nat a.num) (nat a.den):Nat)) (Sym.whole 1) (show wl _<_ by omega) (show wl 1<_ by decide)
     rw[aw,aw] at hc
     rw[Bool.true_and,←JE]
     exact da.e4 a _ _ _ _ _ h1 p1 zk p2 Cx hg one hc
theorem jN(a:af)(h:kD a):Cp 144 [a.pv] (.aB [(Sym.whole a.val.num).pv,(Sym.whole (a.val.den:Int)).pv]):=by
 have hv:=Valid a h
 cases hc:a.valid with
 |false=>rw[EL hc];exact hZ.e0 a _ _ hv hc one
 |true =>
  by_cases h0:a.num.length=0
  ·rw[si (List.eq_nil_of_length_eq_zero h0)];exact hZ.e1 a _ _ hv hc h0 one
  ·obtain⟨e1,e2⟩:=Gv hc h0
   rw[e1,e2]
   exact hZ.e2 a _ hv hc h0
theorem form(n d:au)(hn:n.cD.length≤1099511627776)(hd:d.cD.length≤1099511627776)(h0:d.val≠0):Cp 145 [n.pv,d.pv] (aJ (Rat.divInt n.val d.val)).pv:=by
 have sn:=tE.Sign n hn
 have sd:=tE.Sign d hd
 have wn:=bc n
 have wd':=bc d
 by_cases hz:n.val=0
 ·rw[hz,Rat.zero_divInt]
  exact iQ.e0 n d _ sn (by rw[hz];rfl)
 ·have FP:px n.val≠0:=by unfold px dR;split<;>(try split)<;>omega
  by_cases tG:d.val<0
  ·have e:Rat.divInt n.val d.val=Rat.divInt (-n.val) (-d.val):=by rw[Rat.divInt_neg',Int.neg_neg]
   have n1:=tE.Neg n hn
   have d1:=tE.Neg d hd
   have l1:(Sym.whole (-n.val)).cD.length≤1099511627776:=by show wl _≤_;rw[iy];omega
   have l2:(Sym.whole (-d.val)).cD.length≤1099511627776:=by show wl _≤_;rw[iy];omega
   have g:=tE.Gcd _ _ l1 l2
   rw[aw,aw] at g
   have Ao:=ye (a := -n.val) (b := -d.val) (k:=1099511627776) (by rw[iy];omega) (by rw[iy];omega)
   rw[e,formed (by omega) (by omega) _ rfl]
   have Ak:((Nat.gcd (-n.val).natAbs (-d.val).natAbs:Nat):Int)≠0:=by
    have:=Nat.gcd_pos_of_pos_left (-d.val).natAbs (show 0<(-n.val).natAbs by omega)
    omega
   generalize hG:((Nat.gcd (-n.val).natAbs (-d.val).natAbs:Nat):Int)=G at *
   have dd:=tE.Div (Sym.whole (-d.val)) (Sym.whole G) l2 Ao (by rw[aw];exact Ak)
   have dn:=tE.Div (Sym.whole (-n.val)) (Sym.whole G) l1 Ao (by rw[aw];exact Ak)
   rw[aw,aw] at dd dn
   exact iQ.e1 n d _ _ _ _ _ _ _ _ _ _ _ sn FP sd (by unfold px dR;rw[if_pos tG];omega) n1 d1 g dn dd
  ·have g:=tE.Gcd _ _ hn hd
   have Ao:=ye (a:=n.val) (b:=d.val) (k:=1099511627776) (by omega) (by omega)
   rw[formed hz (by omega) _ rfl]
   have Ak:((Nat.gcd n.val.natAbs d.val.natAbs:Nat):Int)≠0:=by
    have:=Nat.gcd_pos_of_pos_left d.val.natAbs (show 0<n.val.natAbs by omega)
    omega
   generalize hG:((Nat.gcd n.val.natAbs d.val.natAbs:Nat):Int)=G at *
   have dd:=tE.Div d (Sym.whole G) hd Ao (by rw[aw];exact Ak)
   have dn:=tE.Div n (Sym.whole G) hn Ao (by rw[aw];exact Ak)
   rw[aw] at dd dn
   have Vg:0≤px d.val:=by unfold px dR;rw[if_neg tG];split<;>omega
   exact iQ.e2 n d _ _ _ _ _ _ _ _ _ sn FP sd Vg g dn dd
theorem va(n d:Int)(hn:wl n≤1099511627776)(hd:wl d≤1099511627776)(h0:d≠0):Cp 145 [(Sym.whole n).pv,(Sym.whole d).pv] (aJ (Rat.divInt n d)).pv:=by
 have:=form (Sym.whole n) (Sym.whole d) hn hd (by rw[aw];exact h0)
 rwa[aw,aw] at this
theorem It(n d:au)(hn:n.cD.length≤1099511627776)(hd:d.cD.length≤1099511627776)(h0:d.val≠0):Cp 224 [n.pv,d.pv] (.aB [(aJ (Rat.divInt n.val d.val)).pv,(vI 0)]) :=
 oX.e1 n d _ _ (tE.Sign d hd) (by unfold px dR;split<;>(try split)<;>omega) (form n d hn hd h0)
theorem Of(n:Int)(h:ax n):Cp 89 [vI n] (aJ (n:Rat)).pv:=by
 have hw:wl n≤2:=mC (by unfold ax at h;omega)
 have:=va n 1 (by omega) (by decide) (by omega)
 rw[show Rat.divInt n 1=(n:Rat) from by rw[Rat.divInt_eq_div];grind] at this
 exact q7.e0 n _ _ _ (tE.Of n h) one this
theorem Neg(a:af)(h:kD a):Cp 88 [a.pv] (aJ (-a.val)).pv:=by
 have hp:=jN a h
 have hh:=dU h.1 h.2 (by omega)
 have h1:=eF a.val
 have h2:=eP a.val
 have hn:=tE.Neg (Sym.whole a.val.num) (show wl _≤_ by omega)
 rw[aw] at hn
 have hf:=va (-a.val.num) a.val.den (by rw[iy];omega) (by omega) (by have:=a.val.den_nz;omega)
 rw[←Rat.neg_divInt,Rat.num_divInt_den] at hf
 exact qa.e0 a _ _ _ _ hp hn hf
theorem Sign(a:af)(h:kD a):Cp 124 [a.pv] (vI (eh a.val 0)):=by
 have hp:=jN a h
 have hh:=dU h.1 h.2 (by omega)
 have h1:=eF a.val
 have hs:=tE.Sign (Sym.whole a.val.num) (show wl _≤_ by omega)
 rw[aw,yd] at hs
 exact oW.e0 a _ _ _ hp hs
theorem Add(a b:af)(ha:kD a)(hb:kD b):Cp 70 [a.pv,b.pv] (aJ (a.val+b.val)).pv:=by
 have pa:=jN a ha
 have pb:=jN b hb
 have la:=dU ha.1 ha.2 (by omega)
 have lb:=dU hb.1 hb.2 (by omega)
 have h1:=eF a.val
 have h2:=eP a.val
 have h3:=eF b.val
 have h4:=eP b.val
 have m1:=tE.Mul (Sym.whole a.val.num) (Sym.whole (b.val.den:Int)) (show wl _≤_ by omega) (show wl _≤_ by omega)
 have m2:=tE.Mul (Sym.whole b.val.num) (Sym.whole (a.val.den:Int)) (show wl _≤_ by omega) (show wl _≤_ by omega)
 have m3:=tE.Mul (Sym.whole (a.val.den:Int)) (Sym.whole (b.val.den:Int)) (show wl _≤_ by omega) (show wl _≤_ by omega)
 rw[aw,aw] at m1 m2 m3
 have w1:=dS a.val.num b.val.den
 have w2:=dS b.val.num a.val.den
 have w3:=dS (a.val.den:Int) b.val.den
 have s:=tE.Add (Sym.whole (a.val.num*b.val.den)) (Sym.whole (b.val.num*a.val.den)) (show wl _≤_ by omega) (show wl _≤_ by omega)
 rw[aw,aw] at s
 have w4:=BP (a.val.num*b.val.den) (b.val.num*a.val.den)
 have hf:=va (a.val.num*b.val.den+b.val.num*a.val.den) ((a.val.den:Int)*(b.val.den:Int)) (by omega) (by omega) (by
  have:=a.val.den_nz
  have:=b.val.den_nz
  exact Int.mul_ne_zero (by omega) (by omega))
 rw[←Int.natCast_mul,Rat.divInt_ofNat,←Rat.add_def',Int.natCast_mul] at hf
 exact pZ.e0 a b _ _ _ _ _ _ _ _ _ pa pb m1 m2 s m3 hf
theorem Sub(a b:af)(ha:kD a)(hb:kD b):Cp 143 [a.pv,b.pv] (aJ (a.val-b.val)).pv:=by
 have hn:=Neg b hb
 have lb:=dU hb.1 hb.2 (by omega)
 have hs:=Add a (aJ (-b.val)) ha (iS (by rw[vN];exact lb))
 rw[bl,←Rat.sub_eq_add_neg] at hs
 exact qb.e0 a b _ _ hn hs
theorem Mul(a b:af)(ha:kD a)(hb:kD b):Cp 245 [a.pv,b.pv] (aJ (a.val*b.val)).pv:=by
 have pa:=jN a ha
 have pb:=jN b hb
 have la:=dU ha.1 ha.2 (by omega)
 have lb:=dU hb.1 hb.2 (by omega)
 have h1:=eF a.val
 have h2:=eP a.val
 have h3:=eF b.val
 have h4:=eP b.val
 have m1:=tE.Mul (Sym.whole a.val.num) (Sym.whole b.val.num) (show wl _≤_ by omega) (show wl _≤_ by omega)
 have m3:=tE.Mul (Sym.whole (a.val.den:Int)) (Sym.whole (b.val.den:Int)) (show wl _≤_ by omega) (show wl _≤_ by omega)
 rw[aw,aw] at m1 m3
 have w1:=dS a.val.num b.val.num
 have w3:=dS (a.val.den:Int) b.val.den
 have hf:=va (a.val.num*b.val.num) ((a.val.den:Int)*(b.val.den:Int)) (by omega) (by omega) (by
  have:=a.val.den_nz
  have:=b.val.den_nz
  exact Int.mul_ne_zero (by omega) (by omega))
 rw[←Int.natCast_mul,Rat.divInt_ofNat,←Rat.mul_def',Int.natCast_mul] at hf
 exact qe.e0 a b _ _ _ _ _ _ _ pa pb m1 m3 hf
theorem Div(a b:af)(ha:kD a)(hb:kD b)(h0:b.val≠0):Cp 148 [a.pv,b.pv] (.aB [(aJ (a.val/b.val)).pv,(vI 0)]):=by
 have pa:=jN a ha
 have pb:=jN b hb
 have la:=dU ha.1 ha.2 (by omega)
 have lb:=dU hb.1 hb.2 (by omega)
 have h1:=eF a.val
 have h2:=eP a.val
 have h3:=eF b.val
 have h4:=eP b.val
 have m1:=tE.Mul (Sym.whole a.val.num) (Sym.whole (b.val.den:Int)) (show wl _≤_ by omega) (show wl _≤_ by omega)
 have m3:=tE.Mul (Sym.whole (a.val.den:Int)) (Sym.whole b.val.num) (show wl _≤_ by omega) (show wl _≤_ by omega)
 rw[aw,aw] at m1 m3
 have w1:=dS a.val.num b.val.den
 have w3:=dS (a.val.den:Int) b.val.num
 have hf:=It (Sym.whole (a.val.num*b.val.den)) (Sym.whole ((a.val.den:Int)*b.val.num)) (show wl _≤_ by omega) (show wl _≤_ by omega) (by
  rw[aw]
  have:=a.val.den_nz
  refine Int.mul_ne_zero (by omega) (fun e=>h0 (Rat.num_eq_zero.1 e)))
 rw[aw,aw,←Rat.divInt_mul_divInt,Rat.num_divInt_den,←Rat.inv_def,←Rat.div_def] at hf
 exact qc.e0 a b _ _ _ _ _ _ _ 0 pa pb m1 m3 hf
theorem o9(a b:af)(ha:a.num.length≤68719476736∧a.den.length≤68719476736)(hb:b.num.length≤68719476736∧b.den.length≤68719476736):Cp 69 [a.pv,b.pv] (vI (eh a.val b.val)):=by
 have la:=dU ha.1 ha.2 (by omega)
 have lb:=dU hb.1 hb.2 (by omega)
 have hs:=Sub a b ⟨by omega,by omega⟩ ⟨by omega,by omega⟩
 have hl:=sj a.val b.val
 have hg:=Sign (aJ (a.val-b.val)) (iS (by omega))
 rw[bl,←yd,Gq] at hg
 exact pY.e0 a b _ _ hs hg
theorem JF(a:af)(h:kD a):Cp 70 [a.pv,(⟨false,[],[]⟩:af).pv] (aJ a.val).pv:=by
 have hf:=Add a ⟨false,[],[]⟩ h ⟨by simp,by simp⟩
 rwa[si (a:=⟨false,[],[]⟩) rfl,Rat.add_zero] at hf
theorem Min(a b:af)(ha:a.num.length≤68719476736∧a.den.length≤68719476736)(hb:b.num.length≤68719476736∧b.den.length≤68719476736):Cp 284 [a.pv,b.pv] (aJ (fa a.val b.val)).pv:=by
 unfold fa
 split
 ·rename_i h;exact ma.e0 a b _ _ (o9 a b ha hb) h (JF a ⟨by omega,by omega⟩)
 ·rename_i h;exact ma.e1 a b _ _ (o9 a b ha hb) (by omega) (JF b ⟨by omega,by omega⟩)
theorem Max(a b:af)(ha:a.num.length≤68719476736∧a.den.length≤68719476736)(hb:b.num.length≤68719476736∧b.den.length≤68719476736):Cp 285 [a.pv,b.pv] (aJ (fR a.val b.val)).pv:=by
 unfold fR
 split
 ·rename_i h;exact mb.e0 a b _ _ (o9 a b ha hb) h (JF a ⟨by omega,by omega⟩)
 ·rename_i h;exact mb.e1 a b _ _ (o9 a b ha hb) (by omega) (JF b ⟨by omega,by omega⟩)
end uo
end Go.Proofs.YtllmkadmohkbfaaGreatDoor.Sym
