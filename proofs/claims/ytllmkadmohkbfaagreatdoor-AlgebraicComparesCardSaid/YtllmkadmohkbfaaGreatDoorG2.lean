/- Lemmas for the statements of this seat. -/
import Derived.Test.YtllmkadmohkbfaaGreatDoorG1
import Derived.Test.YtllmkadmohkbfaaGreatDoorP2
namespace Go.Proofs.YtllmkadmohkbfaaGreatDoor.Sym
open Go Path
set_option linter.unusedVariables false
namespace Am
open dE
theorem times(a b:Words)(ha:a.length≤2199023255552)(hb:b.length≤2199023255552):Cp 233 [ag a,ag b] (ag (words (nat a*nat b))):=by
 have inner:∀(i:Nat) (v:UInt32) (r:PV),a[i]? = some v→i<a.length→(∀site:Words,site.length=a.length+b.length→nat site=nat (a.take i)*nat b+4294967296^i*(v.toNat*nat b)→(∀q,i+1+b.length≤q→q<site.length→wd site q=0)→gf.aj a b (i+1) site r) →
   ∀(j k carry:Nat) (site:Words),b.length-k=j→k≤b.length→site.length=a.length+b.length→carry<4294967296→(∀q,i+b.length≤q→q<site.length→wd site q=0) →
   nat site+4294967296^(i+k)*carry=nat (a.take i)*nat b+4294967296^i*(v.toNat*nat (b.take k))→gf.cz a b i carry i k site r:=by
  intro i v r hv hi MF j
  induction j with
  |zero =>
   intro k carry site hj hk hs hc hz hinv
   have ZR:k=b.length:=by omega
   subst ZR
   obtain⟨w,hw⟩:=mZ carry hc
   refine gf.AR a b i carry i b.length site w (by omega) (by omega) (by omega) (by omega) (by omega) (by omega) (MF _ (by simpa using hs) ?_ ?_)
   ·obtain⟨u,hu⟩:∃u,site[i+b.length]? = some u:=⟨_,List.getElem?_eq_getElem (by omega)⟩
    have h0:=hz (i+b.length) (by omega) (by omega)
    rw[oX hu] at h0
    have h1:=wV site (i+b.length) w u hu
    rw[h0,hw] at h1
    rw[b9 (l:=b) (by omega)] at hinv
    omega
   ·intro q Wt Mc
    rw[List.length_set] at Mc
    have:=hz q (by omega) Mc
    unfold wd at this ⊢
    rw[List.getElem?_set_ne (by omega)]
    exact this
  |succ j ih =>
   intro k carry site hj hk hs hc hz hinv
   obtain⟨u,hu⟩:∃u,b[k]? = some u:=⟨_,List.getElem?_eq_getElem (by omega)⟩
   obtain⟨x,hx⟩:∃x,site[i+k]? = some x:=⟨_,List.getElem?_eq_getElem (by omega)⟩
   have h1:=Dg (oq v) (oq u)
   have h2:=oq x
   generalize hp:v.toNat*u.toNat=p at *
   obtain⟨w,hw⟩:=mZ ((carry+(p+x.toNat))%4294967296) (by omega)
   have e:(2:Nat)^min 32 64=4294967296:=by decide
   refine gf.xl a b i carry i k site v u p x (p+x.toNat) (carry+(p+x.toNat)) w ((carry+(p+x.toNat))/4294967296) (by omega) hv hu (by rw[hp];omega) (by omega) (by omega) hx (by omega) (by omega) hw.symm (by rw[e]) (by omega) (by omega) ?_
   refine ih (k+1) _ (site.set (i+k) w) (by omega) (by omega) (by simpa using hs) (by omega) ?_ ?_
   ·intro q Wt Mc
    rw[List.length_set] at Mc
    have:=hz q Wt Mc
    unfold wd at this ⊢
    rw[List.getElem?_set_ne (by omega)]
    exact this
   ·have g1:=wV site (i+k) w x hx
    rw[hw] at g1
    rw[eC hu,show i+(k+1)=i+k+1 from rfl,Nat.pow_succ,Nat.mul_assoc]
    have g2:4294967296^(i+k)*((carry+(p+x.toNat))%4294967296)+4294967296^(i+k)*(4294967296*((carry+(p+x.toNat))/4294967296))=4294967296^(i+k)*carry+4294967296^(i+k)*p+4294967296^(i+k)*x.toNat:=by
     rw[←Nat.mul_add,←Nat.mul_add,←Nat.mul_add];congr 1;omega
    have g3:4294967296^i*(v.toNat*(nat (b.take k)+4294967296^k*u.toNat))=4294967296^i*(v.toNat*nat (b.take k))+4294967296^(i+k)*p:=by
     rw[←hp,Nat.pow_add,Nat.mul_add,Nat.mul_add]
     congr 1
     rw[Nat.mul_assoc];congr 1
     rw[Nat.mul_left_comm]
    omega
 have loop:∀(j t:Nat) (site:Words),a.length-t=j→t≤a.length→site.length=a.length+b.length→nat site=nat (a.take t)*nat b→(∀q,t+b.length≤q→q<site.length→wd site q=0) →
   gf.aj a b t site (ag (words (nat a*nat b))):=by
  intro j
  induction j with
  |zero =>
   intro t site hj ht hs hinv _
   rw[b9 (by omega)] at hinv
   have:=gf.dw a b t site (words (nat site)) (by omega) (by omega) (trim site (by omega))
   rwa[hinv] at this
  |succ j ih =>
   intro t site hj ht hs hinv hz
   obtain⟨v,hv⟩:∃v,a[t]? = some v:=⟨_,List.getElem?_eq_getElem (by omega)⟩
   refine gf.l10 a b t site (by omega) ?_
   refine inner t v _ hv (by omega) (fun Rg Jx WZ Sb => ?_) _ 0 0 site rfl (by omega) hs (by omega) hz ?_
   ·refine ih (t+1) Rg (by omega) (by omega) Jx ?_ Sb
    rw[WZ,eC hv,Nat.add_mul,Nat.mul_assoc]
   ·simp[nat,hinv]
 refine gf.e0 a b (by omega) (by omega) (loop _ 0 _ rfl (by omega) (by simp) (by simp[nat,ti]) ?_)
 intro q _ hq
 unfold wd
 rw[List.getElem?_replicate]
 split
 ·rename_i w h
  split at h
  ·injection h with h;subst h;rfl
  ·cases h
 ·rfl
theorem Jc(k:Nat):(4294967296:Nat)^k=2^(32*k):=by rw[Nat.pow_mul]
theorem VB{l:Words}{k:Nat}(h:l.length=k+1):nat l=nat (l.take k)+4294967296^k*wd l k:=by
 have:=jz l k
 rwa[b9 (by omega)] at this
theorem bits(a:Words)(hc:cn a=true)(ha:a.length≤2199023255553):Cp 293 [ag a] (vI (blen (nat a))):=by
 by_cases h0:a.length=0
 ·have:a=[]:=List.eq_nil_of_length_eq_zero h0
  subst this
  exact jo.e0 [] rfl
 ·have loop:∀(j:Nat) (n:Int) (x:UInt32),x.toNat≤j→aw (n+j)→aw n→jo.aj n x (vI (n+blen x.toNat)):=by
   intro j
   induction j with
   |zero =>
    intro n x hx _ _
    have e:x.toNat=0:=by omega
    rw[e,AW]
    have:=jo.dw n x (by omega)
    rwa[show n+((0:Nat):Int)=n from by omega]
   |succ j ih =>
    intro n x hx hn Tm
    by_cases h:x.toNat=0
    ·rw[h,AW]
     have:=jo.dw n x (by omega)
     rwa[show n+((0:Nat):Int)=n from by omega]
    ·obtain⟨z,hz⟩:=mZ (x.toNat/2) (by have:=oq x;omega)
     have e:blen x.toNat=1+blen (x.toNat/2):=by
      have:=Ak (n:=x.toNat) (k:=1)
      by_cases h1:x.toNat=1
      ·rw[h1];rfl
      ·exact this (by omega)
     unfold aw at hn Tm
     have:=ih (n+1) z (by omega) (by unfold aw;omega) (by unfold aw;omega)
     rw[hz] at this
     rw[e,show n+((1+blen (x.toNat/2):Nat):Int)=n+1+(blen (x.toNat/2):Nat) from by omega]
     exact jo.l10 n x z (by omega) (by unfold aw;omega) (by rw[hz];rfl) this
  obtain⟨k,hk⟩:∃k,a.length=k+1:=⟨a.length-1,by omega⟩
  obtain⟨v,hv⟩:∃v,a[k]? = some v:=⟨_,List.getElem?_eq_getElem (by omega)⟩
  have h1:=(tH (v:=v) (by rw[hk];exact hv)).1 hc
  have h2:=jM (a.take k)
  rw[List.length_take,Nat.min_eq_left (by omega)] at h2
  have h3:=VB hk
  rw[oX hv] at h3
  have e:blen (nat a)=32*k+blen v.toNat:=by
   rw[Jc] at h2 h3
   have h4:2^(32*k)≤nat a:=by
    have:=Nat.mul_le_mul_left (2^(32*k)) (show 1≤v.toNat by omega)
    omega
   rw[Ak h4]
   congr 2
   rw[h3,Nat.add_mul_div_left _ _ (Nat.two_pow_pos _),Nat.div_eq_of_lt h2,Nat.zero_add]
  have hw:=oq v
  have:=loop v.toNat (32*((a.length:Int)-1)) v (Nat.le_refl _) (by unfold aw;omega) (by unfold aw;omega)
  rw[e,show((32*k+blen v.toNat:Nat):Int)=32*((a.length:Int)-1)+(blen v.toNat:Nat) from by omega]
  exact jo.e1 a k v h0 (by unfold aw;omega) (by unfold aw;omega) (by omega) hv this
theorem Rt{v c:Nat}(hv:v<4294967296)(hc:c≤1):((v*2^(min 1 32))%4294967296%4294967296) ||| (c%4294967296)=(2*v)%4294967296+c:=by
 have e:(2:Nat)^min 1 32=2:=by decide
 rw[e,Nat.mod_mod,Nat.mod_eq_of_lt (show c<4294967296 by omega)]
 obtain⟨u,hu⟩:∃u,(v*2)%4294967296=2*u:=⟨(v*2)%4294967296/2,by omega⟩
 rw[hu]
 have:=Nat.two_pow_add_eq_or_of_lt (i:=1) (show c<2^1 by omega) u
 rw[show (2:Nat)^1=2 from rfl] at this
 rw[←this];omega
theorem VC{v s:Nat}(hs:s<32)(hv:v%2^(s+1)=0)(hl:v<4294967296):(v%4294967296) ||| (((1*2^(min (s%32) 32))%4294967296)%4294967296)=v+2^s:=by
 have h1:2^s<4294967296:=by
  have:=Nat.pow_lt_pow_right (a:=2) (by omega) hs
  omega
 rw[Nat.mod_eq_of_lt hs,Nat.min_eq_left (by omega),Nat.one_mul,Nat.mod_mod,Nat.mod_eq_of_lt hl,Nat.mod_eq_of_lt h1]
 have h2:v=2^(s+1)*(v/2^(s+1)):=by have:=Nat.div_add_mod v (2^(s+1));omega
 have h3:=Nat.two_pow_add_eq_or_of_lt (i:=s+1) (show 2^s<2^(s+1) by rw[Nat.pow_succ];have:=Nat.two_pow_pos s;omega) (v/2^(s+1))
 rw[←h2] at h3
 exact h3.symm
theorem Ru(a:Words)(t:Nat)(ht:t≤a.length):wd a t=nat a/4294967296^t%4294967296:=by
 rw[Al a t ht,py a t]
 have:=tV a t
 omega
theorem VD(a:Words)(t s Q:Nat)(hs:s<32)(ht:t≤a.length)(h:nat a=Q*2^(32*t+s+1)):wd a t%2^(s+1)=0:=by
 rw[Ru a t ht,h,Jc,show 32*t+s+1=(s+1)+32*t from by omega,Nat.pow_add,←Nat.mul_assoc,Nat.mul_div_cancel _ (Nat.two_pow_pos _)]
 have:(4294967296:Nat)=2^(s+1)*2^(32-(s+1)):=by rw[←Nat.pow_add,show s+1+(32-(s+1))=32 from by omega]
 rw[this,Nat.mod_mul_right_mod,Nat.mul_mod_left]
theorem VE(a:Words)(k:Nat)(hk:k/32≤a.length):wd a (k/32)/2^(k%32)%2=nat a/2^k%2:=by
 rw[Ru a _ hk,Jc]
 have e:(4294967296:Nat)=2^(k%32)*2^(32-k%32):=by rw[←Nat.pow_add,show k%32+(32-k%32)=32 from by omega]
 have e2:(2:Nat)^(32-k%32)=2*2^(31-k%32):=by rw[show 32-k%32=(31-k%32)+1 from by omega,Nat.pow_succ,Nat.mul_comm]
 rw[e,Nat.mod_mul_right_div_self,e2,Nat.mod_mul_right_mod,Nat.div_div_eq_div_mul,←Nat.pow_add,Nat.div_add_mod]
theorem dbl(a b:Words)(hb:b.length≤2199023255552):∀(i:Int) (q R:Words) (bit:Nat) (r:PV),R.length=b.length+1→nat R<nat b→bit≤1 →
  (∀(c:UInt32) (t:Nat) (U:Words),b.length+1≤t→U.length=b.length+1→nat U=2*nat R+bit→fk.cz a b i c t q U r) →
  ∀(j t:Nat) (c:UInt32) (U:Words),b.length+1-t=j→t≤b.length+1→U.length=b.length+1→c.toNat≤1→(∀p,t≤p→wd U p=wd R p) →
  nat (U.take t)+4294967296^t*c.toNat=2*nat (R.take t)+bit→fk.cz a b i c t q U r:=by
 have acI:=jM b
 have Uc:2*nat b<4294967296^(b.length+1):=by rw[Nat.pow_succ];omega
 intro i q R bit r hR hRb VF MF j
 induction j with
 |zero =>
  intro t c U hj ht hU hc mQ hinv
  have CY:t=b.length+1:=by omega
  rw[←CY] at Uc
  refine MF c _ U (by omega) hU ?_
  rw[b9 (by omega),b9 (by omega)] at hinv
  clear CY
  generalize 4294967296^t=P at hinv Uc
  have:c.toNat=0:=by
   refine Nat.eq_zero_of_not_pos fun hp => ?_
   have:=Nat.mul_le_mul_left P (show 1≤c.toNat from hp)
   omega
  rw[this] at hinv
  omega
 |succ j ih =>
  intro t c U hj ht hU hc mQ hinv
  obtain⟨v,hv⟩:∃v,U[t]? = some v:=⟨_,List.getElem?_eq_getElem (by omega)⟩
  have uy:=mQ t (Nat.le_refl t)
  rw[oX hv] at uy
  have Gm:=oq v
  obtain⟨z,hz⟩:=mZ ((v.toNat*2^(min 1 32))%4294967296) (Nat.mod_lt _ (by omega))
  obtain⟨z1,Hj⟩:=mZ ((2*v.toNat)%4294967296+c.toNat) (by omega)
  obtain⟨z2,P9⟩:=mZ (v.toNat/2147483648) (by omega)
  have e31:(2:Nat)^min 31 32=2147483648:=by decide
  refine fk.xl a b i c t q U v z z1 z2 (by omega) hv hz.symm (by rw[hz,Hj];exact Rt Gm hc) (by rw[e31,P9]) (by omega) (by omega) ?_
  refine ih (t+1) z2 (U.set t z1) (by omega) (by omega) (by simpa using hU) (by omega) (fun p hp=>by rw[AY (by omega)];exact mQ p (by omega)) ?_
  rw[mq (by omega),jz R t,←uy,Hj,P9,Nat.pow_succ,Nat.mul_assoc]
  have h6:4294967296^t*((2*v.toNat)%4294967296+c.toNat)+4294967296^t*(4294967296*(v.toNat/2147483648))=4294967296^t*c.toNat+2*(4294967296^t*v.toNat):=by
   rw[Nat.mul_left_comm 2,←Nat.mul_add,←Nat.mul_add]
   congr 1
   omega
  omega
theorem j9(a b:Words)(T7:cn a=true)(On:0<nat b)(ha:a.length≤2199023255552)(hb:b.length≤2199023255552) :
  Cp 274 [ag a,ag b] (.aB [ag (words (nat a/nat b)),ag (words (nat a%nat b))]):=by
 have loop:∀(n Q:Nat) (q R:Words),q.length=a.length→R.length=b.length+1→n≤blen (nat a)→n≤32*a.length→nat a/2^n=Q*nat b+nat R→nat R<nat b→nat q=Q*2^n →
   fk.aj a b ((n:Int)-1) q R (.aB [ag (words (nat a/nat b)),ag (words (nat a%nat b))]):=by
  intro n
  induction n with
  |zero =>
   intro Q q R hq hR _ _ hdiv bH Ub
   have h1:=trim q (by omega)
   have h2:=trim R (by omega)
   rw[Nat.pow_zero,Nat.div_one] at hdiv
   rw[Nat.pow_zero,Nat.mul_one] at Ub
   have e1:nat a/nat b=nat q:=by
    rw[Ub,hdiv,Nat.add_comm,Nat.add_mul_div_right _ _ On,Nat.div_eq_of_lt bH,Nat.zero_add]
   have e2:nat a%nat b=nat R:=by
    rw[hdiv,Nat.add_comm,Nat.add_mul_mod_self_right,Nat.mod_eq_of_lt bH]
   rw[e1,e2]
   exact fk.dw a b _ q R _ _ (by omega) (by omega) (by omega) h1 h2
  |succ n ih =>
   intro Q q R hq hR hn Fw hdiv bH Ub
   have Pg:n/32<a.length:=by omega
   obtain⟨v,hv⟩:∃v,a[n/32]? = some v:=⟨_,List.getElem?_eq_getElem Pg⟩
   have Gm:=oq v
   have hs:n%32<32:=Nat.mod_lt _ (by omega)
   obtain⟨z,hz⟩:=mZ (v.toNat/2^(n%32)) (Nat.lt_of_le_of_lt (Nat.div_le_self _ _) Gm)
   obtain⟨z1,Hj⟩:=mZ (nat a/2^n%2) (by omega)
   have VF:=VE a n (by omega)
   rw[oX hv] at VF
   rw[show ((n+1:Nat):Int)-1=(n:Int) from by omega]
   refine fk.l10 a b (n:Int) q R n v n z z1 (by omega) rfl (by omega) hv rfl (by rw[Nat.min_eq_left (by omega),hz]) ?_ ?_
   ·rw[show (1:Nat)%4294967296=1 from rfl,Nat.and_one_is_mod,Hj,←VF,hz]
    have:=Nat.lt_of_le_of_lt (Nat.div_le_self v.toNat (2^(n%32))) Gm
    omega
   ·have Oh:nat a/2^n=2*(nat a/2^(n+1))+nat a/2^n%2:=by
     rw[Nat.pow_succ,←Nat.div_div_eq_div_mul];omega
    have ye:nat a/2^n%2≤1:=by omega
    generalize hbv:nat a/2^n%2=bit at *
    refine dbl a b hb (n:Int) q R bit _ hR bH ye ?_ _ 0 z1 R rfl (by omega) hR (by omega) (fun _ _=>rfl) (by simp[nat];exact Hj)
    intro c t U ht hU hUn
    have vC:=Rr U b (b.length+1) hU.symm (by omega) (by omega)
    by_cases Ik:nat b≤nat U
    ·obtain⟨V,hV1,hV2,hV3⟩:=take U b (b.length+1) hU.symm (by omega) Ik
     obtain⟨u,hu⟩:∃u,q[n/32]? = some u:=⟨_,List.getElem?_eq_getElem (by omega)⟩
     have DU:=oq u
     have Bi:=VD q (n/32) (n%32) Q hs (by omega) (by rw[Ub,show 32*(n/32)+n%32+1=n+1 from by omega])
     rw[oX hu] at Bi
     have h2s:2^(n%32)<4294967296:=by
      have:=Nat.pow_lt_pow_right (a:=2) (by omega) hs
      omega
     obtain⟨z2,P9⟩:=mZ ((1*2^(min (n%32) 32))%4294967296) (Nat.mod_lt _ (by omega))
     have Wu:=VC hs Bi DU
     rw[Nat.mod_eq_of_lt hs] at Wu
     have hbound:u.toNat+2^(n%32)<4294967296:=by
      rw[←Wu]
      exact Nat.or_lt_two_pow (n:=32) (Nat.mod_lt _ (by omega)) (Nat.mod_lt _ (by omega))
     obtain⟨z3,hz3⟩:=mZ _ hbound
     refine fk.AR a b (n:Int) c t q U U _ V n u n z2 z3 ht vC (by unfold iM;split<;>(try split)<;>omega) hV3 rfl (by omega) Pg hu rfl P9.symm (by rw[P9,hz3];exact Wu) (by omega) (by unfold aw;omega) ?_
     refine ih (2*Q+1) (q.set (n/32) z3) V (by simpa using hq) (by omega) (by omega) (by omega) ?_ ?_ ?_
     ·rw[Oh,hdiv,hV2,hUn,Nat.add_mul,Nat.mul_add,Nat.mul_assoc];omega
     ·omega
     ·have g:=wV q (n/32) z3 u hu
      rw[hz3,Nat.mul_add,Ub,Jc,←Nat.pow_add,show 32*(n/32)+n%32=n from by omega] at g
      rw[Nat.pow_succ] at g
      have:(2*Q+1)*2^n=Q*(2^n*2)+2^n:=by rw[Nat.add_mul,Nat.one_mul,Nat.mul_comm 2 Q,Nat.mul_assoc,Nat.mul_comm 2 (2^n)]
      omega
    ·refine fk.Ol a b (n:Int) c t q U U _ ht vC (by unfold iM;split<;>(try split)<;>omega) (by unfold aw;omega) ?_
     refine ih (2*Q) q U hq hU (by omega) (by omega) ?_ (by omega) ?_
     ·rw[Oh,hdiv,hUn,Nat.mul_add,Nat.mul_assoc];omega
     ·rw[Ub,Nat.pow_succ,Nat.mul_comm 2 Q,Nat.mul_assoc,Nat.mul_comm 2 (2^n)]
 have XG:=bits a T7 (by omega)
 have Vs:blen (nat a)≤32*a.length:=yR (by rw[←Jc];exact jM a)
 refine fk.e0 a b _ (by omega) (by omega) (by omega) XG (by unfold aw;omega) ?_
 refine loop (blen (nat a)) 0 _ _ (by simp) (by simp) (Nat.le_refl _) Vs ?_ ?_ ?_
 ·rw[ti,Nat.div_eq_of_lt (Ta _)];simp
 ·rw[ti];exact On
 ·rw[ti];simp
theorem Di{p:Nat}(hp:0<p):∃v z:UInt32,0<(words p).length∧(words p)[0]? = some v∧(v.toNat%4294967296) &&& (1%4294967296)=z.toNat∧z.toNat=p%2:=by
 have hl:0<(words p).length:=Nat.pos_of_ne_zero (by rw[Ne,iR];omega)
 obtain⟨v,hv⟩:∃v,(words p)[0]? = some v:=⟨_,List.getElem?_eq_getElem hl⟩
 obtain⟨z,hz⟩:=mZ (p%2) (by omega)
 refine⟨v,z,hl,hv,?_,hz⟩
 have h:=Ru (words p) 0 (by omega)
 rw[oX hv,aZ,Nat.pow_zero,Nat.div_one] at h
 rw[show (1:Nat)%4294967296=1 from rfl,Nat.and_one_is_mod,hz,h]
 omega
theorem Ls{p q:Nat}(hp:p%2=0)(hq:q%2=1):Nat.gcd (p/2) q=Nat.gcd p q:=by
 have hc:Nat.Coprime 2 q:=by
  unfold Nat.Coprime
  rw[Nat.gcd_rec,hq];rfl
 have:=Nat.Coprime.gcd_mul_left_cancel (p/2) hc
 rw[←this]
 congr 1
 omega
theorem Dj{p q k:Nat}(hq:0<q)(h:(words q).length≤k):(words (Nat.gcd p q)).length≤k:=Nat.le_trans (jy (Nat.le_of_dvd hq (Nat.gcd_dvd_right p q))) h
theorem J8(p:Nat)(hp:(words p).length≤2199023255553):av bT 279 [.row 100000 0 (words p).length 1] [(100000,ws (words p))] (.row 100000 0 (words (p/2)).length 1) [(100000,ws (words (p/2)))]:=by
 have:=Dh (words p) _ rfl hp
 rwa[aZ] at this
theorem Ud(p q:Nat)(hp:(words p).length≤2199023255553)(SR:q≤p):∃U:Words,U.length=(words p).length ∧
  av bT 280 [.row 100000 0 (words p).length 1,.row 100001 0 (words q).length 1] [(100000,ws (words p)),(100001,ws (words q))] (.pv (.aB [])) [(100000,ws U),(100001,ws (words q))] ∧
  av bT 281 [.row 100000 0 (words p).length 1] [(100000,ws U)] (.row 100000 0 (words (p-q)).length 1) [(100000,ws (words (p-q)))]:=by
 obtain⟨U,h1,h2,h3⟩:=XE (words p) (words q) _ _ rfl rfl hp (by rw[aZ,aZ];exact SR)
 have hc:=cut U (by omega)
 rw[aZ,aZ] at h2
 rw[h2,h1] at hc
 exact⟨U,h1,h3,hc⟩
theorem gcd(a b:Words)(ha:a.length≤1099511627776)(hb:b.length≤1099511627776):Cp 255 [ag a,ag b] (ag (words (Nat.gcd (nat a) (nat b)))):=by
 have t1:=Ua a (by omega)
 have t2:=Ua b (by omega)
 have la:=Hh a
 have lb:=Hh b
 generalize nat a=A at *
 generalize nat b=B at *
 by_cases hA:A=0
 ·subst hA
  rw[Nat.gcd_zero_left]
  exact ct.e0 a b _ _ _ _ t1 t2 (by rw[kR];rfl) rfl
 by_cases hB:B=0
 ·subst hB
  rw[Nat.gcd_zero_right]
  exact ct.e1 a b _ _ _ _ t1 t2 (by rw[Ne,iR];exact hA) (by rw[kR];rfl) rfl
 refine ct.e2 a b _ _ _ _ t1 t2 (by rw[Ne,iR];exact hA) (by rw[Ne,iR];exact hB) ?_
 have fin:∀(j m t64 t65:Nat),t64-t65=j→t64<9223372036854775808→(words (m*2^j)).length≤1099511627776→ct.Lg (words m) t64 t65 (ag (words (m*2^j))):=by
  intro j
  induction j with
  |zero =>
   intro m t64 t65 hj _ _
   rw[Nat.pow_zero,Nat.mul_one]
   exact ct.l41 _ _ _ (by omega)
  |succ j ih =>
   intro m t64 t65 hj ht hl
   have e:m*2^(j+1)=(m+m)*2^j:=by rw[Nat.pow_succ,Nat.add_mul,←Nat.mul_assoc];omega
   have hm:(words m).length≤1099511627776:=by
    refine Nat.le_trans (jy ?_) hl
    have:=Nat.mul_le_mul_left m (Nat.two_pow_pos (j+1))
    omega
   have hp:=plus (words m) (words m) (by omega) (by omega)
   rw[aZ] at hp
   rw[e] at hl ⊢
   exact ct.l40 _ _ _ _ (by omega) hp (by omega) (ih (m+m) t64 (t65+1) (by omega) ht hl)
 have rounds:∀(s p q tw:Nat),p+q≤s→0<q→(words p).length≤1099511627776→(words q).length≤1099511627776→tw<9223372036854775808→(words (Nat.gcd p q*2^tw)).length≤1099511627776 →
   ((p%2=1∨q%2=1)→ct.cz (words p).length (words q).length tw (words p) (words q) (ag (words (Nat.gcd p q*2^tw)))) ∧
   (0<p→(p%2=1∨q%2=1)→ct.oV (words p).length (words q).length tw (words p) (words q) (ag (words (Nat.gcd p q*2^tw)))) ∧
   (p%2=1→ct.Hc (words p).length (words q).length tw (words p) (words q) (ag (words (Nat.gcd p q*2^tw)))):=by
  intro s
  induction s with
  |zero=>intro p q tw h1 h2;omega
  |succ s ih =>
   intro p q tw hs hq lp lq VG hl
   have L5:p%2=1→ct.Hc (words p).length (words q).length tw (words p) (words q) (ag (words (Nat.gcd p q*2^tw))):=by
    intro hp
    obtain⟨v,z,g1,g2,g3,g4⟩:=Di hq
    by_cases he:q%2=0
    ·have hg:=Ls (p:=q) (q:=p) he hp
     have:=(ih p (q/2) tw (by omega) (by omega) lp (Nat.le_trans (jy (Nat.div_le_self q 2)) lq) VG (by rw[Nat.gcd_comm,hg,Nat.gcd_comm];exact hl)).2.2 hp
     rw[Nat.gcd_comm,hg,Nat.gcd_comm] at this
     exact ct.l50 _ _ tw _ _ v z _ _ g1 g2 g3 (by omega) (J8 q (by omega)) this
    ·have hc:=Px (words p) (words q) _ _ rfl rfl (by omega) (by omega)
     rw[aZ,aZ] at hc
     by_cases bH:p<q
     ·obtain⟨U,u1,u2,u3⟩:=Ud q p (by omega) (by omega)
      have hg:Nat.gcd (q-p) p=Nat.gcd p q:=by rw[Nat.gcd_sub_self_left (by omega),Nat.gcd_comm]
      have:=(ih (q-p) p tw (by omega) (by omega) (Nat.le_trans (jy (Nat.sub_le q p)) lq) lp VG (by rw[hg];exact hl)).1 (by omega)
      rw[hg] at this
      exact ct.l51 _ _ tw _ _ v z _ _ _ U _ _ _ g1 g2 g3 (by omega) hc (by unfold iM;split<;>(try split)<;>omega) u2 u3 this
     ·obtain⟨U,u1,u2,u3⟩:=Ud p q (by omega) (by omega)
      have hg:Nat.gcd (p-q) q=Nat.gcd p q:=Nat.gcd_sub_self_left (by omega)
      have:=(ih (p-q) q tw (by omega) hq (Nat.le_trans (jy (Nat.sub_le p q)) lp) lq VG (by rw[hg];exact hl)).1 (by omega)
      rw[hg] at this
      exact ct.l52 _ _ tw _ _ v z _ _ _ U _ _ _ g1 g2 g3 (by omega) hc (by unfold iM;split<;>(try split)<;>omega) u2 u3 this
   have L3:0<p→(p%2=1∨q%2=1)→ct.oV (words p).length (words q).length tw (words p) (words q) (ag (words (Nat.gcd p q*2^tw))):=by
    intro hp XH
    obtain⟨v,z,g1,g2,g3,g4⟩:=Di hp
    by_cases he:p%2=0
    ·have hg:=Ls (p:=p) (q:=q) he (by omega)
     have:=(ih (p/2) q tw (by omega) hq (Nat.le_trans (jy (Nat.div_le_self p 2)) lp) lq VG (by rw[hg];exact hl)).2.1 (by omega) (by omega)
     rw[hg] at this
     exact ct.Wq _ _ tw _ _ v z _ _ g1 g2 g3 (by omega) (J8 p (by omega)) this
    ·exact ct.Om _ _ tw _ _ v z g1 g2 g3 (by omega) (L5 (by omega))
   refine⟨fun XH => ?_,L3,L5⟩
   by_cases hp:p=0
   ·subst hp
    rw[Nat.gcd_zero_left] at hl ⊢
    exact ct.AR _ _ tw _ _ (by rw[kR];simp) rfl (fin tw q tw 0 rfl VG hl)
   ·exact ct.xl _ _ tw _ _ (Nat.pos_of_ne_zero (by rw[Ne,iR];exact hp)) (L3 (by omega) XH)
 have first:∀(s p q tw:Nat),p+q≤s→0<p→0<q→(words p).length≤1099511627776→(words q).length≤1099511627776→(words (Nat.gcd p q*2^tw)).length≤1099511627776 →
   ct.aj (words p).length (words q).length tw (words p) (words q) (ag (words (Nat.gcd p q*2^tw))):=by
  intro s
  induction s with
  |zero=>intro p q tw h1 h2;omega
  |succ s ih =>
   intro p q tw hs hp hq lp lq hl
   have VG:tw+1<9223372036854775808:=by
    have h1:2^tw≤Nat.gcd p q*2^tw:=Nat.le_mul_of_pos_left _ (Nat.gcd_pos_of_pos_left _ hp)
    have h2:=oA (Nat.gcd p q*2^tw)
    rw[Jc] at h2
    have h3:=(Nat.pow_lt_pow_iff_right (a:=2) (by omega)).1 (Nat.lt_of_le_of_lt h1 h2)
    omega
   obtain⟨v,z,g1,g2,g3,g4⟩:=Di hp
   by_cases he:p%2=0
   ·obtain⟨v',z',Yb,PO,Yc,X5⟩:=Di hq
    by_cases mJ:q%2=0
    ·have hg:Nat.gcd (p/2) (q/2)*2^(tw+1)=Nat.gcd p q*2^tw:=by
      have h:=Nat.gcd_mul_left 2 (p/2) (q/2)
      rw[show 2*(p/2)=p from by omega,show 2*(q/2)=q from by omega] at h
      rw[h,Nat.pow_succ,Nat.mul_comm 2,Nat.mul_assoc,Nat.mul_comm 2]
     have:=ih (p/2) (q/2) (tw+1) (by omega) (by omega) (by omega) (Nat.le_trans (jy (Nat.div_le_self p 2)) lp) (Nat.le_trans (jy (Nat.div_le_self q 2)) lq) (by rw[hg];exact hl)
     rw[hg] at this
     exact ct.l10 _ _ tw _ _ v z v' z' _ _ _ _ g1 g2 g3 (by omega) Yb PO Yc (by omega) (J8 p (by omega)) (J8 q (by omega)) VG this
    ·exact ct.dw _ _ tw _ _ v z v' z' g1 g2 g3 (by omega) Yb PO Yc (by omega) ((rounds (p+q) p q tw (Nat.le_refl _) hq lp lq (by omega) hl).1 (by omega))
   ·exact ct.ji _ _ tw _ _ v z g1 g2 g3 (by omega) ((rounds (p+q) p q tw (Nat.le_refl _) hq lp lq (by omega) hl).1 (by omega))
 have:=first (A+B) A B 0 (Nat.le_refl _) (by omega) (by omega) (by omega) (by omega) (by rw[Nat.pow_zero,Nat.mul_one];exact Dj (by omega) (by omega))
 rwa[Nat.pow_zero,Nat.mul_one] at this
end Am
namespace Am
open dE
theorem Sign(a:aI)(h:Fit a.fS):Cp 211 [a.pv] (vI (wh a.val)):=by
 have hm:=fS a h
 by_cases h0:a.val=0
 ·rw[h0,Lp]
  exact nM.e0 a _ hm (by rw[h0];rfl)
 ·have hg:=neg a h
  have hl:(words a.val.natAbs).length≠0:=by rw[Ne,iR];omega
  by_cases hn:a.val<0
  ·rw[Ou hn]
   exact nM.e1 a _ _ hm hl hg (decide_eq_true hn)
  ·rw[Ow (by omega)]
   exact nM.e2 a _ _ hm hl hg (decide_eq_false hn)
theorem Neg(a:aI)(h:Fit a.fS):Cp 170 [a.pv] (Sym.whole (-a.val)).pv:=by
 have h3:=fS a h
 have h5:=neg a h
 have la:=cT a
 have hw:=form (!decide (a.val<0)) (words a.val.natAbs) (by have:(words a.val.natAbs).length≤a.fS.length:=la;omega)
 have e:(bif !decide (a.val<0) then -(nat (words a.val.natAbs):Int) else (nat (words a.val.natAbs):Int)) = -a.val:=by
  rw[aZ]
  by_cases h:a.val<0
  ·simp[h];omega
  ·simp[h];omega
 rw[e] at hw
 exact wJ.e0 a _ _ _ h5 h3 hw
theorem Add(a b:aI)(ha:Fit a.fS)(hb:Fit b.fS):Cp 146 [a.pv,b.pv] (Sym.whole (a.val+b.val)).pv:=by
 have h1:=fS a ha
 have h2:=fS b hb
 have h3:=neg a ha
 have h4:=neg b hb
 have la:(words a.val.natAbs).length≤a.fS.length:=cT a
 have lb:(words b.val.natAbs).length≤b.fS.length:=cT b
 by_cases hs:decide (a.val<0)=decide (b.val<0)
 ·have hp:=plus (words a.val.natAbs) (words b.val.natAbs) (by omega) (by omega)
  rw[aZ,aZ] at hp
  have hl:=eY (n:=a.val.natAbs+b.val.natAbs) (k:=max (words a.val.natAbs).length (words b.val.natAbs).length+1) (by
   have g1:=oA a.val.natAbs
   have g2:=oA b.val.natAbs
   have g3:=rj (Nat.le_max_left (words a.val.natAbs).length (words b.val.natAbs).length)
   have g4:=rj (Nat.le_max_right (words a.val.natAbs).length (words b.val.natAbs).length)
   rw[Nat.pow_succ];omega)
  have hw:=form (decide (a.val<0)) (words (a.val.natAbs+b.val.natAbs)) (by omega)
  rw[aZ] at hw
  have e:(bif decide (a.val<0) then -((a.val.natAbs+b.val.natAbs:Nat):Int) else ((a.val.natAbs+b.val.natAbs:Nat):Int))=a.val+b.val:=by
   by_cases h:a.val<0
   ·have:b.val<0:=by simpa[h] using hs.symm
    simp[h];omega
   ·have:¬b.val<0:=by simpa[h] using hs.symm
    simp[h];omega
  rw[e] at hw
  exact oS.e0 a b _ _ _ _ _ _ _ h1 h2 h3 h4 hs h3 hp hw
 ·have hc:=compare (words a.val.natAbs) (words b.val.natAbs) (by omega) (by omega)
  rw[aZ,aZ] at hc
  by_cases Ik:b.val.natAbs≤a.val.natAbs
  ·have hl:=minus (words a.val.natAbs) (words b.val.natAbs) (by omega) (by rw[aZ,aZ];exact Ik)
   rw[aZ,aZ] at hl
   have hlen:=jy (show a.val.natAbs-b.val.natAbs≤a.val.natAbs by omega)
   have hw:=form (decide (a.val<0)) (words (a.val.natAbs-b.val.natAbs)) (by omega)
   rw[aZ] at hw
   have e:(bif decide (a.val<0) then -((a.val.natAbs-b.val.natAbs:Nat):Int) else ((a.val.natAbs-b.val.natAbs:Nat):Int))=a.val+b.val:=by
    by_cases h:a.val<0
    ·have:¬b.val<0:=by simpa[h] using hs
     simp[h];omega
    ·have:b.val<0:=by simpa[h] using hs
     simp[h];omega
   rw[e] at hw
   exact oS.e1 a b _ _ _ _ _ _ _ _ h1 h2 h3 h4 hs hc (by unfold iM;split<;>(try split)<;>omega) h3 hl hw
  ·have hl:=minus (words b.val.natAbs) (words a.val.natAbs) (by omega) (by rw[aZ,aZ];omega)
   rw[aZ,aZ] at hl
   have hlen:=jy (show b.val.natAbs-a.val.natAbs≤b.val.natAbs by omega)
   have hw:=form (decide (b.val<0)) (words (b.val.natAbs-a.val.natAbs)) (by omega)
   rw[aZ] at hw
   have e:(bif decide (b.val<0) then -((b.val.natAbs-a.val.natAbs:Nat):Int) else ((b.val.natAbs-a.val.natAbs:Nat):Int))=a.val+b.val:=by
    by_cases h:b.val<0
    ·have:¬a.val<0:=by intro h';simp[h,h'] at hs
     simp[h];omega
    ·have:a.val<0:=by
      refine Classical.byContradiction fun h' => ?_
      simp[h,h'] at hs
     simp[h];omega
   rw[e] at hw
   exact oS.e2 a b _ _ _ _ _ _ _ _ h1 h2 h3 h4 hs hc (by unfold iM;split<;>(try split)<;>omega) h4 hl hw
theorem Sub(a b:aI)(ha:Fit a.fS)(hb:Fit b.fS):Cp 254 [a.pv,b.pv] (Sym.whole (a.val-b.val)).pv:=by
 have h1:=Neg b hb
 have h2:=Add a (Sym.whole (-b.val)) ha (by
  have:=cT b
  show(words (-b.val).natAbs).length≤_
  rw[Int.natAbs_neg]
  have:(words b.val.natAbs).length≤b.fS.length:=this
  omega)
 rw[aD,←Int.sub_eq_add_neg] at h2
 exact wM.e0 a b _ _ h1 h2
theorem Mul(a b:aI)(ha:Fit a.fS)(hb:Fit b.fS):Cp 147 [a.pv,b.pv] (Sym.whole (a.val*b.val)).pv:=by
 have h1:=fS a ha
 have h2:=fS b hb
 have h3:=neg a ha
 have h4:=neg b hb
 have la:(words a.val.natAbs).length≤a.fS.length:=cT a
 have lb:(words b.val.natAbs).length≤b.fS.length:=cT b
 have ht:=times (words a.val.natAbs) (words b.val.natAbs) (by omega) (by omega)
 rw[aZ,aZ] at ht
 have hl:(words (a.val.natAbs*b.val.natAbs)).length≤(words a.val.natAbs).length+(words b.val.natAbs).length:=by
  have:=ic a.val b.val
  unfold wl at this
  rw[Int.natAbs_mul] at this;exact this
 have hw:=form (!(decide (a.val<0)==decide (b.val<0))) (words (a.val.natAbs*b.val.natAbs)) (by omega)
 rw[aZ] at hw
 have e:(bif !(decide (a.val<0)==decide (b.val<0)) then -((a.val.natAbs*b.val.natAbs:Nat):Int) else ((a.val.natAbs*b.val.natAbs:Nat):Int))=a.val*b.val:=by
  by_cases h:a.val<0<;>by_cases h':b.val<0<;>simp only[h,h',decide_true,decide_false,beq_self_eq_true,Bool.not_true,cond_false,Bool.not_false,cond_true,show(true==false)=false from rfl,show(false==true)=false from rfl]
  ·rw[←Int.natAbs_mul,Int.natAbs_of_nonneg (Int.mul_nonneg_of_nonpos_of_nonpos (by omega) (by omega))]
  ·rw[←Int.natAbs_mul,Int.ofNat_natAbs_of_nonpos (Int.mul_nonpos_of_nonpos_of_nonneg (by omega) (by omega))];omega
  ·rw[←Int.natAbs_mul,Int.ofNat_natAbs_of_nonpos (Int.mul_nonpos_of_nonneg_of_nonpos (by omega) (by omega))];omega
  ·rw[←Int.natAbs_mul,Int.natAbs_of_nonneg (Int.mul_nonneg (by omega) (by omega))]
 rw[e] at hw
 exact wI.e0 a b _ _ _ _ _ _ h3 h4 h1 h2 ht hw
theorem Of(n:Int)(h:aw n):Cp 171 [vI n] (Sym.whole n).pv:=by
 obtain⟨g1,g2⟩:=h
 have Rl:(2:Nat)^min 32 64=4294967296:=by decide
 have key:∀m:Nat,m=n.natAbs→∃w w1:UInt32,m%4294967296=w.toNat∧m/4294967296%4294967296=w1.toNat∧Cp 229 [(vB (decide (n<0))),(ag [w,w1])] (Sym.whole n).pv:=by
  intro m hm
  obtain⟨w,hw⟩:=mZ (m%4294967296) (by omega)
  obtain⟨w1,FM⟩:=mZ (m/4294967296%4294967296) (by omega)
  refine⟨w,w1,hw.symm,FM.symm,?_⟩
  have:=form (decide (n<0)) [w,w1] (by simp)
  have e:nat [w,w1]=m:=by simp only[nat,hw,FM];omega
  rw[e,hm] at this
  have e2:(bif decide (n<0) then -(n.natAbs:Int) else (n.natAbs:Int))=n:=by
   by_cases h:n<0
   ·simp[h];omega
   ·simp[h];omega
  rw[e2] at this;exact this
 by_cases hn:n<0
 ·obtain⟨w,w1,q1,q2,q3⟩:=key n.natAbs rfl
  exact s9.e0 n (n%18446744073709551616).toNat n.natAbs w _ w1 _ (by omega) hn (by omega) q1 (by rw[Rl]) q2 q3
 ·obtain⟨w,w1,q1,q2,q3⟩:=key n.natAbs rfl
  exact s9.e1 n n.natAbs w _ w1 _ (by omega) (by omega) q1 (by rw[Rl]) q2 q3
theorem Div(a b:aI)(ha:Fit a.fS)(hb:Fit b.fS)(h0:b.val≠0) :
  Cp 223 [a.pv,b.pv] (.aB [(Sym.whole (a.val/b.val)).pv,(Sym.whole (a.val%b.val)).pv,vI 0]):=by
 have h1:=fS a ha
 have h2:=fS b hb
 have h3:=neg a ha
 have h4:=neg b hb
 have la:(words a.val.natAbs).length≤a.fS.length:=cT a
 have lb:(words b.val.natAbs).length≤b.fS.length:=cT b
 have En:=Sign b hb
 have MD:wh b.val≠0:=by unfold wh iM;split<;>(try split)<;>omega
 have T9:0<b.val.natAbs:=by omega
 have hd:=j9 (words a.val.natAbs) (words b.val.natAbs) (na _) (by rw[aZ];omega) (by omega) (by omega)
 rw[aZ,aZ] at hd
 have hq:=jy (Nat.div_le_self a.val.natAbs b.val.natAbs)
 have hr:=jy (Nat.le_of_lt (Nat.mod_lt a.val.natAbs T9))
 have Md:=Nat.div_add_mod a.val.natAbs b.val.natAbs
 have ZU:=Nat.mod_lt a.val.natAbs T9
 generalize hQ:a.val.natAbs/b.val.natAbs=q at *
 generalize hR:a.val.natAbs%b.val.natAbs=r at *
 have sb:b.val=if b.val<0 then -(b.val.natAbs:Int) else (b.val.natAbs:Int):=by split<;>omega
 have uniq:∀x y:Int,a.val=b.val*x+y→0≤y→y<b.val.natAbs→a.val/b.val=x∧a.val%b.val=y:=by
  intro x y e1 e2 e3
  rcases Int.lt_or_gt_of_ne h0 with kI|kI
  ·exact(Int.ediv_emod_unique' kI).2 ⟨by omega,e2,by omega⟩
  ·exact(Int.ediv_emod_unique kI).2 ⟨by omega,e2,by omega⟩
 by_cases hn:a.val<0
 ·by_cases IN:r=0
  ·have hw:=form (!(decide (a.val<0)==decide (b.val<0))) (words q) (by omega)
   have Cx:=form false (words r) (by omega)
   rw[aZ] at hw Cx
   subst IN
   have e:a.val/b.val=(bif !(decide (a.val<0)==decide (b.val<0)) then -(q:Int) else (q:Int))∧a.val%b.val=0:=by
    refine uniq _ 0 ?_ (by omega) (by omega)
    have AL:(a.val.natAbs:Int)=(b.val.natAbs:Int)*q:=by rw[←Md];simp
    by_cases h':b.val<0
    ·simp only[hn,h',decide_true,beq_self_eq_true,Bool.not_true,cond_false]
     have:(b.val.natAbs:Int) = -b.val:=by omega
     rw[this] at AL
     have:(a.val.natAbs:Int) = -a.val:=by omega
     rw[this,Int.neg_mul] at AL
     omega
    ·simp only[hn,h',decide_true,decide_false,show(true==false)=false from rfl,Bool.not_false,cond_true]
     have:(b.val.natAbs:Int)=b.val:=by omega
     rw[this] at AL
     have:(a.val.natAbs:Int) = -a.val:=by omega
     rw[this] at AL
     rw[Int.mul_neg];omega
   rw[e.1,e.2]
   exact oT.e2 a b _ _ _ _ _ _ _ _ _ _ En MD h1 h2 hd h3 (decide_eq_true hn) (by rw[kR];simp) h3 h4 hw Cx
  ·have hp:=plus (words q) [1] (by omega) (by simp)
   have hl:=minus (words b.val.natAbs) (words r) (by omega) (by rw[aZ,aZ];omega)
   rw[aZ] at hp
   rw[aZ,aZ] at hl
   have e1:nat [1]=1:=rfl
   rw[e1] at hp
   have o9:=eY (n:=q+1) (k:=(words q).length+1) (by have:=oA q;rw[Nat.pow_succ];omega)
   have FZ:=jy (show b.val.natAbs-r≤b.val.natAbs by omega)
   have hw:=form (!(decide (a.val<0)==decide (b.val<0))) (words (q+1)) (by omega)
   have Cx:=form false (words (b.val.natAbs-r)) (by omega)
   rw[aZ] at hw Cx
   have e:a.val/b.val=(bif !(decide (a.val<0)==decide (b.val<0)) then -((q+1:Nat):Int) else ((q+1:Nat):Int))∧a.val%b.val=((b.val.natAbs-r:Nat):Int):=by
    refine uniq _ _ ?_ (by omega) (by omega)
    have AL:(a.val.natAbs:Int)=(b.val.natAbs:Int)*q+r:=by rw[←Md];simp
    by_cases h':b.val<0
    ·simp only[hn,h',decide_true,beq_self_eq_true,Bool.not_true,cond_false]
     have e5:(b.val.natAbs:Int) = -b.val:=by omega
     rw[e5] at AL
     have:(a.val.natAbs:Int) = -a.val:=by omega
     rw[this,Int.neg_mul] at AL
     rw[show ((q+1:Nat):Int)=(q:Int)+1 from by omega,Int.mul_add]
     omega
    ·simp only[hn,h',decide_true,decide_false,show(true==false)=false from rfl,Bool.not_false,cond_true]
     have:(b.val.natAbs:Int)=b.val:=by omega
     rw[this] at AL
     have:(a.val.natAbs:Int) = -a.val:=by omega
     rw[this] at AL
     rw[show ((q+1:Nat):Int)=(q:Int)+1 from by omega,Int.mul_neg,Int.mul_add];omega
   rw[e.1,e.2]
   exact oT.e1 a b _ _ _ _ _ _ _ _ _ _ _ _ _ En MD h1 h2 hd h3 (decide_eq_true hn) (by have:=(iR (n:=r)).1;omega) hp h2 hl h3 h4 hw Cx
 ·have hw:=form (!(decide (a.val<0)==decide (b.val<0))) (words q) (by omega)
  have Cx:=form false (words r) (by omega)
  rw[aZ] at hw Cx
  have e:a.val/b.val=(bif !(decide (a.val<0)==decide (b.val<0)) then -(q:Int) else (q:Int))∧a.val%b.val=(r:Int):=by
   refine uniq _ _ ?_ (by omega) (by omega)
   have AL:(a.val.natAbs:Int)=(b.val.natAbs:Int)*q+r:=by rw[←Md];simp
   by_cases h':b.val<0
   ·simp only[hn,h',decide_true,decide_false,show(false==true)=false from rfl,Bool.not_false,cond_true]
    have e5:(b.val.natAbs:Int) = -b.val:=by omega
    rw[e5] at AL
    have:(a.val.natAbs:Int)=a.val:=by omega
    rw[this,Int.neg_mul] at AL
    rw[Int.mul_neg];omega
   ·simp only[hn,h',decide_false,beq_self_eq_true,Bool.not_true,cond_false]
    have:(b.val.natAbs:Int)=b.val:=by omega
    rw[this] at AL
    have:(a.val.natAbs:Int)=a.val:=by omega
    rw[this] at AL
    omega
  rw[e.1,e.2]
  exact oT.e3 a b _ _ _ _ _ _ _ _ _ _ En MD h1 h2 hd h3 (decide_eq_false hn) h3 h4 hw Cx
theorem jN(a b:aI)(ha:a.fS.length<1099511627776)(hb:b.fS.length<1099511627776):Cp 190 [a.pv,b.pv] (vI (iM a.val b.val)):=by
 have h1:=Sub a b (by omega) (by omega)
 have h2:=Sign (Sym.whole (a.val-b.val)) (by
  have g1:=Ej a.val (-b.val)
  have g2:=cT a
  have g3:=cT b
  rw[kC,←Int.sub_eq_add_neg] at g1
  show wl (a.val-b.val)≤_
  omega)
 rw[aD] at h2
 have e:wh (a.val-b.val)=iM a.val b.val:=by
  unfold wh iM
  split<;>split<;>(try split)<;>(try split)<;>omega
 rw[←e]
 exact wK.e0 a b _ _ h1 h2
theorem Gcd(a b:aI)(ha:Fit a.fS)(hb:Fit b.fS):Cp 191 [a.pv,b.pv] (Sym.whole (Nat.gcd a.val.natAbs b.val.natAbs)).pv:=by
 have la:(words a.val.natAbs).length≤a.fS.length:=cT a
 have lb:(words b.val.natAbs).length≤b.fS.length:=cT b
 have hg:=gcd (words a.val.natAbs) (words b.val.natAbs) (by omega) (by omega)
 rw[aZ,aZ] at hg
 have hl:(words (Nat.gcd a.val.natAbs b.val.natAbs)).length≤1099511627776:=by
  by_cases h:b.val.natAbs=0
  ·rw[h,Nat.gcd_zero_right];omega
  ·exact Dj (by omega) (by omega)
 have hw:=form false (words (Nat.gcd a.val.natAbs b.val.natAbs)) (by omega)
 rw[aZ] at hw
 exact wL.e0 a b _ _ _ _ (fS a ha) (fS b hb) hg hw
end Am
end Go.Proofs.YtllmkadmohkbfaaGreatDoor.Sym
namespace Go.Proofs.YtllmkadmohkbfaaGreatDoor.Sym
open dE
set_option linter.unusedVariables false
def ah.valid(a:ah):Bool :=
 bif a.num.isEmpty&&a.den.isEmpty then !a.neg else !a.num.isEmpty&&(!a.den.isEmpty&&(cn a.num&&(cn a.den&&Nat.beq (Nat.gcd (nat a.num) (nat a.den)) 1)))
def ah.val(a:ah):Rat:=bif a.valid && !a.num.isEmpty then Rat.divInt (bif a.neg then -(nat a.num:Int) else (nat a.num:Int)) (nat a.den:Int) else 0
def aE(q:Rat):ah:=bif q.num.natAbs.beq 0 then ⟨false,[],[]⟩ else ⟨decide (q.num<0),words q.num.natAbs,words q.den⟩
theorem beq_iff{a b:Nat} : Nat.beq a b=true↔a=b:=⟨Nat.eq_of_beq_eq_true,fun h=>by subst h;exact Nat.beq_refl a⟩
theorem eL{a b:Nat} : Nat.beq a b=false↔a≠b:=by
 constructor
 ·intro h e;rw[beq_iff.2 e] at h;cases h
 ·intro h
  cases hb:Nat.beq a b with
  |true=>exact absurd (beq_iff.1 hb) h
  |false=>rfl
theorem ot:aE 0=⟨false,[],[]⟩:=rfl
theorem yS{q:Rat}(h:q≠0):aE q=⟨decide (q.num<0),words q.num.natAbs,words q.den⟩:=by
 unfold aE
 rw[eL.2 (by intro e;exact h (Rat.num_eq_zero.1 (by omega))),cond_false]
theorem Ix{n:Nat} : (words n).isEmpty=Nat.beq n 0:=by
 by_cases h:n=0
 ·subst h;rfl
 ·rw[eL.2 h,iw]
  rw[decide_eq_false (by rw[iR];exact h)]
theorem rB(q:Rat):(aE q).valid=true:=by
 by_cases h:q=0
 ·subst h;rfl
 ·rw[yS h]
  unfold ah.valid
  have h1:q.num.natAbs≠0:=by intro e;exact h (Rat.num_eq_zero.1 (by omega))
  simp only[Ix,eL.2 h1,eL.2 q.den_nz,Bool.and_self,Bool.not_false,cond_false,na,aZ,Bool.true_and]
  exact beq_iff.2 q.reduced
theorem tW{a:ah}(hv:a.valid=true)(h0:a.num≠[]):a.den≠[]∧cn a.num=true∧cn a.den=true∧Nat.gcd (nat a.num) (nat a.den)=1:=by
 have h1:a.num.isEmpty=false:=by cases h:a.num with
  |nil=>exact absurd h h0
  |cons=>rfl
 unfold ah.valid at hv
 rw[h1,Bool.false_and,cond_false,Bool.not_false,Bool.true_and] at hv
 simp only[Bool.and_eq_true] at hv
 obtain⟨g1,g2,g3,g4⟩:=hv
 refine⟨?_,g2,g3,beq_iff.1 g4⟩
 intro e;rw[e] at g1;cases g1
theorem M7{a:ah}(hv:a.valid=true)(h0:a.num=[]):a=⟨false,[],[]⟩:=by
 obtain⟨n,m,d⟩:=a
 subst h0
 unfold ah.valid at hv
 cases d with
 |nil=>cases n with
  |false=>rfl
  |true=>cases hv
 |cons=>cases hv
theorem AZ{a:ah}(hv:a.valid=true)(h0:a.num≠[]):a.val.num=(bif a.neg then -(nat a.num:Int) else (nat a.num:Int))∧a.val.den=nat a.den:=by
 obtain⟨g1,g2,g3,g4⟩:=tW hv h0
 have h1:a.num.isEmpty=false:=by cases h:a.num with
  |nil=>exact absurd h h0
  |cons=>rfl
 have hd:=xp g3 g1
 unfold ah.val
 rw[hv,h1,Bool.not_false,Bool.and_self,cond_true,Rat.divInt_ofNat]
 have hr:Nat.Coprime (bif a.neg then -(nat a.num:Int) else (nat a.num:Int)).natAbs (nat a.den):=by
  cases a.neg<;>simp<;>exact g4
 rw[←Rat.mk_eq_mkRat _ _ (by omega) hr]
 exact⟨rfl,rfl⟩
theorem qA{a:ah}(hv:a.valid=true)(h0:a.num≠[]):a.val≠0:=by
 obtain⟨g1,g2,g3,g4⟩:=tW hv h0
 have:=xp g2 h0
 intro e
 have h:=(AZ hv h0).1
 rw[e] at h
 have h:(0:Int)=_:=h
 cases hn:a.neg<;>rw[hn] at h<;>simp at h<;>omega
theorem J9{a:ah}(hv:a.valid=false):a.val=0:=by unfold ah.val;rw[hv];rfl
theorem yT{a:ah}(h:a.num=[]):a.val=0:=by unfold ah.val;rw[h];simp
theorem oM{a:ah}(hv:a.valid=true):aE a.val=a:=by
 by_cases h0:a.num=[]
 ·rw[yT h0,M7 hv h0];rfl
 ·obtain⟨g1,g2,g3,g4⟩:=tW hv h0
  have hp:=xp g2 h0
  obtain⟨e1,e2⟩:=AZ hv h0
  rw[yS (qA hv h0),e1,e2,kl g3]
  obtain⟨n,m,d⟩:=a
  cases n
  ·simp only[cond_false,Int.natAbs_natCast,kl g2,ah.mk.injEq,and_true,decide_eq_false_iff_not]
   omega
  ·simp only[cond_true,Int.natAbs_neg,Int.natAbs_natCast,kl g2,ah.mk.injEq,and_true,decide_eq_true_eq]
   simp only at hp
   omega
theorem Dk{p q:Rat}(h:aE p=aE q):p=q:=by
 by_cases hp:p=0
 ·subst hp
  by_cases hq:q=0
  ·exact hq.symm
  ·rw[ot,yS hq] at h
   injection h with _ h _
   have:=AV.1 h.symm
   exact absurd (Rat.num_eq_zero.1 (by omega)) hq
 ·by_cases hq:q=0
  ·subst hq
   rw[ot,yS hp] at h
   injection h with _ h _
   have:=AV.1 h
   exact absurd (Rat.num_eq_zero.1 (by omega)) hp
  ·rw[yS hp,yS hq] at h
   injection h with h1 h2 h3
   have h2:=congrArg nat h2
   have h3:=congrArg nat h3
   rw[aZ,aZ] at h2 h3
   refine Rat.ext ?_ h3
   by_cases h:p.num<0
   ·have:q.num<0:=by simpa[h] using h1.symm
    omega
   ·have:¬q.num<0:=by simpa[h] using h1.symm
    omega
theorem bS(q:Rat):(aE q).val=q:=Dk (oM (rB q))
def ht(q:Rat):Nat:=max (wl q.num) (wl (q.den:Int))
abbrev nR(a:ah):Prop:=a.num.length≤274877906944∧a.den.length≤274877906944
theorem jF:ht 0=1:=by decide
theorem M8(q:Rat):1≤ht q:=by
 have h:(words q.den).length≠0:=by rw[Ne,iR];exact q.den_nz
 have:wl (q.den:Int)≤ht q:=Nat.le_max_right _ _
 have h2:wl (q.den:Int)=(words q.den).length:=rfl
 omega
theorem js(q:Rat):wl q.num≤ht q:=Nat.le_max_left _ _
theorem jO(q:Rat):wl (q.den:Int)≤ht q:=Nat.le_max_right _ _
theorem nS{q:Rat}(h:ht q≤274877906944):nR (aE q):=by
 by_cases h0:q=0
 ·subst h0;constructor<;>simp[ot]
 ·rw[yS h0]
  exact⟨Nat.le_trans (js q) h,Nat.le_trans (jO q) h⟩
theorem eQ{a:ah}{k:Nat}(h1:a.num.length≤k)(h2:a.den.length≤k)(hk:1≤k):ht a.val≤k:=by
 by_cases hv:a.valid=true
 ·by_cases h0:a.num=[]
  ·rw[yT h0,jF];exact hk
  ·obtain⟨g1,g2,g3,g4⟩:=tW hv h0
   obtain⟨e1,e2⟩:=AZ hv h0
   unfold ht
   rw[e1,e2]
   refine Nat.max_le.2 ⟨?_,?_⟩
   ·have e:(bif a.neg then -(nat a.num:Int) else (nat a.num:Int)).natAbs=nat a.num:=by cases a.neg<;>simp
    show(words _).length≤k
    rw[e,kl g2];exact h1
   ·show(words _).length≤k
    rw[Int.natAbs_natCast,kl g3];exact h2
 ·rw[J9 (by simpa using hv),jF];exact hk
theorem B4{i j:Int}(h:i.natAbs≤j.natAbs):wl i≤wl j:=jy h
theorem A2(n d:Int):ht (Rat.divInt n d)≤max (wl n) (max (wl d) 1):=by
 by_cases hd:d=0
 ·subst hd
  rw[Rat.divInt_zero,jF];omega
 ·unfold ht
  refine Nat.max_le.2 ⟨Nat.le_trans (B4 ?_) (Nat.le_max_left _ _),Nat.le_trans (B4 (j:=d) ?_) (Nat.le_trans (Nat.le_max_left _ _) (Nat.le_max_right _ _))⟩
  ·rw[Rat.num_divInt]
   have h1:=Int.natAbs_ediv_of_dvd (a:=d.sign*n) (b:=(d.gcd n:Int)) (by
    exact Int.dvd_mul_of_dvd_right (Int.gcd_dvd_right d n))
   rw[h1,Int.natAbs_mul,Int.natAbs_sign_of_ne_zero hd,Nat.one_mul]
   exact Nat.div_le_self _ _
  ·rw[Rat.den_divInt,if_neg hd,Int.natAbs_natCast]
   exact Nat.div_le_self _ _
theorem VH:wl 1=1:=rfl
theorem Lt(n:Int)(d:Nat):ht (mkRat n d)≤max (wl n) (max (wl (d:Int)) 1):=by
 rw[←Rat.divInt_ofNat];exact A2 n d
theorem qB(a:Rat):ht (-a)=ht a:=by
 unfold ht
 rw[Rat.neg_num,kC,Rat.neg_den]
theorem dP(a b:Rat):ht (a*b)≤ht a+ht b:=by
 rw[Rat.mul_def']
 have h1:=Lt (a.num*b.num) (a.den*b.den)
 have h2:=ic a.num b.num
 have h3:=ic (a.den:Int) (b.den:Int)
 have h4:=js a
 have h5:=jO a
 have h6:=js b
 have h7:=jO b
 have h8:=M8 a
 rw[←Int.natCast_mul] at h3
 omega
theorem jg(a b:Rat):ht (a+b)≤ht a+ht b+1:=by
 rw[Rat.add_def']
 have h1:=Lt (a.num*b.den+b.num*a.den) (a.den*b.den)
 have h2:=ic a.num b.den
 have h3:=ic b.num a.den
 have h9:=Ej (a.num*b.den) (b.num*a.den)
 have dM:=ic (a.den:Int) (b.den:Int)
 have h4:=js a
 have h5:=jO a
 have h6:=js b
 have h7:=jO b
 have h8:=M8 a
 rw[←Int.natCast_mul] at dM
 omega
theorem oN(a b:Rat):ht (a-b)≤ht a+ht b+1:=by
 rw[Rat.sub_eq_add_neg,←qB b];exact jg a (-b)
theorem Rv(a:Rat):ht a⁻¹≤ht a:=by
 rw[Rat.inv_def]
 have h1:=A2 (a.den:Int) a.num
 have h4:=js a
 have h5:=jO a
 have h8:=M8 a
 omega
theorem kS(a b:Rat):ht (a/b)≤ht a+ht b:=by
 rw[Rat.div_def]
 have:=dP a b⁻¹
 have:=Rv b
 omega
theorem pz(n:Int):ht (n:Rat)=max (wl n) 1:=by
 unfold ht
 rw[Rat.num_intCast,Rat.den_intCast];rfl
def dz(p q:Rat):Int:=if p<q then -1 else if p=q then 0 else 1
theorem Rw(p q:Rat):iM (p.num*q.den) (q.num*p.den)=dz p q:=by
 unfold iM dz
 have h1:=Rat.lt_iff p q
 have h2:p=q↔p.num*q.den=q.num*p.den:=by
  constructor
  ·intro h;subst h;rfl
  ·intro h
   have g1:=(Rat.le_iff p q).2 (by omega)
   have g2:=(Rat.le_iff q p).2 (by omega)
   exact Rat.le_antisymm g1 g2
 simp only[h1,h2]
theorem VI(p:Rat):p.num<0↔p<0:=by
 rw[Rat.lt_iff]
 simp
theorem Lu(p q:Rat):wh (p-q).num=dz p q:=by
 unfold wh iM dz
 have h1:(p-q).num<0↔p<q:=by
  rw[VI];constructor<;>intro h<;>grind
 have h2:(p-q).num=0↔p=q:=by
  rw[Rat.num_eq_zero];constructor<;>intro h<;>grind
 simp only[h1,h2]
theorem Eo(p:Rat):wh p.num=dz p 0:=by
 have:=Lu p 0
 rwa[show p-0=p from by grind] at this
theorem F0{p q:Rat} : dz p q<0↔p<q:=by
 unfold dz;split
 ·simp_all
 ·split
  ·simp_all
  ·simp_all
theorem dm{p q:Rat} : dz p q=0↔p=q:=by
 unfold dz;split
 ·rename_i h;constructor
  ·intro h;cases h
  ·intro e;subst e;exact absurd h (Rat.lt_irrefl)
 ·split
  ·simp_all
  ·simp_all
theorem Oy{p q:Rat} : 0<dz p q↔q<p:=by
 unfold dz;split
 ·rename_i h;constructor
  ·intro h;cases h
  ·intro e;grind
 ·split
  ·rename_i h1 h;subst h;simp[Rat.lt_irrefl]
  ·rename_i h1 h2
   constructor
   ·intro _;grind
   ·intro _;decide
def eZ(p q:Rat):Rat:=if dz p q≤0 then p else q
def fD(p q:Rat):Rat:=if 0≤dz p q then p else q
theorem Ka{n d:Int}(hd:0<d)(g:Nat)(hg:g=Nat.gcd n.natAbs d.natAbs):(Rat.divInt n d).num=n/(g:Int)∧((Rat.divInt n d).den:Int)=d/(g:Int):=by
 have e:d.gcd n=g:=by rw[hg,Nat.gcd_comm];rfl
 refine⟨?_,?_⟩
 ·rw[Rat.num_divInt,e,Int.sign_eq_one_of_pos hd,Int.one_mul]
 ·rw[Rat.den_divInt,if_neg (by omega),e,Int.natCast_ediv,Int.natAbs_of_nonneg (by omega)]
open Go Path
theorem Lw{a:ah}(h1:a.num.length=0)(h2:a.den.length=0):a.valid = !a.neg:=by
 unfold ah.valid;rw[iw,iw,decide_eq_true h1,decide_eq_true h2];rfl
theorem Lx{a:ah}(h1:a.num.length=0)(h2:a.den.length≠0):a.valid=false:=by
 unfold ah.valid;rw[iw,iw,decide_eq_true h1,decide_eq_false h2];rfl
theorem Ly{a:ah}(h1:a.num.length≠0)(h2:a.den.length=0):a.valid=false:=by
 unfold ah.valid;rw[iw,iw,decide_eq_false h1,decide_eq_true h2];rfl
theorem Lz{a:ah}(h1:a.num.length≠0)(h2:a.den.length≠0):a.valid=(cn a.num&&(cn a.den&&Nat.beq (Nat.gcd (nat a.num) (nat a.den)) 1)):=by
 unfold ah.valid;rw[iw,iw,decide_eq_false h1,decide_eq_false h2];rfl
theorem B5{m:Words}(h:m.length≠0):(⟨false,m⟩:aI).valid=cn m:=by
 unfold aI.valid
 rw[iw,decide_eq_false h];rfl
theorem Dl{m:Words}(h:m.length≠0)(hc:cn m=true):(⟨false,m⟩:aI).val=(nat m:Int):=by
 unfold aI.val
 rw[B5 h,hc];rfl
theorem Oz(g:Nat):(iM (g:Int) 1==0)=Nat.beq g 1:=by
 by_cases h:g=1
 ·subst h;rfl
 ·rw[eL.2 h]
  unfold iM
  split
  ·rfl
  ·rw[if_neg (by omega)];rfl
theorem LA{a:ah}(hv:a.valid=true)(h0:a.num.length≠0):Sym.whole a.val.num=⟨a.neg,a.num⟩∧Sym.whole (a.val.den:Int)=⟨false,a.den⟩:=by
 have Ys:a.num≠[]:=by intro e;rw[e] at h0;exact h0 rfl
 obtain⟨g1,g2,g3,g4⟩:=tW hv Ys
 obtain⟨e1,e2⟩:=AZ hv Ys
 have hp:=xp g2 Ys
 rw[e1,e2]
 refine⟨?_,?_⟩
 ·unfold Sym.whole
  cases hn:a.neg
  ·simp only[cond_false,Int.natAbs_natCast,kl g2,aI.mk.injEq,and_true,decide_eq_false_iff_not];omega
  ·simp only[cond_true,Int.natAbs_neg,Int.natAbs_natCast,kl g2,aI.mk.injEq,and_true,decide_eq_true_eq];omega
 ·unfold Sym.whole
  simp only[Int.natAbs_natCast,kl g3,aI.mk.injEq,and_true,decide_eq_false_iff_not];omega
theorem Ep{a b:Int}{k:Nat}(ha:wl a≤k)(hb:wl b≤k):wl ((Nat.gcd a.natAbs b.natAbs:Nat):Int)≤k:=by
 by_cases h:b=0
 ·subst h
  rw[Int.natAbs_zero,Nat.gcd_zero_right]
  show(words _).length≤k
  rw[Int.natAbs_natCast];exact ha
 ·exact Nat.le_trans (B4 (by rw[Int.natAbs_natCast];exact Nat.le_of_dvd (by omega) (Nat.gcd_dvd_right _ _))) hb
theorem formed{n d:Int}(hn:n≠0)(hd:0<d)(g:Nat)(hg:g=Nat.gcd n.natAbs d.natAbs):aE (Rat.divInt n d)=⟨decide (n/(g:Int)<0),(Sym.whole (n/(g:Int))).fS,(Sym.whole (d/(g:Int))).fS⟩:=by
 obtain⟨e1,e2⟩:=Ka (n:=n) hd g hg
 have dk:Rat.divInt n d≠0:=by
  intro e
  rw[e] at e1
  have e1:(0:Int)=n/(g:Int):=e1
  have h1:(g:Int)∣n:=by rw[hg];exact Int.ofNat_dvd_left.2 (Nat.gcd_dvd_left _ _)
  have:=Int.ediv_mul_cancel h1
  rw[←e1] at this
  omega
 rw[yS dk,e1]
 unfold Sym.whole
 simp only[ah.mk.injEq,true_and]
 rw[←e2,Int.natAbs_natCast]
theorem Hn{n:Int}(hn:n≠0)(g:Nat)(hg:g∣n.natAbs):decide (n/(g:Int)<0)=decide (n<0)∧(n/(g:Int)).natAbs=((n.natAbs:Int)/(g:Int)).natAbs:=by
 have h1:(g:Int)∣n:=Int.ofNat_dvd_left.2 hg
 have h2:=Int.ediv_mul_cancel h1
 have FV:0<g:=Nat.pos_of_dvd_of_pos hg (by omega)
 refine⟨?_,?_⟩
 ·congr 1
  refine propext ⟨fun h => ?_,fun h => ?_⟩
  ·have:=Int.mul_neg_of_neg_of_pos h (show (0:Int)<g by omega)
   omega
  ·exact Int.ediv_neg_of_neg_of_pos h (by omega)
 ·rw[Int.natAbs_ediv_of_dvd h1,Int.natAbs_natCast,←Int.natCast_ediv,Int.natAbs_natCast]
namespace qC
theorem one:Cp 114 [] (Sym.whole 1).pv:=C9.e0 _ (dE.Of 1 (by unfold aw;omega))
theorem Valid(a:ah)(h:nR a):Cp 164 [a.pv] (vB a.valid):=by
 obtain⟨l1,l2⟩:=h
 by_cases h1:a.num.length=0
 ·by_cases h2:a.den.length=0
  ·rw[Lw h1 h2];exact lL.e0 a h1 h2
  ·rw[Lx h1 h2];exact lL.e1 a h1 h2
 ·by_cases h2:a.den.length=0
  ·rw[Ly h1 h2];exact lL.e2 a h1 h2
  ·rw[Lz h1 h2]
   have v1:=dE.Valid ⟨false,a.num⟩ (show a.num.length≤_ by omega)
   have v2:=dE.Valid ⟨false,a.den⟩ (show a.den.length≤_ by omega)
   rw[B5 h1] at v1
   rw[B5 h2] at v2
   cases CC:cn a.num with
   |false=>rw[Bool.false_and];exact lL.e3 a _ h1 h2 v1 CC
   |true =>
    rw[Bool.true_and]
    cases AM:cn a.den with
    |false=>rw[Bool.false_and];exact lL.e4 a _ _ h1 h2 v1 CC v2 AM
    |true =>
     have hg:=dE.Gcd ⟨false,a.num⟩ ⟨false,a.den⟩ (show a.num.length≤_ by omega) (show a.den.length≤_ by omega)
     rw[Dl h1 CC,Dl h2 AM,Int.natAbs_natCast,Int.natAbs_natCast] at hg
     have gl:=Ep (a:=(nat a.num:Int)) (b:=(nat a.den:Int)) (k:=274877906944) (by show(words _).length≤_;rw[Int.natAbs_natCast,kl CC];exact l1) (by show(words _).length≤_;rw[Int.natAbs_natCast,kl AM];exact l2)
     rw[Int.natAbs_natCast,Int.natAbs_natCast] at gl
     have hc:=dE.jN (Sym.whole (Nat.gcd (nat a.num) (nat a.den):Nat)) (Sym.whole 1) (show wl _≤_ by omega) (show wl 1≤_ by decide)
     rw[aD,aD] at hc
     rw[Bool.true_and,←Oz]
     exact lL.e5 a _ _ _ _ _ h1 h2 v1 CC v2 AM hg one hc
theorem nc(a:ah)(h:nR a):Cp 92 [a.pv] (.aB [(Sym.whole a.val.num).pv,(Sym.whole (a.val.den:Int)).pv]):=by
 have hv:=Valid a h
 cases hc:a.valid with
 |false=>rw[J9 hc];exact r6.e0 a _ _ hv hc one
 |true =>
  by_cases h0:a.num.length=0
  ·rw[yT (List.eq_nil_of_length_eq_zero h0)];exact r6.e1 a _ _ hv hc h0 one
  ·obtain⟨e1,e2⟩:=LA hc h0
   rw[e1,e2]
   exact r6.e2 a _ hv hc h0 (by have:=h.1;simp;omega) (by have:=h.2;simp;omega)
theorem form(n d:aI)(hn:n.fS.length≤1099511627776)(hd:d.fS.length≤1099511627776)(h0:d.val≠0):Cp 113 [n.pv,d.pv] (aE (Rat.divInt n.val d.val)).pv:=by
 have sn:=dE.Sign n hn
 have sd:=dE.Sign d hd
 have wn:=cT n
 have wd':=cT d
 by_cases hz:n.val=0
 ·rw[hz,Rat.zero_divInt]
  exact oy.e0 n d _ sn (by rw[hz];rfl)
 ·have KX:wh n.val≠0:=by unfold wh iM;split<;>(try split)<;>omega
  by_cases An:d.val<0
  ·have e:Rat.divInt n.val d.val=Rat.divInt (-n.val) (-d.val):=by rw[Rat.divInt_neg',Int.neg_neg]
   have n1:=dE.Neg n hn
   have d1:=dE.Neg d hd
   have l1:(Sym.whole (-n.val)).fS.length≤1099511627776:=by show wl _≤_;rw[kC];omega
   have l2:(Sym.whole (-d.val)).fS.length≤1099511627776:=by show wl _≤_;rw[kC];omega
   have g:=dE.Gcd _ _ l1 l2
   rw[aD,aD] at g
   have CB:=Ep (a := -n.val) (b := -d.val) (k:=1099511627776) (by rw[kC];omega) (by rw[kC];omega)
   have s2:=dE.Sign _ l1
   rw[aD] at s2
   rw[e,formed (by omega) (by omega) _ rfl]
   obtain⟨f1,f2⟩:=Hn (n := -n.val) (by omega) (Nat.gcd (-n.val).natAbs (-d.val).natAbs) (Nat.gcd_dvd_left _ _)
   have FV:((Nat.gcd (-n.val).natAbs (-d.val).natAbs:Nat):Int)≠0:=by
    have:=Nat.gcd_pos_of_pos_left (-d.val).natAbs (show 0<(-n.val).natAbs by omega)
    omega
   rw[f1,show(Sym.whole (-n.val/((Nat.gcd (-n.val).natAbs (-d.val).natAbs:Nat):Int))).fS=(Sym.whole (((-n.val).natAbs:Int)/((Nat.gcd (-n.val).natAbs (-d.val).natAbs:Nat):Int))).fS from by unfold Sym.whole;rw[f2]]
   generalize hG:((Nat.gcd (-n.val).natAbs (-d.val).natAbs:Nat):Int)=G at *
   have dd:=dE.Div (Sym.whole (-d.val)) (Sym.whole G) l2 CB (by rw[aD];exact FV)
   rw[aD,aD] at dd
   by_cases hs : -n.val<0
   ·have n2:=dE.Neg _ l1
    rw[aD] at n2
    have dn:=dE.Div (Sym.whole (- -n.val)) (Sym.whole G) (by show wl _≤_;rw[kC,kC];omega) CB (by rw[aD];exact FV)
    rw[aD,aD] at dn
    rw[show ((-n.val).natAbs:Int) = - -n.val from by omega]
    have:=oy.e1 n d _ _ _ _ _ _ _ _ _ none _ _ none sn KX sd (by unfold wh iM;rw[if_pos An];omega) n1 d1 g s2 (by unfold wh iM;rw[if_pos hs];omega) n2 dn dd
    rw[show decide (wh (-n.val)<0)=decide (-n.val<0) from by unfold wh iM;rw[if_pos hs,decide_eq_true hs];rfl] at this
    exact this
   ·have dn:=dE.Div (Sym.whole (-n.val)) (Sym.whole G) l1 CB (by rw[aD];exact FV)
    rw[aD,aD] at dn
    rw[show ((-n.val).natAbs:Int) = -n.val from by omega]
    have Me:wh (-n.val)=1:=by unfold wh iM;rw[if_neg hs,if_neg (by omega)]
    have:=oy.e2 n d _ _ _ _ _ _ _ _ none _ _ none sn KX sd (by unfold wh iM;rw[if_pos An];omega) n1 d1 g s2 (by rw[Me];omega) dn dd
    rw[show decide (wh (-n.val)<0)=decide (-n.val<0) from by rw[Me,decide_eq_false hs];rfl] at this
    exact this
  ·have g:=dE.Gcd _ _ hn hd
   have CB:=Ep (a:=n.val) (b:=d.val) (k:=1099511627776) (by omega) (by omega)
   rw[formed hz (by omega) _ rfl]
   obtain⟨f1,f2⟩:=Hn hz (Nat.gcd n.val.natAbs d.val.natAbs) (Nat.gcd_dvd_left _ _)
   have FV:((Nat.gcd n.val.natAbs d.val.natAbs:Nat):Int)≠0:=by
    have:=Nat.gcd_pos_of_pos_left d.val.natAbs (show 0<n.val.natAbs by omega)
    omega
   rw[f1,show(Sym.whole (n.val/((Nat.gcd n.val.natAbs d.val.natAbs:Nat):Int))).fS=(Sym.whole ((n.val.natAbs:Int)/((Nat.gcd n.val.natAbs d.val.natAbs:Nat):Int))).fS from by unfold Sym.whole;rw[f2]]
   generalize hG:((Nat.gcd n.val.natAbs d.val.natAbs:Nat):Int)=G at *
   have dd:=dE.Div d (Sym.whole G) hd CB (by rw[aD];exact FV)
   rw[aD] at dd
   have Yt:0≤wh d.val:=by unfold wh iM;rw[if_neg An];split<;>omega
   by_cases hs:n.val<0
   ·have n2:=dE.Neg _ hn
    have dn:=dE.Div (Sym.whole (-n.val)) (Sym.whole G) (by show wl _≤_;rw[kC];omega) CB (by rw[aD];exact FV)
    rw[aD,aD] at dn
    rw[show (n.val.natAbs:Int) = -n.val from by omega]
    have:=oy.e3 n d _ _ _ _ _ _ _ none _ _ none sn KX sd Yt g sn (by unfold wh iM;rw[if_pos hs];omega) n2 dn dd
    rw[show decide (wh n.val<0)=decide (n.val<0) from by unfold wh iM;rw[if_pos hs,decide_eq_true hs];rfl] at this
    exact this
   ·have dn:=dE.Div n (Sym.whole G) hn CB (by rw[aD];exact FV)
    rw[aD] at dn
    rw[show (n.val.natAbs:Int)=n.val from by omega]
    have Me:wh n.val=1:=by unfold wh iM;rw[if_neg hs,if_neg (by omega)]
    have:=oy.e4 n d _ _ _ _ _ _ none _ _ none sn KX sd Yt g sn (by rw[Me];omega) dn dd
    rw[show decide (wh n.val<0)=decide (n.val<0) from by rw[Me,decide_eq_false hs];rfl] at this
    exact this
theorem Ao(n d:Int)(hn:wl n≤1099511627776)(hd:wl d≤1099511627776)(h0:d≠0):Cp 113 [(Sym.whole n).pv,(Sym.whole d).pv] (aE (Rat.divInt n d)).pv:=by
 have:=form (Sym.whole n) (Sym.whole d) hn hd (by rw[aD];exact h0)
 rwa[aD,aD] at this
theorem Iy(n d:aI)(hn:n.fS.length≤1099511627776)(hd:d.fS.length≤1099511627776)(h0:d.val≠0):Cp 90 [n.pv,d.pv] (.aB [(aE (Rat.divInt n.val d.val)).pv,.aq]) :=
 Bw.e1 n d _ _ (dE.Sign d hd) (by unfold wh iM;split<;>(try split)<;>omega) (form n d hn hd h0)
theorem Of(n:Int)(h:aw n):Cp 46 [vI n] (aE (n:Rat)).pv:=by
 have hw:wl n≤2:=oZ (by unfold aw at h;omega)
 have:=Ao n 1 (by omega) (by decide) (by omega)
 rw[show Rat.divInt n 1=(n:Rat) from by rw[Rat.divInt_eq_div];grind] at this
 exact E1.e0 n _ _ _ (dE.Of n h) one this
theorem Neg(a:ah)(h:nR a):Cp 87 [a.pv] (aE (-a.val)).pv:=by
 have hp:=nc a h
 have hh:=eQ h.1 h.2 (by omega)
 have h1:=js a.val
 have h2:=jO a.val
 have hn:=dE.Neg (Sym.whole a.val.num) (show wl _≤_ by omega)
 rw[aD] at hn
 have hf:=Ao (-a.val.num) a.val.den (by rw[kC];omega) (by omega) (by have:=a.val.den_nz;omega)
 rw[←Rat.neg_divInt,Rat.num_divInt_den] at hf
 exact C7.e0 a _ _ _ _ hp hn hf
theorem Sign(a:ah)(h:nR a):Cp 33 [a.pv] (vI (dz a.val 0)):=by
 have hp:=nc a h
 have hh:=eQ h.1 h.2 (by omega)
 have h1:=js a.val
 have hs:=dE.Sign (Sym.whole a.val.num) (show wl _≤_ by omega)
 rw[aD,Eo] at hs
 exact Bv.e0 a _ _ _ hp hs
theorem Add(a b:ah)(ha:nR a)(hb:nR b):Cp 91 [a.pv,b.pv] (aE (a.val+b.val)).pv:=by
 have pa:=nc a ha
 have pb:=nc b hb
 have la:=eQ ha.1 ha.2 (by omega)
 have lb:=eQ hb.1 hb.2 (by omega)
 have h1:=js a.val
 have h2:=jO a.val
 have h3:=js b.val
 have h4:=jO b.val
 have m1:=dE.Mul (Sym.whole a.val.num) (Sym.whole (b.val.den:Int)) (show wl _≤_ by omega) (show wl _≤_ by omega)
 have m2:=dE.Mul (Sym.whole b.val.num) (Sym.whole (a.val.den:Int)) (show wl _≤_ by omega) (show wl _≤_ by omega)
 have m3:=dE.Mul (Sym.whole (a.val.den:Int)) (Sym.whole (b.val.den:Int)) (show wl _≤_ by omega) (show wl _≤_ by omega)
 rw[aD,aD] at m1 m2 m3
 have w1:=ic a.val.num b.val.den
 have w2:=ic b.val.num a.val.den
 have w3:=ic (a.val.den:Int) b.val.den
 have s:=dE.Add (Sym.whole (a.val.num*b.val.den)) (Sym.whole (b.val.num*a.val.den)) (show wl _≤_ by omega) (show wl _≤_ by omega)
 rw[aD,aD] at s
 have w4:=Ej (a.val.num*b.val.den) (b.val.num*a.val.den)
 have hf:=Ao (a.val.num*b.val.den+b.val.num*a.val.den) ((a.val.den:Int)*(b.val.den:Int)) (by omega) (by omega) (by
  have:=a.val.den_nz
  have:=b.val.den_nz
  exact Int.mul_ne_zero (by omega) (by omega))
 rw[←Int.natCast_mul,Rat.divInt_ofNat,←Rat.add_def',Int.natCast_mul] at hf
 exact C8.e0 a b _ _ _ _ _ _ _ _ _ pa pb m1 m2 s m3 hf
theorem Sub(a b:ah)(ha:nR a)(hb:nR b):Cp 32 [a.pv,b.pv] (aE (a.val-b.val)).pv:=by
 have hn:=Neg b hb
 have lb:=eQ hb.1 hb.2 (by omega)
 have hs:=Add a (aE (-b.val)) ha (nS (by rw[qB];exact lb))
 rw[bS,←Rat.sub_eq_add_neg] at hs
 exact C5.e0 a b _ _ hn hs
theorem Mul(a b:ah)(ha:nR a)(hb:nR b):Cp 198 [a.pv,b.pv] (aE (a.val*b.val)).pv:=by
 have pa:=nc a ha
 have pb:=nc b hb
 have la:=eQ ha.1 ha.2 (by omega)
 have lb:=eQ hb.1 hb.2 (by omega)
 have h1:=js a.val
 have h2:=jO a.val
 have h3:=js b.val
 have h4:=jO b.val
 have m1:=dE.Mul (Sym.whole a.val.num) (Sym.whole b.val.num) (show wl _≤_ by omega) (show wl _≤_ by omega)
 have m3:=dE.Mul (Sym.whole (a.val.den:Int)) (Sym.whole (b.val.den:Int)) (show wl _≤_ by omega) (show wl _≤_ by omega)
 rw[aD,aD] at m1 m3
 have w1:=ic a.val.num b.val.num
 have w3:=ic (a.val.den:Int) b.val.den
 have hf:=Ao (a.val.num*b.val.num) ((a.val.den:Int)*(b.val.den:Int)) (by omega) (by omega) (by
  have:=a.val.den_nz
  have:=b.val.den_nz
  exact Int.mul_ne_zero (by omega) (by omega))
 rw[←Int.natCast_mul,Rat.divInt_ofNat,←Rat.mul_def',Int.natCast_mul] at hf
 exact Da.e0 a b _ _ _ _ _ _ _ pa pb m1 m3 hf
theorem Div(a b:ah)(ha:nR a)(hb:nR b)(h0:b.val≠0):Cp 234 [a.pv,b.pv] (.aB [(aE (a.val/b.val)).pv,.aq]):=by
 have pa:=nc a ha
 have pb:=nc b hb
 have la:=eQ ha.1 ha.2 (by omega)
 have lb:=eQ hb.1 hb.2 (by omega)
 have h1:=js a.val
 have h2:=jO a.val
 have h3:=js b.val
 have h4:=jO b.val
 have m1:=dE.Mul (Sym.whole a.val.num) (Sym.whole (b.val.den:Int)) (show wl _≤_ by omega) (show wl _≤_ by omega)
 have m3:=dE.Mul (Sym.whole (a.val.den:Int)) (Sym.whole b.val.num) (show wl _≤_ by omega) (show wl _≤_ by omega)
 rw[aD,aD] at m1 m3
 have w1:=ic a.val.num b.val.den
 have w3:=ic (a.val.den:Int) b.val.num
 have hf:=Iy (Sym.whole (a.val.num*b.val.den)) (Sym.whole ((a.val.den:Int)*b.val.num)) (show wl _≤_ by omega) (show wl _≤_ by omega) (by
  rw[aD]
  have:=a.val.den_nz
  refine Int.mul_ne_zero (by omega) (fun e=>h0 (Rat.num_eq_zero.1 e)))
 rw[aD,aD,←Rat.divInt_mul_divInt,Rat.num_divInt_den,←Rat.inv_def,←Rat.div_def] at hf
 exact Db.e0 a b _ _ _ _ _ _ _ none pa pb m1 m3 hf
theorem OA(a:ah)(h:nR a):Cp 218 [a.pv] (Sym.whole a.val.floor).pv:=by
 have hp:=nc a h
 have hh:=eQ h.1 h.2 (by omega)
 have h1:=js a.val
 have h2:=jO a.val
 have hd:=dE.Div (Sym.whole a.val.num) (Sym.whole (a.val.den:Int)) (show wl _≤_ by omega) (show wl _≤_ by omega) (by rw[aD];have:=a.val.den_nz;omega)
 rw[aD,aD,←Rat.floor_def] at hd
 exact Af.e0 a _ _ _ _ none hp hd
theorem jN(a b:ah)(ha:nR a)(hb:nR b):Cp 34 [a.pv,b.pv] (vI (dz a.val b.val)):=by
 have pa:=nc a ha
 have pb:=nc b hb
 have la:=eQ ha.1 ha.2 (by omega)
 have lb:=eQ hb.1 hb.2 (by omega)
 have h1:=js a.val
 have h2:=jO a.val
 have h3:=js b.val
 have h4:=jO b.val
 have m1:=dE.Mul (Sym.whole a.val.num) (Sym.whole (b.val.den:Int)) (show wl _≤_ by omega) (show wl _≤_ by omega)
 have m2:=dE.Mul (Sym.whole b.val.num) (Sym.whole (a.val.den:Int)) (show wl _≤_ by omega) (show wl _≤_ by omega)
 rw[aD,aD] at m1 m2
 have w1:=ic a.val.num b.val.den
 have w2:=ic b.val.num a.val.den
 have hc:=dE.jN (Sym.whole (a.val.num*b.val.den)) (Sym.whole (b.val.num*a.val.den)) (show wl _≤_ by omega) (show wl _≤_ by omega)
 rw[aD,aD,Rw] at hc
 exact C6.e0 a b _ _ _ _ _ _ _ pa pb m1 m2 hc
theorem Dm(a:ah)(h:nR a):Cp 113 [(Sym.whole a.val.num).pv,(Sym.whole (a.val.den:Int)).pv] (aE a.val).pv:=by
 have hh:=eQ h.1 h.2 (by omega)
 have h1:=js a.val
 have h2:=jO a.val
 have hf:=Ao a.val.num a.val.den (by omega) (by omega) (by have:=a.val.den_nz;omega)
 rwa[Rat.num_divInt_den] at hf
theorem Min(a b:ah)(ha:nR a)(hb:nR b):Cp 282 [a.pv,b.pv] (aE (eZ a.val b.val)).pv:=by
 unfold eZ
 split
 ·rename_i h;exact yJ.e0 a b _ _ _ _ (jN a b ha hb) h (nc a ha) (Dm a ha)
 ·rename_i h;exact yJ.e1 a b _ _ _ _ (jN a b ha hb) (by omega) (nc b hb) (Dm b hb)
theorem Max(a b:ah)(ha:nR a)(hb:nR b):Cp 283 [a.pv,b.pv] (aE (fD a.val b.val)).pv:=by
 unfold fD
 split
 ·rename_i h;exact yK.e0 a b _ _ _ _ (jN a b ha hb) h (nc a ha) (Dm a ha)
 ·rename_i h;exact yK.e1 a b _ _ _ _ (jN a b ha hb) (by omega) (nc b hb) (Dm b hb)
end qC
namespace tj
theorem one:Cp 172 [] (Sym.whole 1).pv:=wS.e0 _ (Am.Of 1 (by unfold aw;omega))
theorem plain(m:Words)(h:m.length≤274877906944):Cp 189 [ag m] (vB (!m.isEmpty&&cn m)):=by
 rw[iw]
 by_cases h0:m.length=0
 ·rw[decide_eq_true h0,Bool.not_true,Bool.false_and]
  exact qx.e1 m (by omega)
 ·rw[decide_eq_false h0,Bool.not_false,Bool.true_and]
  obtain⟨v,hv⟩:∃v,m[m.length-1]? = some v:=⟨_,List.getElem?_eq_getElem (by omega)⟩
  have:=qx.e0 m (m.length-1) v (by omega) (by unfold aw;omega) (by omega) hv
  have e:cn m=((v.toNat:Int) != 0):=by
   have h1:=tH hv
   by_cases h2:v.toNat=0
   ·have h3:((v.toNat:Int) != 0)=false:=by simp[h2]
    rw[h3]
    cases hc:cn m with
    |true=>exact absurd h2 (h1.1 hc)
    |false=>rfl
   ·have h3:((v.toNat:Int) != 0)=true:=by simp;omega
    rw[h3];exact h1.2 h2
  rw[e];exact this
theorem Rx{m:Words}(h:m.length≤274877906944)(h0:m.length≠0):Cp 189 [ag m] (vB (cn m)):=by
 have:=plain m h
 rwa[iw,decide_eq_false h0,Bool.not_false,Bool.true_and] at this
theorem Ry{m:Words}(h0:m.length=0):Cp 189 [ag m] (vB false):=by
 have:=plain m (by omega)
 rwa[iw,decide_eq_true h0,Bool.not_true,Bool.false_and] at this
theorem Valid(a:ah)(h:nR a):Cp 111 [a.pv] (vB a.valid):=by
 obtain⟨l1,l2⟩:=h
 by_cases h1:a.num.length=0
 ·by_cases h2:a.den.length=0
  ·rw[Lw h1 h2];exact gV.e0 a h1 h2
  ·rw[Lx h1 h2];exact gV.e3 a _ h1 h2 (Ry h1) rfl
 ·have p1:=Rx l1 h1
  by_cases h2:a.den.length=0
  ·rw[Ly h1 h2]
   cases CC:cn a.num with
   |false=>exact gV.e6 a _ h1 p1 CC
   |true=>exact gV.e5 a _ _ h1 p1 CC (Ry h2) rfl
  ·have p2:=Rx l2 h2
   rw[Lz h1 h2]
   cases CC:cn a.num with
   |false=>rw[Bool.false_and];exact gV.e6 a _ h1 p1 CC
   |true =>
    rw[Bool.true_and]
    cases AM:cn a.den with
    |false=>rw[Bool.false_and];exact gV.e5 a _ _ h1 p1 CC p2 AM
    |true =>
     have hg:=Am.Gcd ⟨false,a.num⟩ ⟨false,a.den⟩ (show a.num.length≤_ by omega) (show a.den.length≤_ by omega)
     rw[Dl h1 CC,Dl h2 AM,Int.natAbs_natCast,Int.natAbs_natCast] at hg
     have gl:=Ep (a:=(nat a.num:Int)) (b:=(nat a.den:Int)) (k:=274877906944) (by show(words _).length≤_;rw[Int.natAbs_natCast,kl CC];exact l1) (by show(words _).length≤_;rw[Int.natAbs_natCast,kl AM];exact l2)
     rw[Int.natAbs_natCast,Int.natAbs_natCast] at gl
     have hc:=Am.jN (Sym.whole (Nat.gcd (nat a.num) (nat a.den):Nat)) (Sym.whole 1) (show wl _<_ by omega) (show wl 1<_ by decide)
     rw[aD,aD] at hc
     rw[Bool.true_and,←Oz]
     exact gV.e4 a _ _ _ _ _ h1 p1 CC p2 AM hg one hc
theorem nc(a:ah)(h:nR a):Cp 144 [a.pv] (.aB [(Sym.whole a.val.num).pv,(Sym.whole (a.val.den:Int)).pv]):=by
 have hv:=Valid a h
 cases hc:a.valid with
 |false=>rw[J9 hc];exact mM.e0 a _ _ hv hc one
 |true =>
  by_cases h0:a.num.length=0
  ·rw[yT (List.eq_nil_of_length_eq_zero h0)];exact mM.e1 a _ _ hv hc h0 one
  ·obtain⟨e1,e2⟩:=LA hc h0
   rw[e1,e2]
   exact mM.e2 a _ hv hc h0
theorem form(n d:aI)(hn:n.fS.length≤1099511627776)(hd:d.fS.length≤1099511627776)(h0:d.val≠0):Cp 145 [n.pv,d.pv] (aE (Rat.divInt n.val d.val)).pv:=by
 have sn:=Am.Sign n hn
 have sd:=Am.Sign d hd
 have wn:=cT n
 have wd':=cT d
 by_cases hz:n.val=0
 ·rw[hz,Rat.zero_divInt]
  exact nO.e0 n d _ sn (by rw[hz];rfl)
 ·have KX:wh n.val≠0:=by unfold wh iM;split<;>(try split)<;>omega
  by_cases An:d.val<0
  ·have e:Rat.divInt n.val d.val=Rat.divInt (-n.val) (-d.val):=by rw[Rat.divInt_neg',Int.neg_neg]
   have n1:=Am.Neg n hn
   have d1:=Am.Neg d hd
   have l1:(Sym.whole (-n.val)).fS.length≤1099511627776:=by show wl _≤_;rw[kC];omega
   have l2:(Sym.whole (-d.val)).fS.length≤1099511627776:=by show wl _≤_;rw[kC];omega
   have g:=Am.Gcd _ _ l1 l2
   rw[aD,aD] at g
   have CB:=Ep (a := -n.val) (b := -d.val) (k:=1099511627776) (by rw[kC];omega) (by rw[kC];omega)
   rw[e,formed (by omega) (by omega) _ rfl]
   have FV:((Nat.gcd (-n.val).natAbs (-d.val).natAbs:Nat):Int)≠0:=by
    have:=Nat.gcd_pos_of_pos_left (-d.val).natAbs (show 0<(-n.val).natAbs by omega)
    omega
   generalize hG:((Nat.gcd (-n.val).natAbs (-d.val).natAbs:Nat):Int)=G at *
   have dd:=Am.Div (Sym.whole (-d.val)) (Sym.whole G) l2 CB (by rw[aD];exact FV)
   have dn:=Am.Div (Sym.whole (-n.val)) (Sym.whole G) l1 CB (by rw[aD];exact FV)
   rw[aD,aD] at dd dn
   exact nO.e1 n d _ _ _ _ _ _ _ _ _ _ _ sn KX sd (by unfold wh iM;rw[if_pos An];omega) n1 d1 g dn dd
  ·have g:=Am.Gcd _ _ hn hd
   have CB:=Ep (a:=n.val) (b:=d.val) (k:=1099511627776) (by omega) (by omega)
   rw[formed hz (by omega) _ rfl]
   have FV:((Nat.gcd n.val.natAbs d.val.natAbs:Nat):Int)≠0:=by
    have:=Nat.gcd_pos_of_pos_left d.val.natAbs (show 0<n.val.natAbs by omega)
    omega
   generalize hG:((Nat.gcd n.val.natAbs d.val.natAbs:Nat):Int)=G at *
   have dd:=Am.Div d (Sym.whole G) hd CB (by rw[aD];exact FV)
   have dn:=Am.Div n (Sym.whole G) hn CB (by rw[aD];exact FV)
   rw[aD] at dd dn
   have Yt:0≤wh d.val:=by unfold wh iM;rw[if_neg An];split<;>omega
   exact nO.e2 n d _ _ _ _ _ _ _ _ _ sn KX sd Yt g dn dd
theorem Ao(n d:Int)(hn:wl n≤1099511627776)(hd:wl d≤1099511627776)(h0:d≠0):Cp 145 [(Sym.whole n).pv,(Sym.whole d).pv] (aE (Rat.divInt n d)).pv:=by
 have:=form (Sym.whole n) (Sym.whole d) hn hd (by rw[aD];exact h0)
 rwa[aD,aD] at this
theorem Iy(n d:aI)(hn:n.fS.length≤1099511627776)(hd:d.fS.length≤1099511627776)(h0:d.val≠0):Cp 224 [n.pv,d.pv] (.aB [(aE (Rat.divInt n.val d.val)).pv,(vI 0)]) :=
 vp.e1 n d _ _ (Am.Sign d hd) (by unfold wh iM;split<;>(try split)<;>omega) (form n d hn hd h0)
theorem Of(n:Int)(h:aw n):Cp 89 [vI n] (aE (n:Rat)).pv:=by
 have hw:wl n≤2:=oZ (by unfold aw at h;omega)
 have:=Ao n 1 (by omega) (by decide) (by omega)
 rw[show Rat.divInt n 1=(n:Rat) from by rw[Rat.divInt_eq_div];grind] at this
 exact xL.e0 n _ _ _ (Am.Of n h) one this
theorem Neg(a:ah)(h:nR a):Cp 88 [a.pv] (aE (-a.val)).pv:=by
 have hp:=nc a h
 have hh:=eQ h.1 h.2 (by omega)
 have h1:=js a.val
 have h2:=jO a.val
 have hn:=Am.Neg (Sym.whole a.val.num) (show wl _≤_ by omega)
 rw[aD] at hn
 have hf:=Ao (-a.val.num) a.val.den (by rw[kC];omega) (by omega) (by have:=a.val.den_nz;omega)
 rw[←Rat.neg_divInt,Rat.num_divInt_den] at hf
 exact wP.e0 a _ _ _ _ hp hn hf
theorem Sign(a:ah)(h:nR a):Cp 124 [a.pv] (vI (dz a.val 0)):=by
 have hp:=nc a h
 have hh:=eQ h.1 h.2 (by omega)
 have h1:=js a.val
 have hs:=Am.Sign (Sym.whole a.val.num) (show wl _≤_ by omega)
 rw[aD,Eo] at hs
 exact vo.e0 a _ _ _ hp hs
theorem Add(a b:ah)(ha:nR a)(hb:nR b):Cp 70 [a.pv,b.pv] (aE (a.val+b.val)).pv:=by
 have pa:=nc a ha
 have pb:=nc b hb
 have la:=eQ ha.1 ha.2 (by omega)
 have lb:=eQ hb.1 hb.2 (by omega)
 have h1:=js a.val
 have h2:=jO a.val
 have h3:=js b.val
 have h4:=jO b.val
 have m1:=Am.Mul (Sym.whole a.val.num) (Sym.whole (b.val.den:Int)) (show wl _≤_ by omega) (show wl _≤_ by omega)
 have m2:=Am.Mul (Sym.whole b.val.num) (Sym.whole (a.val.den:Int)) (show wl _≤_ by omega) (show wl _≤_ by omega)
 have m3:=Am.Mul (Sym.whole (a.val.den:Int)) (Sym.whole (b.val.den:Int)) (show wl _≤_ by omega) (show wl _≤_ by omega)
 rw[aD,aD] at m1 m2 m3
 have w1:=ic a.val.num b.val.den
 have w2:=ic b.val.num a.val.den
 have w3:=ic (a.val.den:Int) b.val.den
 have s:=Am.Add (Sym.whole (a.val.num*b.val.den)) (Sym.whole (b.val.num*a.val.den)) (show wl _≤_ by omega) (show wl _≤_ by omega)
 rw[aD,aD] at s
 have w4:=Ej (a.val.num*b.val.den) (b.val.num*a.val.den)
 have hf:=Ao (a.val.num*b.val.den+b.val.num*a.val.den) ((a.val.den:Int)*(b.val.den:Int)) (by omega) (by omega) (by
  have:=a.val.den_nz
  have:=b.val.den_nz
  exact Int.mul_ne_zero (by omega) (by omega))
 rw[←Int.natCast_mul,Rat.divInt_ofNat,←Rat.add_def',Int.natCast_mul] at hf
 exact wO.e0 a b _ _ _ _ _ _ _ _ _ pa pb m1 m2 s m3 hf
theorem Sub(a b:ah)(ha:nR a)(hb:nR b):Cp 143 [a.pv,b.pv] (aE (a.val-b.val)).pv:=by
 have hn:=Neg b hb
 have lb:=eQ hb.1 hb.2 (by omega)
 have hs:=Add a (aE (-b.val)) ha (nS (by rw[qB];exact lb))
 rw[bS,←Rat.sub_eq_add_neg] at hs
 exact wQ.e0 a b _ _ hn hs
theorem Mul(a b:ah)(ha:nR a)(hb:nR b):Cp 245 [a.pv,b.pv] (aE (a.val*b.val)).pv:=by
 have pa:=nc a ha
 have pb:=nc b hb
 have la:=eQ ha.1 ha.2 (by omega)
 have lb:=eQ hb.1 hb.2 (by omega)
 have h1:=js a.val
 have h2:=jO a.val
 have h3:=js b.val
 have h4:=jO b.val
 have m1:=Am.Mul (Sym.whole a.val.num) (Sym.whole b.val.num) (show wl _≤_ by omega) (show wl _≤_ by omega)
 have m3:=Am.Mul (Sym.whole (a.val.den:Int)) (Sym.whole (b.val.den:Int)) (show wl _≤_ by omega) (show wl _≤_ by omega)
 rw[aD,aD] at m1 m3
 have w1:=ic a.val.num b.val.num
 have w3:=ic (a.val.den:Int) b.val.den
 have hf:=Ao (a.val.num*b.val.num) ((a.val.den:Int)*(b.val.den:Int)) (by omega) (by omega) (by
  have:=a.val.den_nz
  have:=b.val.den_nz
  exact Int.mul_ne_zero (by omega) (by omega))
 rw[←Int.natCast_mul,Rat.divInt_ofNat,←Rat.mul_def',Int.natCast_mul] at hf
 exact wT.e0 a b _ _ _ _ _ _ _ pa pb m1 m3 hf
theorem Div(a b:ah)(ha:nR a)(hb:nR b)(h0:b.val≠0):Cp 148 [a.pv,b.pv] (.aB [(aE (a.val/b.val)).pv,(vI 0)]):=by
 have pa:=nc a ha
 have pb:=nc b hb
 have la:=eQ ha.1 ha.2 (by omega)
 have lb:=eQ hb.1 hb.2 (by omega)
 have h1:=js a.val
 have h2:=jO a.val
 have h3:=js b.val
 have h4:=jO b.val
 have m1:=Am.Mul (Sym.whole a.val.num) (Sym.whole (b.val.den:Int)) (show wl _≤_ by omega) (show wl _≤_ by omega)
 have m3:=Am.Mul (Sym.whole (a.val.den:Int)) (Sym.whole b.val.num) (show wl _≤_ by omega) (show wl _≤_ by omega)
 rw[aD,aD] at m1 m3
 have w1:=ic a.val.num b.val.den
 have w3:=ic (a.val.den:Int) b.val.num
 have hf:=Iy (Sym.whole (a.val.num*b.val.den)) (Sym.whole ((a.val.den:Int)*b.val.num)) (show wl _≤_ by omega) (show wl _≤_ by omega) (by
  rw[aD]
  have:=a.val.den_nz
  refine Int.mul_ne_zero (by omega) (fun e=>h0 (Rat.num_eq_zero.1 e)))
 rw[aD,aD,←Rat.divInt_mul_divInt,Rat.num_divInt_den,←Rat.inv_def,←Rat.div_def] at hf
 exact wR.e0 a b _ _ _ _ _ _ _ 0 pa pb m1 m3 hf
theorem jN(a b:ah)(ha:a.num.length≤68719476736∧a.den.length≤68719476736)(hb:b.num.length≤68719476736∧b.den.length≤68719476736):Cp 69 [a.pv,b.pv] (vI (dz a.val b.val)):=by
 have la:=eQ ha.1 ha.2 (by omega)
 have lb:=eQ hb.1 hb.2 (by omega)
 have hs:=Sub a b ⟨by omega,by omega⟩ ⟨by omega,by omega⟩
 have hl:=oN a.val b.val
 have hg:=Sign (aE (a.val-b.val)) (nS (by omega))
 rw[bS,←Eo,Lu] at hg
 exact wN.e0 a b _ _ hs hg
theorem Dm(a:ah)(h:nR a):Cp 70 [a.pv,(⟨false,[],[]⟩:ah).pv] (aE a.val).pv:=by
 have hf:=Add a ⟨false,[],[]⟩ h ⟨by simp,by simp⟩
 rwa[yT (a:=⟨false,[],[]⟩) rfl,Rat.add_zero] at hf
theorem Min(a b:ah)(ha:a.num.length≤68719476736∧a.den.length≤68719476736)(hb:b.num.length≤68719476736∧b.den.length≤68719476736):Cp 284 [a.pv,b.pv] (aE (eZ a.val b.val)).pv:=by
 unfold eZ
 split
 ·rename_i h;exact r8.e0 a b _ _ (jN a b ha hb) h (Dm a ⟨by omega,by omega⟩)
 ·rename_i h;exact r8.e1 a b _ _ (jN a b ha hb) (by omega) (Dm b ⟨by omega,by omega⟩)
theorem Max(a b:ah)(ha:a.num.length≤68719476736∧a.den.length≤68719476736)(hb:b.num.length≤68719476736∧b.den.length≤68719476736):Cp 285 [a.pv,b.pv] (aE (fD a.val b.val)).pv:=by
 unfold fD
 split
 ·rename_i h;exact r9.e0 a b _ _ (jN a b ha hb) h (Dm a ⟨by omega,by omega⟩)
 ·rename_i h;exact r9.e1 a b _ _ (jN a b ha hb) (by omega) (Dm b ⟨by omega,by omega⟩)
end tj
end Go.Proofs.YtllmkadmohkbfaaGreatDoor.Sym
