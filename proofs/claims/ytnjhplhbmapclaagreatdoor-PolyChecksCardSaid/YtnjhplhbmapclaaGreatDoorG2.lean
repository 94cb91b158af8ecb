/- Lemmas for the statements of this seat. -/
import Derived.Test.YtnjhplhbmapclaaGreatDoorG1
import Derived.Test.YtnjhplhbmapclaaGreatDoorP2
import Derived.Test.YtnjhplhbmapclaaGreatDoorG0
namespace Go.Proofs.YtnjhplhbmapclaaGreatDoor.Sym
open Go Path
set_option linter.unusedVariables false
namespace qn
open ct
theorem times(a b:Words)(ha:a.length≤2199023255552)(hb:b.length≤2199023255552):Cp 103 [aa a,aa b] (aa (words (nat a*nat b))):=by
 have inner:∀(i:Nat) (v:UInt32) (r:PV),a[i]? = some v→i<a.length→(∀site:Words,site.length=a.length+b.length→nat site=nat (a.take i)*nat b+4294967296^i*(v.toNat*nat b)→(∀q,i+1+b.length≤q→q<site.length→wd site q=0)→bu.ag a b (i+1) site r) →
   ∀(j k carry:Nat) (site:Words),b.length-k=j→k≤b.length→site.length=a.length+b.length→carry<4294967296→(∀q,i+b.length≤q→q<site.length→wd site q=0) →
   nat site+4294967296^(i+k)*carry=nat (a.take i)*nat b+4294967296^i*(v.toNat*nat (b.take k))→bu.aM a b i carry i k site r:=by
  intro i v r hv hi zh j
  induction j with
  |zero =>
   intro k carry site hj hk hs hc hz hinv
   have LN:k=b.length:=by omega
   subst LN
   obtain⟨w,hw⟩:=dX carry hc
   refine bu.sf a b i carry i b.length site w (by omega) (by omega) (by omega) (by omega) (by omega) (by omega) (zh _ (by simpa using hs) ?_ ?_)
   ·obtain⟨u,hu⟩:∃u,site[i+b.length]? = some u:=⟨_,List.getElem?_eq_getElem (by omega)⟩
    have h0:=hz (i+b.length) (by omega) (by omega)
    rw[eZ hu] at h0
    have h1:=kQ site (i+b.length) w u hu
    rw[h0,hw] at h1
    rw[aC (l:=b) (by omega)] at hinv
    omega
   ·intro q Iz yG
    rw[List.length_set] at yG
    have:=hz q (by omega) yG
    unfold wd at this ⊢
    rw[List.getElem?_set_ne (by omega)]
    exact this
  |succ j ih =>
   intro k carry site hj hk hs hc hz hinv
   obtain⟨u,hu⟩:∃u,b[k]? = some u:=⟨_,List.getElem?_eq_getElem (by omega)⟩
   obtain⟨x,hx⟩:∃x,site[i+k]? = some x:=⟨_,List.getElem?_eq_getElem (by omega)⟩
   have h1:=pW (eM v) (eM u)
   have h2:=eM x
   generalize hp:v.toNat*u.toNat=p at *
   obtain⟨w,hw⟩:=dX ((carry+(p+x.toNat))%4294967296) (by omega)
   have e:(2:Nat)^min 32 64=4294967296:=by decide
   refine bu.tY a b i carry i k site v u p x (p+x.toNat) (carry+(p+x.toNat)) w ((carry+(p+x.toNat))/4294967296) (by omega) hv hu (by rw[hp];omega) (by omega) (by omega) hx (by omega) (by omega) hw.symm (by rw[e]) (by omega) (by omega) ?_
   refine ih (k+1) _ (site.set (i+k) w) (by omega) (by omega) (by simpa using hs) (by omega) ?_ ?_
   ·intro q Iz yG
    rw[List.length_set] at yG
    have:=hz q Iz yG
    unfold wd at this ⊢
    rw[List.getElem?_set_ne (by omega)]
    exact this
   ·have g1:=kQ site (i+k) w x hx
    rw[hw] at g1
    rw[aZ hu,show i+(k+1)=i+k+1 from rfl,Nat.pow_succ,Nat.mul_assoc]
    have g2:4294967296^(i+k)*((carry+(p+x.toNat))%4294967296)+4294967296^(i+k)*(4294967296*((carry+(p+x.toNat))/4294967296))=4294967296^(i+k)*carry+4294967296^(i+k)*p+4294967296^(i+k)*x.toNat:=by
     rw[←Nat.mul_add,←Nat.mul_add,←Nat.mul_add];congr 1;omega
    have g3:4294967296^i*(v.toNat*(nat (b.take k)+4294967296^k*u.toNat))=4294967296^i*(v.toNat*nat (b.take k))+4294967296^(i+k)*p:=by
     rw[←hp,Nat.pow_add,Nat.mul_add,Nat.mul_add]
     congr 1
     rw[Nat.mul_assoc];congr 1
     rw[Nat.mul_left_comm]
    omega
 have loop:∀(j t:Nat) (site:Words),a.length-t=j→t≤a.length→site.length=a.length+b.length→nat site=nat (a.take t)*nat b→(∀q,t+b.length≤q→q<site.length→wd site q=0) →
   bu.ag a b t site (aa (words (nat a*nat b))):=by
  intro j
  induction j with
  |zero =>
   intro t site hj ht hs hinv _
   rw[aC (by omega)] at hinv
   have:=bu.cW a b t site (words (nat site)) (by omega) (by omega) (trim site (by omega))
   rwa[hinv] at this
  |succ j ih =>
   intro t site hj ht hs hinv hz
   obtain⟨v,hv⟩:∃v,a[t]? = some v:=⟨_,List.getElem?_eq_getElem (by omega)⟩
   refine bu.l10 a b t site (by omega) ?_
   refine inner t v _ hv (by omega) (fun Dz Cy IZ Ep => ?_) _ 0 0 site rfl (by omega) hs (by omega) hz ?_
   ·refine ih (t+1) Dz (by omega) (by omega) Cy ?_ Ep
    rw[IZ,aZ hv,Nat.add_mul,Nat.mul_assoc]
   ·simp[nat,hinv]
 refine bu.e0 a b (by omega) (by omega) (loop _ 0 _ rfl (by omega) (by simp) (by simp[nat,iK]) ?_)
 intro q _ hq
 unfold wd
 rw[List.getElem?_replicate]
 split
 ·rename_i w h
  split at h
  ·injection h with h;subst h;rfl
  ·cases h
 ·rfl
theorem vy(k:Nat):(4294967296:Nat)^k=2^(32*k):=by rw[Nat.pow_mul]
theorem HU{l:Words}{k:Nat}(h:l.length=k+1):nat l=nat (l.take k)+4294967296^k*wd l k:=by
 have:=cf l k
 rwa[aC (by omega)] at this
theorem bits(a:Words)(hc:cn a=true)(ha:a.length≤2199023255553):Cp 135 [aa a] (vI (blen (nat a))):=by
 by_cases h0:a.length=0
 ·have:a=[]:=List.eq_nil_of_length_eq_zero h0
  subst this
  exact b7.e0 [] rfl
 ·have loop:∀(j:Nat) (n:Int) (x:UInt32),x.toNat≤j→ar (n+j)→ar n→b7.ag n x (vI (n+blen x.toNat)):=by
   intro j
   induction j with
   |zero =>
    intro n x hx _ _
    have e:x.toNat=0:=by omega
    rw[e,nN]
    have:=b7.cW n x (by omega)
    rwa[show n+((0:Nat):Int)=n from by omega]
   |succ j ih =>
    intro n x hx hn Ma
    by_cases h:x.toNat=0
    ·rw[h,nN]
     have:=b7.cW n x (by omega)
     rwa[show n+((0:Nat):Int)=n from by omega]
    ·obtain⟨z,hz⟩:=dX (x.toNat/2) (by have:=eM x;omega)
     have e:blen x.toNat=1+blen (x.toNat/2):=by
      have:=nt (n:=x.toNat) (k:=1)
      by_cases h1:x.toNat=1
      ·rw[h1];rfl
      ·exact this (by omega)
     unfold ar at hn Ma
     have:=ih (n+1) z (by omega) (by unfold ar;omega) (by unfold ar;omega)
     rw[hz] at this
     rw[e,show n+((1+blen (x.toNat/2):Nat):Int)=n+1+(blen (x.toNat/2):Nat) from by omega]
     exact b7.l10 n x z (by omega) (by unfold ar;omega) (by rw[hz];rfl) this
  obtain⟨k,hk⟩:∃k,a.length=k+1:=⟨a.length-1,by omega⟩
  obtain⟨v,hv⟩:∃v,a[k]? = some v:=⟨_,List.getElem?_eq_getElem (by omega)⟩
  have h1:=(iO (v:=v) (by rw[hk];exact hv)).1 hc
  have h2:=cr (a.take k)
  rw[List.length_take,Nat.min_eq_left (by omega)] at h2
  have h3:=HU hk
  rw[eZ hv] at h3
  have e:blen (nat a)=32*k+blen v.toNat:=by
   rw[vy] at h2 h3
   have h4:2^(32*k)≤nat a:=by
    have:=Nat.mul_le_mul_left (2^(32*k)) (show 1≤v.toNat by omega)
    omega
   rw[nt h4]
   congr 2
   rw[h3,Nat.add_mul_div_left _ _ (Nat.two_pow_pos _),Nat.div_eq_of_lt h2,Nat.zero_add]
  have hw:=eM v
  have:=loop v.toNat (32*((a.length:Int)-1)) v (Nat.le_refl _) (by unfold ar;omega) (by unfold ar;omega)
  rw[e,show((32*k+blen v.toNat:Nat):Int)=32*((a.length:Int)-1)+(blen v.toNat:Nat) from by omega]
  exact b7.e1 a k v h0 (by unfold ar;omega) (by unfold ar;omega) (by omega) hv this
theorem DN{v c:Nat}(hv:v<4294967296)(hc:c≤1):((v*2^(min 1 32))%4294967296%4294967296) ||| (c%4294967296)=(2*v)%4294967296+c:=by
 have e:(2:Nat)^min 1 32=2:=by decide
 rw[e,Nat.mod_mod,Nat.mod_eq_of_lt (show c<4294967296 by omega)]
 obtain⟨u,hu⟩:∃u,(v*2)%4294967296=2*u:=⟨(v*2)%4294967296/2,by omega⟩
 rw[hu]
 have:=Nat.two_pow_add_eq_or_of_lt (i:=1) (show c<2^1 by omega) u
 rw[show (2:Nat)^1=2 from rfl] at this
 rw[←this];omega
theorem HV{v s:Nat}(hs:s<32)(hv:v%2^(s+1)=0)(hl:v<4294967296):(v%4294967296) ||| (((1*2^(min (s%32) 32))%4294967296)%4294967296)=v+2^s:=by
 have h1:2^s<4294967296:=by
  have:=Nat.pow_lt_pow_right (a:=2) (by omega) hs
  omega
 rw[Nat.mod_eq_of_lt hs,Nat.min_eq_left (by omega),Nat.one_mul,Nat.mod_mod,Nat.mod_eq_of_lt hl,Nat.mod_eq_of_lt h1]
 have h2:v=2^(s+1)*(v/2^(s+1)):=by have:=Nat.div_add_mod v (2^(s+1));omega
 have h3:=Nat.two_pow_add_eq_or_of_lt (i:=s+1) (show 2^s<2^(s+1) by rw[Nat.pow_succ];have:=Nat.two_pow_pos s;omega) (v/2^(s+1))
 rw[←h2] at h3
 exact h3.symm
theorem DO(a:Words)(t:Nat)(ht:t≤a.length):wd a t=nat a/4294967296^t%4294967296:=by
 rw[nu a t ht,fk a t]
 have:=jb a t
 omega
theorem HW(a:Words)(t s Q:Nat)(hs:s<32)(ht:t≤a.length)(h:nat a=Q*2^(32*t+s+1)):wd a t%2^(s+1)=0:=by
 rw[DO a t ht,h,vy,show 32*t+s+1=(s+1)+32*t from by omega,Nat.pow_add,←Nat.mul_assoc,Nat.mul_div_cancel _ (Nat.two_pow_pos _)]
 have:(4294967296:Nat)=2^(s+1)*2^(32-(s+1)):=by rw[←Nat.pow_add,show s+1+(32-(s+1))=32 from by omega]
 rw[this,Nat.mod_mul_right_mod,Nat.mul_mod_left]
theorem HX(a:Words)(k:Nat)(hk:k/32≤a.length):wd a (k/32)/2^(k%32)%2=nat a/2^k%2:=by
 rw[DO a _ hk,vy]
 have e:(4294967296:Nat)=2^(k%32)*2^(32-k%32):=by rw[←Nat.pow_add,show k%32+(32-k%32)=32 from by omega]
 have e2:(2:Nat)^(32-k%32)=2*2^(31-k%32):=by rw[show 32-k%32=(31-k%32)+1 from by omega,Nat.pow_succ,Nat.mul_comm]
 rw[e,Nat.mod_mul_right_div_self,e2,Nat.mod_mul_right_mod,Nat.div_div_eq_div_mul,←Nat.pow_add,Nat.div_add_mod]
theorem OQ(a b:Words)(hb:b.length≤2199023255552):∀(i:Int) (q R:Words) (bit:Nat) (r:PV),R.length=b.length+1→nat R<nat b→bit≤1 →
  (∀(c:UInt32) (t:Nat) (U:Words),b.length+1≤t→U.length=b.length+1→nat U=2*nat R+bit→bf.aM a b i c t q U r) →
  ∀(j t:Nat) (c:UInt32) (U:Words),b.length+1-t=j→t≤b.length+1→U.length=b.length+1→c.toNat≤1→(∀p,t≤p→wd U p=wd R p) →
  nat (U.take t)+4294967296^t*c.toNat=2*nat (R.take t)+bit→bf.aM a b i c t q U r:=by
 have OR:=cr b
 have Gp:2*nat b<4294967296^(b.length+1):=by rw[Nat.pow_succ];omega
 intro i q R bit r hR Ps HY zh j
 induction j with
 |zero =>
  intro t c U hj ht hU hc dy hinv
  have pG:t=b.length+1:=by omega
  rw[←pG] at Gp
  refine zh c _ U (by omega) hU ?_
  rw[aC (by omega),aC (by omega)] at hinv
  clear pG
  generalize 4294967296^t=P at hinv Gp
  have:c.toNat=0:=by
   refine Nat.eq_zero_of_not_pos fun hp => ?_
   have:=Nat.mul_le_mul_left P (show 1≤c.toNat from hp)
   omega
  rw[this] at hinv
  omega
 |succ j ih =>
  intro t c U hj ht hU hc dy hinv
  obtain⟨v,hv⟩:∃v,U[t]? = some v:=⟨_,List.getElem?_eq_getElem (by omega)⟩
  have Fy:=dy t (Nat.le_refl t)
  rw[eZ hv] at Fy
  have s6:=eM v
  obtain⟨z,hz⟩:=dX ((v.toNat*2^(min 1 32))%4294967296) (Nat.mod_lt _ (by omega))
  obtain⟨z1,DA⟩:=dX ((2*v.toNat)%4294967296+c.toNat) (by omega)
  obtain⟨z2,GC⟩:=dX (v.toNat/2147483648) (by omega)
  have OS:(2:Nat)^min 31 32=2147483648:=by decide
  refine bf.tY a b i c t q U v z z1 z2 (by omega) hv hz.symm (by rw[hz,DA];exact DN s6 hc) (by rw[OS,GC]) (by omega) (by omega) ?_
  refine ih (t+1) z2 (U.set t z1) (by omega) (by omega) (by simpa using hU) (by omega) (fun p hp=>by rw[nP (by omega)];exact dy p (by omega)) ?_
  rw[dF (by omega),cf R t,←Fy,DA,GC,Nat.pow_succ,Nat.mul_assoc]
  have h6:4294967296^t*((2*v.toNat)%4294967296+c.toNat)+4294967296^t*(4294967296*(v.toNat/2147483648))=4294967296^t*c.toNat+2*(4294967296^t*v.toNat):=by
   rw[Nat.mul_left_comm 2,←Nat.mul_add,←Nat.mul_add]
   congr 1
   omega
  omega
theorem nv(a b:Words)(Gj:cn a=true)(AX:0<nat b)(ha:a.length≤2199023255552)(hb:b.length≤2199023255552) :
  Cp 124 [aa a,aa b] (.aY [aa (words (nat a/nat b)),aa (words (nat a%nat b))]):=by
 have loop:∀(n Q:Nat) (q R:Words),q.length=a.length→R.length=b.length+1→n≤blen (nat a)→n≤32*a.length→nat a/2^n=Q*nat b+nat R→nat R<nat b→nat q=Q*2^n →
   bf.ag a b ((n:Int)-1) q R (.aY [aa (words (nat a/nat b)),aa (words (nat a%nat b))]):=by
  intro n
  induction n with
  |zero =>
   intro Q q R hq hR _ _ hdiv cS Gn
   have h1:=trim q (by omega)
   have h2:=trim R (by omega)
   rw[Nat.pow_zero,Nat.div_one] at hdiv
   rw[Nat.pow_zero,Nat.mul_one] at Gn
   have e1:nat a/nat b=nat q:=by
    rw[Gn,hdiv,Nat.add_comm,Nat.add_mul_div_right _ _ AX,Nat.div_eq_of_lt cS,Nat.zero_add]
   have e2:nat a%nat b=nat R:=by
    rw[hdiv,Nat.add_comm,Nat.add_mul_mod_self_right,Nat.mod_eq_of_lt cS]
   rw[e1,e2]
   exact bf.cW a b _ q R _ _ (by omega) (by omega) (by omega) h1 h2
  |succ n ih =>
   intro Q q R hq hR hn Ga hdiv cS Gn
   have Bz:n/32<a.length:=by omega
   obtain⟨v,hv⟩:∃v,a[n/32]? = some v:=⟨_,List.getElem?_eq_getElem Bz⟩
   have s6:=eM v
   have hs:n%32<32:=Nat.mod_lt _ (by omega)
   obtain⟨z,hz⟩:=dX (v.toNat/2^(n%32)) (Nat.lt_of_le_of_lt (Nat.div_le_self _ _) s6)
   obtain⟨z1,DA⟩:=dX (nat a/2^n%2) (by omega)
   have HY:=HX a n (by omega)
   rw[eZ hv] at HY
   rw[show ((n+1:Nat):Int)-1=(n:Int) from by omega]
   refine bf.l10 a b (n:Int) q R n v n z z1 (by omega) rfl (by omega) hv rfl (by rw[Nat.min_eq_left (by omega),hz]) ?_ ?_
   ·rw[show (1:Nat)%4294967296=1 from rfl,Nat.and_one_is_mod,DA,←HY,hz]
    have:=Nat.lt_of_le_of_lt (Nat.div_le_self v.toNat (2^(n%32))) s6
    omega
   ·have vn:nat a/2^n=2*(nat a/2^(n+1))+nat a/2^n%2:=by
     rw[Nat.pow_succ,←Nat.div_div_eq_div_mul];omega
    have mJ:nat a/2^n%2≤1:=by omega
    generalize hbv:nat a/2^n%2=bit at *
    refine OQ a b hb (n:Int) q R bit _ hR cS mJ ?_ _ 0 z1 R rfl (by omega) hR (by omega) (fun _ _=>rfl) (by simp[nat];exact DA)
    intro c t U ht hU Nd
    have yc:=DM U b (b.length+1) hU.symm (by omega) (by omega)
    by_cases uM:nat b≤nat U
    ·obtain⟨V,Pu,OT,OU⟩:=take U b (b.length+1) hU.symm (by omega) uM
     obtain⟨u,hu⟩:∃u,q[n/32]? = some u:=⟨_,List.getElem?_eq_getElem (by omega)⟩
     have qx:=eM u
     have wT:=HW q (n/32) (n%32) Q hs (by omega) (by rw[Gn,show 32*(n/32)+n%32+1=n+1 from by omega])
     rw[eZ hu] at wT
     have Pv:2^(n%32)<4294967296:=by
      have:=Nat.pow_lt_pow_right (a:=2) (by omega) hs
      omega
     obtain⟨z2,GC⟩:=dX ((1*2^(min (n%32) 32))%4294967296) (Nat.mod_lt _ (by omega))
     have IA:=HV hs wT qx
     rw[Nat.mod_eq_of_lt hs] at IA
     have hbound:u.toNat+2^(n%32)<4294967296:=by
      rw[←IA]
      exact Nat.or_lt_two_pow (n:=32) (Nat.mod_lt _ (by omega)) (Nat.mod_lt _ (by omega))
     obtain⟨z3,Nf⟩:=dX _ hbound
     refine bf.sf a b (n:Int) c t q U U _ V n u n z2 z3 ht yc (by unfold bX;split<;>(try split)<;>omega) OU rfl (by omega) Bz hu rfl GC.symm (by rw[GC,Nf];exact IA) (by omega) (by unfold ar;omega) ?_
     refine ih (2*Q+1) (q.set (n/32) z3) V (by simpa using hq) (by omega) (by omega) (by omega) ?_ ?_ ?_
     ·rw[vn,hdiv,OT,Nd,Nat.add_mul,Nat.mul_add,Nat.mul_assoc];omega
     ·omega
     ·have g:=kQ q (n/32) z3 u hu
      rw[Nf,Nat.mul_add,Gn,vy,←Nat.pow_add,show 32*(n/32)+n%32=n from by omega] at g
      rw[Nat.pow_succ] at g
      have:(2*Q+1)*2^n=Q*(2^n*2)+2^n:=by rw[Nat.add_mul,Nat.one_mul,Nat.mul_comm 2 Q,Nat.mul_assoc,Nat.mul_comm 2 (2^n)]
      omega
    ·refine bf.BI a b (n:Int) c t q U U _ ht yc (by unfold bX;split<;>(try split)<;>omega) (by unfold ar;omega) ?_
     refine ih (2*Q) q U hq hU (by omega) (by omega) ?_ (by omega) ?_
     ·rw[vn,hdiv,Nd,Nat.mul_add,Nat.mul_assoc];omega
     ·rw[Gn,Nat.pow_succ,Nat.mul_comm 2 Q,Nat.mul_assoc,Nat.mul_comm 2 (2^n)]
 have JG:=bits a Gj (by omega)
 have Du:blen (nat a)≤32*a.length:=mn (by rw[←vy];exact cr a)
 refine bf.e0 a b _ (by omega) (by omega) (by omega) JG (by unfold ar;omega) ?_
 refine loop (blen (nat a)) 0 _ _ (by simp) (by simp) (Nat.le_refl _) Du ?_ ?_ ?_
 ·rw[iK,Nat.div_eq_of_lt (Fm _)];simp
 ·rw[iK];exact AX
 ·rw[iK];simp
theorem pX{p:Nat}(hp:0<p):∃v z:UInt32,0<(words p).length∧(words p)[0]? = some v∧(v.toNat%4294967296) &&& (1%4294967296)=z.toNat∧z.toNat=p%2:=by
 have hl:0<(words p).length:=Nat.pos_of_ne_zero (by rw[Ne,bO];omega)
 obtain⟨v,hv⟩:∃v,(words p)[0]? = some v:=⟨_,List.getElem?_eq_getElem hl⟩
 obtain⟨z,hz⟩:=dX (p%2) (by omega)
 refine⟨v,z,hl,hv,?_,hz⟩
 have h:=DO (words p) 0 (by omega)
 rw[eZ hv,au,Nat.pow_zero,Nat.div_one] at h
 rw[show (1:Nat)%4294967296=1 from rfl,Nat.and_one_is_mod,hz,h]
 omega
theorem yg{p q:Nat}(hp:p%2=0)(hq:q%2=1):Nat.gcd (p/2) q=Nat.gcd p q:=by
 have hc:Nat.Coprime 2 q:=by
  unfold Nat.Coprime
  rw[Nat.gcd_rec,hq];rfl
 have:=Nat.Coprime.gcd_mul_left_cancel (p/2) hc
 rw[←this]
 congr 1
 omega
theorem sG{p q k:Nat}(hq:0<q)(h:(words q).length≤k):(words (Nat.gcd p q)).length≤k:=Nat.le_trans (cd (Nat.le_of_dvd hq (Nat.gcd_dvd_right p q))) h
theorem wU(p:Nat)(hp:(words p).length≤2199023255553):aq bh 120 [.row 100000 0 (words p).length 1] [(100000,ws (words p))] (.row 100000 0 (words (p/2)).length 1) [(100000,ws (words (p/2)))]:=by
 have:=JF (words p) _ rfl hp
 rwa[au] at this
theorem Gq(p q:Nat)(hp:(words p).length≤2199023255553)(Gd:q≤p):∃U:Words,U.length=(words p).length ∧
  aq bh 121 [.row 100000 0 (words p).length 1,.row 100001 0 (words q).length 1] [(100000,ws (words p)),(100001,ws (words q))] (.pv (.aY [])) [(100000,ws U),(100001,ws (words q))] ∧
  aq bh 122 [.row 100000 0 (words p).length 1] [(100000,ws U)] (.row 100000 0 (words (p-q)).length 1) [(100000,ws (words (p-q)))]:=by
 obtain⟨U,h1,h2,h3⟩:=JD (words p) (words q) _ _ rfl rfl hp (by rw[au,au];exact Gd)
 have hc:=cut U (by omega)
 rw[au,au] at h2
 rw[h2,h1] at hc
 exact⟨U,h1,h3,hc⟩
theorem gcd(a b:Words)(ha:a.length≤1099511627776)(hb:b.length≤1099511627776):Cp 92 [aa a,aa b] (aa (words (Nat.gcd (nat a) (nat b)))):=by
 have t1:=Gm a (by omega)
 have t2:=Gm b (by omega)
 have la:=ue a
 have lb:=ue b
 generalize nat a=A at *
 generalize nat b=B at *
 by_cases hA:A=0
 ·subst hA
  rw[Nat.gcd_zero_left]
  exact aE.e0 a b _ _ _ _ t1 t2 (by rw[cJ];rfl) rfl
 by_cases hB:B=0
 ·subst hB
  rw[Nat.gcd_zero_right]
  exact aE.e1 a b _ _ _ _ t1 t2 (by rw[Ne,bO];exact hA) (by rw[cJ];rfl) rfl
 refine aE.e2 a b _ _ _ _ t1 t2 (by rw[Ne,bO];exact hA) (by rw[Ne,bO];exact hB) ?_
 have fin:∀(j m t64 t65:Nat),t64-t65=j→t64<9223372036854775808→(words (m*2^j)).length≤1099511627776→aE.lv (words m) t64 t65 (aa (words (m*2^j))):=by
  intro j
  induction j with
  |zero =>
   intro m t64 t65 hj _ _
   rw[Nat.pow_zero,Nat.mul_one]
   exact aE.Kc _ _ _ (by omega)
  |succ j ih =>
   intro m t64 t65 hj ht hl
   have e:m*2^(j+1)=(m+m)*2^j:=by rw[Nat.pow_succ,Nat.add_mul,←Nat.mul_assoc];omega
   have hm:(words m).length≤1099511627776:=by
    refine Nat.le_trans (cd ?_) hl
    have:=Nat.mul_le_mul_left m (Nat.two_pow_pos (j+1))
    omega
   have hp:=plus (words m) (words m) (by omega) (by omega)
   rw[au] at hp
   rw[e] at hl ⊢
   exact aE.LB _ _ _ _ (by omega) hp (by omega) (ih (m+m) t64 (t65+1) (by omega) ht hl)
 have rounds:∀(s p q tw:Nat),p+q≤s→0<q→(words p).length≤1099511627776→(words q).length≤1099511627776→tw<9223372036854775808→(words (Nat.gcd p q*2^tw)).length≤1099511627776 →
   ((p%2=1∨q%2=1)→aE.aM (words p).length (words q).length tw (words p) (words q) (aa (words (Nat.gcd p q*2^tw)))) ∧
   (0<p→(p%2=1∨q%2=1)→aE.gg (words p).length (words q).length tw (words p) (words q) (aa (words (Nat.gcd p q*2^tw)))) ∧
   (p%2=1→aE.kM (words p).length (words q).length tw (words p) (words q) (aa (words (Nat.gcd p q*2^tw)))):=by
  intro s
  induction s with
  |zero=>intro p q tw h1 h2;omega
  |succ s ih =>
   intro p q tw hs hq lp lq HZ hl
   have L5:p%2=1→aE.kM (words p).length (words q).length tw (words p) (words q) (aa (words (Nat.gcd p q*2^tw))):=by
    intro hp
    obtain⟨v,z,g1,g2,g3,g4⟩:=pX hq
    by_cases he:q%2=0
    ·have hg:=yg (p:=q) (q:=p) he hp
     have:=(ih p (q/2) tw (by omega) (by omega) lp (Nat.le_trans (cd (Nat.div_le_self q 2)) lq) HZ (by rw[Nat.gcd_comm,hg,Nat.gcd_comm];exact hl)).2.2 hp
     rw[Nat.gcd_comm,hg,Nat.gcd_comm] at this
     exact aE.LC _ _ tw _ _ v z _ _ g1 g2 g3 (by omega) (wU q (by omega)) this
    ·have hc:=BN (words p) (words q) _ _ rfl rfl (by omega) (by omega)
     rw[au,au] at hc
     by_cases cS:p<q
     ·obtain⟨U,u1,u2,u3⟩:=Gq q p (by omega) (by omega)
      have hg:Nat.gcd (q-p) p=Nat.gcd p q:=by rw[Nat.gcd_sub_self_left (by omega),Nat.gcd_comm]
      have:=(ih (q-p) p tw (by omega) (by omega) (Nat.le_trans (cd (Nat.sub_le q p)) lq) lp HZ (by rw[hg];exact hl)).1 (by omega)
      rw[hg] at this
      exact aE.Oy _ _ tw _ _ v z _ _ _ U _ _ _ g1 g2 g3 (by omega) hc (by unfold bX;split<;>(try split)<;>omega) u2 u3 this
     ·obtain⟨U,u1,u2,u3⟩:=Gq p q (by omega) (by omega)
      have hg:Nat.gcd (p-q) q=Nat.gcd p q:=Nat.gcd_sub_self_left (by omega)
      have:=(ih (p-q) q tw (by omega) hq (Nat.le_trans (cd (Nat.sub_le p q)) lp) lq HZ (by rw[hg];exact hl)).1 (by omega)
      rw[hg] at this
      exact aE.Oz _ _ tw _ _ v z _ _ _ U _ _ _ g1 g2 g3 (by omega) hc (by unfold bX;split<;>(try split)<;>omega) u2 u3 this
   have L3:0<p→(p%2=1∨q%2=1)→aE.gg (words p).length (words q).length tw (words p) (words q) (aa (words (Nat.gcd p q*2^tw))):=by
    intro hp JH
    obtain⟨v,z,g1,g2,g3,g4⟩:=pX hp
    by_cases he:p%2=0
    ·have hg:=yg (p:=p) (q:=q) he (by omega)
     have:=(ih (p/2) q tw (by omega) hq (Nat.le_trans (cd (Nat.div_le_self p 2)) lp) lq HZ (by rw[hg];exact hl)).2.1 (by omega) (by omega)
     rw[hg] at this
     exact aE.Hq _ _ tw _ _ v z _ _ g1 g2 g3 (by omega) (wU p (by omega)) this
    ·exact aE.LA _ _ tw _ _ v z g1 g2 g3 (by omega) (L5 (by omega))
   refine⟨fun JH => ?_,L3,L5⟩
   by_cases hp:p=0
   ·subst hp
    rw[Nat.gcd_zero_left] at hl ⊢
    exact aE.sf _ _ tw _ _ (by rw[cJ];simp) rfl (fin tw q tw 0 rfl HZ hl)
   ·exact aE.tY _ _ tw _ _ (Nat.pos_of_ne_zero (by rw[Ne,bO];exact hp)) (L3 (by omega) JH)
 have first:∀(s p q tw:Nat),p+q≤s→0<p→0<q→(words p).length≤1099511627776→(words q).length≤1099511627776→(words (Nat.gcd p q*2^tw)).length≤1099511627776 →
   aE.ag (words p).length (words q).length tw (words p) (words q) (aa (words (Nat.gcd p q*2^tw))):=by
  intro s
  induction s with
  |zero=>intro p q tw h1 h2;omega
  |succ s ih =>
   intro p q tw hs hp hq lp lq hl
   have HZ:tw+1<9223372036854775808:=by
    have h1:2^tw≤Nat.gcd p q*2^tw:=Nat.le_mul_of_pos_left _ (Nat.gcd_pos_of_pos_left _ hp)
    have h2:=fJ (Nat.gcd p q*2^tw)
    rw[vy] at h2
    have h3:=(Nat.pow_lt_pow_iff_right (a:=2) (by omega)).1 (Nat.lt_of_le_of_lt h1 h2)
    omega
   obtain⟨v,z,g1,g2,g3,g4⟩:=pX hp
   by_cases he:p%2=0
   ·obtain⟨v',z',J4,Ca,J5,JX⟩:=pX hq
    by_cases dN:q%2=0
    ·have hg:Nat.gcd (p/2) (q/2)*2^(tw+1)=Nat.gcd p q*2^tw:=by
      have h:=Nat.gcd_mul_left 2 (p/2) (q/2)
      rw[show 2*(p/2)=p from by omega,show 2*(q/2)=q from by omega] at h
      rw[h,Nat.pow_succ,Nat.mul_comm 2,Nat.mul_assoc,Nat.mul_comm 2]
     have:=ih (p/2) (q/2) (tw+1) (by omega) (by omega) (by omega) (Nat.le_trans (cd (Nat.div_le_self p 2)) lp) (Nat.le_trans (cd (Nat.div_le_self q 2)) lq) (by rw[hg];exact hl)
     rw[hg] at this
     exact aE.l10 _ _ tw _ _ v z v' z' _ _ _ _ g1 g2 g3 (by omega) J4 Ca J5 (by omega) (wU p (by omega)) (wU q (by omega)) HZ this
    ·exact aE.cW _ _ tw _ _ v z v' z' g1 g2 g3 (by omega) J4 Ca J5 (by omega) ((rounds (p+q) p q tw (Nat.le_refl _) hq lp lq (by omega) hl).1 (by omega))
   ·exact aE.mD _ _ tw _ _ v z g1 g2 g3 (by omega) ((rounds (p+q) p q tw (Nat.le_refl _) hq lp lq (by omega) hl).1 (by omega))
 have:=first (A+B) A B 0 (Nat.le_refl _) (by omega) (by omega) (by omega) (by omega) (by rw[Nat.pow_zero,Nat.mul_one];exact sG (by omega) (by omega))
 rwa[Nat.pow_zero,Nat.mul_one] at this
end qn
namespace qn
open ct
theorem Sign(a:aj)(h:Fit a.bw):Cp 56 [a.pv] (vI (kq a.val)):=by
 have hm:=bw a h
 by_cases h0:a.val=0
 ·rw[h0,yd]
  exact eo.e0 a _ hm (by rw[h0];rfl)
 ·have hg:=neg a h
  have hl:(words a.val.natAbs).length≠0:=by rw[Ne,bO];omega
  by_cases hn:a.val<0
  ·rw[A2 hn]
   exact eo.e1 a _ _ hm hl hg (decide_eq_true hn)
  ·rw[A3 (by omega)]
   exact eo.e2 a _ _ hm hl hg (decide_eq_false hn)
theorem Neg(a:aj)(h:Fit a.bw):Cp 98 [a.pv] (Sym.whole (-a.val)).pv:=by
 have h3:=bw a h
 have h5:=neg a h
 have la:=aJ a
 have hw:=form (!decide (a.val<0)) (words a.val.natAbs) (by have:(words a.val.natAbs).length≤a.bw.length:=la;omega)
 have e:(bif !decide (a.val<0) then -(nat (words a.val.natAbs):Int) else (nat (words a.val.natAbs):Int)) = -a.val:=by
  rw[au]
  by_cases h:a.val<0
  ·simp[h];omega
  ·simp[h];omega
 rw[e] at hw
 exact kN.e0 a _ _ _ h5 h3 hw
theorem Add(a b:aj)(ha:Fit a.bw)(hb:Fit b.bw):Cp 69 [a.pv,b.pv] (Sym.whole (a.val+b.val)).pv:=by
 have h1:=bw a ha
 have h2:=bw b hb
 have h3:=neg a ha
 have h4:=neg b hb
 have la:(words a.val.natAbs).length≤a.bw.length:=aJ a
 have lb:(words b.val.natAbs).length≤b.bw.length:=aJ b
 by_cases hs:decide (a.val<0)=decide (b.val<0)
 ·have hp:=plus (words a.val.natAbs) (words b.val.natAbs) (by omega) (by omega)
  rw[au,au] at hp
  have hl:=cx (n:=a.val.natAbs+b.val.natAbs) (k:=max (words a.val.natAbs).length (words b.val.natAbs).length+1) (by
   have g1:=fJ a.val.natAbs
   have g2:=fJ b.val.natAbs
   have g3:=il (Nat.le_max_left (words a.val.natAbs).length (words b.val.natAbs).length)
   have g4:=il (Nat.le_max_right (words a.val.natAbs).length (words b.val.natAbs).length)
   rw[Nat.pow_succ];omega)
  have hw:=form (decide (a.val<0)) (words (a.val.natAbs+b.val.natAbs)) (by omega)
  rw[au] at hw
  have e:(bif decide (a.val<0) then -((a.val.natAbs+b.val.natAbs:Nat):Int) else ((a.val.natAbs+b.val.natAbs:Nat):Int))=a.val+b.val:=by
   by_cases h:a.val<0
   ·have:b.val<0:=by simpa[h] using hs.symm
    simp[h];omega
   ·have:¬b.val<0:=by simpa[h] using hs.symm
    simp[h];omega
  rw[e] at hw
  exact eX.e0 a b _ _ _ _ _ _ _ h1 h2 h3 h4 hs h3 hp hw
 ·have hc:=compare (words a.val.natAbs) (words b.val.natAbs) (by omega) (by omega)
  rw[au,au] at hc
  by_cases uM:b.val.natAbs≤a.val.natAbs
  ·have hl:=minus (words a.val.natAbs) (words b.val.natAbs) (by omega) (by rw[au,au];exact uM)
   rw[au,au] at hl
   have hlen:=cd (show a.val.natAbs-b.val.natAbs≤a.val.natAbs by omega)
   have hw:=form (decide (a.val<0)) (words (a.val.natAbs-b.val.natAbs)) (by omega)
   rw[au] at hw
   have e:(bif decide (a.val<0) then -((a.val.natAbs-b.val.natAbs:Nat):Int) else ((a.val.natAbs-b.val.natAbs:Nat):Int))=a.val+b.val:=by
    by_cases h:a.val<0
    ·have:¬b.val<0:=by simpa[h] using hs
     simp[h];omega
    ·have:b.val<0:=by simpa[h] using hs
     simp[h];omega
   rw[e] at hw
   exact eX.e1 a b _ _ _ _ _ _ _ _ h1 h2 h3 h4 hs hc (by unfold bX;split<;>(try split)<;>omega) h3 hl hw
  ·have hl:=minus (words b.val.natAbs) (words a.val.natAbs) (by omega) (by rw[au,au];omega)
   rw[au,au] at hl
   have hlen:=cd (show b.val.natAbs-a.val.natAbs≤b.val.natAbs by omega)
   have hw:=form (decide (b.val<0)) (words (b.val.natAbs-a.val.natAbs)) (by omega)
   rw[au] at hw
   have e:(bif decide (b.val<0) then -((b.val.natAbs-a.val.natAbs:Nat):Int) else ((b.val.natAbs-a.val.natAbs:Nat):Int))=a.val+b.val:=by
    by_cases h:b.val<0
    ·have:¬a.val<0:=by intro h';simp[h,h'] at hs
     simp[h];omega
    ·have:a.val<0:=by
      refine Classical.byContradiction fun h' => ?_
      simp[h,h'] at hs
     simp[h];omega
   rw[e] at hw
   exact eX.e2 a b _ _ _ _ _ _ _ _ h1 h2 h3 h4 hs hc (by unfold bX;split<;>(try split)<;>omega) h4 hl hw
theorem Sub(a b:aj)(ha:Fit a.bw)(hb:Fit b.bw):Cp 87 [a.pv,b.pv] (Sym.whole (a.val-b.val)).pv:=by
 have h1:=Neg b hb
 have h2:=Add a (Sym.whole (-b.val)) ha (by
  have:=aJ b
  show(words (-b.val).natAbs).length≤_
  rw[Int.natAbs_neg]
  have:(words b.val.natAbs).length≤b.bw.length:=this
  omega)
 rw[ax,←Int.sub_eq_add_neg] at h2
 exact kL.e0 a b _ _ h1 h2
theorem Mul(a b:aj)(ha:Fit a.bw)(hb:Fit b.bw):Cp 70 [a.pv,b.pv] (Sym.whole (a.val*b.val)).pv:=by
 have h1:=bw a ha
 have h2:=bw b hb
 have h3:=neg a ha
 have h4:=neg b hb
 have la:(words a.val.natAbs).length≤a.bw.length:=aJ a
 have lb:(words b.val.natAbs).length≤b.bw.length:=aJ b
 have ht:=times (words a.val.natAbs) (words b.val.natAbs) (by omega) (by omega)
 rw[au,au] at ht
 have hl:(words (a.val.natAbs*b.val.natAbs)).length≤(words a.val.natAbs).length+(words b.val.natAbs).length:=by
  have:=cK a.val b.val
  unfold wl at this
  rw[Int.natAbs_mul] at this;exact this
 have hw:=form (!(decide (a.val<0)==decide (b.val<0))) (words (a.val.natAbs*b.val.natAbs)) (by omega)
 rw[au] at hw
 have e:(bif !(decide (a.val<0)==decide (b.val<0)) then -((a.val.natAbs*b.val.natAbs:Nat):Int) else ((a.val.natAbs*b.val.natAbs:Nat):Int))=a.val*b.val:=by
  by_cases h:a.val<0<;>by_cases h':b.val<0<;>simp only[h,h',decide_true,decide_false,beq_self_eq_true,Bool.not_true,cond_false,Bool.not_false,cond_true,show(true==false)=false from rfl,show(false==true)=false from rfl]
  ·rw[←Int.natAbs_mul,Int.natAbs_of_nonneg (Int.mul_nonneg_of_nonpos_of_nonpos (by omega) (by omega))]
  ·rw[←Int.natAbs_mul,Int.ofNat_natAbs_of_nonpos (Int.mul_nonpos_of_nonpos_of_nonneg (by omega) (by omega))];omega
  ·rw[←Int.natAbs_mul,Int.ofNat_natAbs_of_nonpos (Int.mul_nonpos_of_nonneg_of_nonpos (by omega) (by omega))];omega
  ·rw[←Int.natAbs_mul,Int.natAbs_of_nonneg (Int.mul_nonneg (by omega) (by omega))]
 rw[e] at hw
 exact kK.e0 a b _ _ _ _ _ _ h3 h4 h1 h2 ht hw
theorem Of(n:Int)(h:ar n):Cp 72 [vI n] (Sym.whole n).pv:=by
 obtain⟨g1,g2⟩:=h
 have DG:(2:Nat)^min 32 64=4294967296:=by decide
 have key:∀m:Nat,m=n.natAbs→∃w w1:UInt32,m%4294967296=w.toNat∧m/4294967296%4294967296=w1.toNat∧Cp 91 [(vB (decide (n<0))),(aa [w,w1])] (Sym.whole n).pv:=by
  intro m hm
  obtain⟨w,hw⟩:=dX (m%4294967296) (by omega)
  obtain⟨w1,F7⟩:=dX (m/4294967296%4294967296) (by omega)
  refine⟨w,w1,hw.symm,F7.symm,?_⟩
  have:=form (decide (n<0)) [w,w1] (by simp)
  have e:nat [w,w1]=m:=by simp only[nat,hw,F7];omega
  rw[e,hm] at this
  have e2:(bif decide (n<0) then -(n.natAbs:Int) else (n.natAbs:Int))=n:=by
   by_cases h:n<0
   ·simp[h];omega
   ·simp[h];omega
  rw[e2] at this;exact this
 by_cases hn:n<0
 ·obtain⟨w,w1,q1,q2,q3⟩:=key n.natAbs rfl
  exact iE.e0 n (n%18446744073709551616).toNat n.natAbs w _ w1 _ (by omega) hn (by omega) q1 (by rw[DG]) q2 q3
 ·obtain⟨w,w1,q1,q2,q3⟩:=key n.natAbs rfl
  exact iE.e1 n n.natAbs w _ w1 _ (by omega) (by omega) q1 (by rw[DG]) q2 q3
theorem Div(a b:aj)(ha:Fit a.bw)(hb:Fit b.bw)(h0:b.val≠0) :
  Cp 99 [a.pv,b.pv] (.aY [(Sym.whole (a.val/b.val)).pv,(Sym.whole (a.val%b.val)).pv,vI 0]):=by
 have h1:=bw a ha
 have h2:=bw b hb
 have h3:=neg a ha
 have h4:=neg b hb
 have la:(words a.val.natAbs).length≤a.bw.length:=aJ a
 have lb:(words b.val.natAbs).length≤b.bw.length:=aJ b
 have Mb:=Sign b hb
 have Cb:kq b.val≠0:=by unfold kq bX;split<;>(try split)<;>omega
 have Gl:0<b.val.natAbs:=by omega
 have hd:=nv (words a.val.natAbs) (words b.val.natAbs) (dY _) (by rw[au];omega) (by omega) (by omega)
 rw[au,au] at hd
 have hq:=cd (Nat.div_le_self a.val.natAbs b.val.natAbs)
 have hr:=cd (Nat.le_of_lt (Nat.mod_lt a.val.natAbs Gl))
 have yH:=Nat.div_add_mod a.val.natAbs b.val.natAbs
 have LQ:=Nat.mod_lt a.val.natAbs Gl
 generalize hQ:a.val.natAbs/b.val.natAbs=q at *
 generalize hR:a.val.natAbs%b.val.natAbs=r at *
 have sb:b.val=if b.val<0 then -(b.val.natAbs:Int) else (b.val.natAbs:Int):=by split<;>omega
 have uniq:∀x y:Int,a.val=b.val*x+y→0≤y→y<b.val.natAbs→a.val/b.val=x∧a.val%b.val=y:=by
  intro x y e1 e2 e3
  rcases Int.lt_or_gt_of_ne h0 with cQ|cQ
  ·exact(Int.ediv_emod_unique' cQ).2 ⟨by omega,e2,by omega⟩
  ·exact(Int.ediv_emod_unique cQ).2 ⟨by omega,e2,by omega⟩
 by_cases hn:a.val<0
 ·by_cases B5:r=0
  ·have hw:=form (!(decide (a.val<0)==decide (b.val<0))) (words q) (by omega)
   have vk:=form false (words r) (by omega)
   rw[au] at hw vk
   subst B5
   have e:a.val/b.val=(bif !(decide (a.val<0)==decide (b.val<0)) then -(q:Int) else (q:Int))∧a.val%b.val=0:=by
    refine uniq _ 0 ?_ (by omega) (by omega)
    have og:(a.val.natAbs:Int)=(b.val.natAbs:Int)*q:=by rw[←yH];simp
    by_cases h':b.val<0
    ·simp only[hn,h',decide_true,beq_self_eq_true,Bool.not_true,cond_false]
     have:(b.val.natAbs:Int) = -b.val:=by omega
     rw[this] at og
     have:(a.val.natAbs:Int) = -a.val:=by omega
     rw[this,Int.neg_mul] at og
     omega
    ·simp only[hn,h',decide_true,decide_false,show(true==false)=false from rfl,Bool.not_false,cond_true]
     have:(b.val.natAbs:Int)=b.val:=by omega
     rw[this] at og
     have:(a.val.natAbs:Int) = -a.val:=by omega
     rw[this] at og
     rw[Int.mul_neg];omega
   rw[e.1,e.2]
   exact eY.e2 a b _ _ _ _ _ _ _ _ _ _ Mb Cb h1 h2 hd h3 (decide_eq_true hn) (by rw[cJ];simp) h3 h4 hw vk
  ·have hp:=plus (words q) [1] (by omega) (by simp)
   have hl:=minus (words b.val.natAbs) (words r) (by omega) (by rw[au,au];omega)
   rw[au] at hp
   rw[au,au] at hl
   have e1:nat [1]=1:=rfl
   rw[e1] at hp
   have El:=cx (n:=q+1) (k:=(words q).length+1) (by have:=fJ q;rw[Nat.pow_succ];omega)
   have IE:=cd (show b.val.natAbs-r≤b.val.natAbs by omega)
   have hw:=form (!(decide (a.val<0)==decide (b.val<0))) (words (q+1)) (by omega)
   have vk:=form false (words (b.val.natAbs-r)) (by omega)
   rw[au] at hw vk
   have e:a.val/b.val=(bif !(decide (a.val<0)==decide (b.val<0)) then -((q+1:Nat):Int) else ((q+1:Nat):Int))∧a.val%b.val=((b.val.natAbs-r:Nat):Int):=by
    refine uniq _ _ ?_ (by omega) (by omega)
    have og:(a.val.natAbs:Int)=(b.val.natAbs:Int)*q+r:=by rw[←yH];simp
    by_cases h':b.val<0
    ·simp only[hn,h',decide_true,beq_self_eq_true,Bool.not_true,cond_false]
     have e5:(b.val.natAbs:Int) = -b.val:=by omega
     rw[e5] at og
     have:(a.val.natAbs:Int) = -a.val:=by omega
     rw[this,Int.neg_mul] at og
     rw[show ((q+1:Nat):Int)=(q:Int)+1 from by omega,Int.mul_add]
     omega
    ·simp only[hn,h',decide_true,decide_false,show(true==false)=false from rfl,Bool.not_false,cond_true]
     have:(b.val.natAbs:Int)=b.val:=by omega
     rw[this] at og
     have:(a.val.natAbs:Int) = -a.val:=by omega
     rw[this] at og
     rw[show ((q+1:Nat):Int)=(q:Int)+1 from by omega,Int.mul_neg,Int.mul_add];omega
   rw[e.1,e.2]
   exact eY.e1 a b _ _ _ _ _ _ _ _ _ _ _ _ _ Mb Cb h1 h2 hd h3 (decide_eq_true hn) (by have:=(bO (n:=r)).1;omega) hp h2 hl h3 h4 hw vk
 ·have hw:=form (!(decide (a.val<0)==decide (b.val<0))) (words q) (by omega)
  have vk:=form false (words r) (by omega)
  rw[au] at hw vk
  have e:a.val/b.val=(bif !(decide (a.val<0)==decide (b.val<0)) then -(q:Int) else (q:Int))∧a.val%b.val=(r:Int):=by
   refine uniq _ _ ?_ (by omega) (by omega)
   have og:(a.val.natAbs:Int)=(b.val.natAbs:Int)*q+r:=by rw[←yH];simp
   by_cases h':b.val<0
   ·simp only[hn,h',decide_true,decide_false,show(false==true)=false from rfl,Bool.not_false,cond_true]
    have e5:(b.val.natAbs:Int) = -b.val:=by omega
    rw[e5] at og
    have:(a.val.natAbs:Int)=a.val:=by omega
    rw[this,Int.neg_mul] at og
    rw[Int.mul_neg];omega
   ·simp only[hn,h',decide_false,beq_self_eq_true,Bool.not_true,cond_false]
    have:(b.val.natAbs:Int)=b.val:=by omega
    rw[this] at og
    have:(a.val.natAbs:Int)=a.val:=by omega
    rw[this] at og
    omega
  rw[e.1,e.2]
  exact eY.e3 a b _ _ _ _ _ _ _ _ _ _ Mb Cb h1 h2 hd h3 (decide_eq_false hn) h3 h4 hw vk
theorem FB(a b:aj)(ha:a.bw.length<1099511627776)(hb:b.bw.length<1099511627776):Cp 57 [a.pv,b.pv] (vI (bX a.val b.val)):=by
 have h1:=Sub a b (by omega) (by omega)
 have h2:=Sign (Sym.whole (a.val-b.val)) (by
  have g1:=ui a.val (-b.val)
  have g2:=aJ a
  have g3:=aJ b
  rw[gB,←Int.sub_eq_add_neg] at g1
  show wl (a.val-b.val)≤_
  omega)
 rw[ax] at h2
 have e:kq (a.val-b.val)=bX a.val b.val:=by
  unfold kq bX
  split<;>split<;>(try split)<;>(try split)<;>omega
 rw[←e]
 exact kI.e0 a b _ _ h1 h2
theorem Gcd(a b:aj)(ha:Fit a.bw)(hb:Fit b.bw):Cp 63 [a.pv,b.pv] (Sym.whole (Nat.gcd a.val.natAbs b.val.natAbs)).pv:=by
 have la:(words a.val.natAbs).length≤a.bw.length:=aJ a
 have lb:(words b.val.natAbs).length≤b.bw.length:=aJ b
 have hg:=gcd (words a.val.natAbs) (words b.val.natAbs) (by omega) (by omega)
 rw[au,au] at hg
 have hl:(words (Nat.gcd a.val.natAbs b.val.natAbs)).length≤1099511627776:=by
  by_cases h:b.val.natAbs=0
  ·rw[h,Nat.gcd_zero_right];omega
  ·exact sG (by omega) (by omega)
 have hw:=form false (words (Nat.gcd a.val.natAbs b.val.natAbs)) (by omega)
 rw[au] at hw
 exact kJ.e0 a b _ _ _ _ (bw a ha) (bw b hb) hg hw
end qn
end Go.Proofs.YtnjhplhbmapclaaGreatDoor.Sym
namespace Go.Proofs.YtnjhplhbmapclaaGreatDoor.Sym
open ct
set_option linter.unusedVariables false
def ae.valid(a:ae):Bool :=
 bif a.num.isEmpty&&a.den.isEmpty then !a.neg else !a.num.isEmpty&&(!a.den.isEmpty&&(cn a.num&&(cn a.den&&Nat.beq (Nat.gcd (nat a.num) (nat a.den)) 1)))
def ae.val(a:ae):Rat:=bif a.valid && !a.num.isEmpty then Rat.divInt (bif a.neg then -(nat a.num:Int) else (nat a.num:Int)) (nat a.den:Int) else 0
def ba(q:Rat):ae:=bif q.num.natAbs.beq 0 then ⟨false,[],[]⟩ else ⟨decide (q.num<0),words q.num.natAbs,words q.den⟩
theorem beq_iff{a b:Nat} : Nat.beq a b=true↔a=b:=⟨Nat.eq_of_beq_eq_true,fun h=>by subst h;exact Nat.beq_refl a⟩
theorem iP{a b:Nat} : Nat.beq a b=false↔a≠b:=by
 constructor
 ·intro h e;rw[beq_iff.2 e] at h;cases h
 ·intro h
  cases hb:Nat.beq a b with
  |true=>exact absurd (beq_iff.1 hb) h
  |false=>rfl
theorem pY:ba 0=⟨false,[],[]⟩:=rfl
theorem mo{q:Rat}(h:q≠0):ba q=⟨decide (q.num<0),words q.num.natAbs,words q.den⟩:=by
 unfold ba
 rw[iP.2 (by intro e;exact h (Rat.num_eq_zero.1 (by omega))),cond_false]
theorem uZ{n:Nat} : (words n).isEmpty=Nat.beq n 0:=by
 by_cases h:n=0
 ·subst h;rfl
 ·rw[iP.2 h,bP]
  rw[decide_eq_false (by rw[bO];exact h)]
theorem q6(q:Rat):(ba q).valid=true:=by
 by_cases h:q=0
 ·subst h;rfl
 ·rw[mo h]
  unfold ae.valid
  have h1:q.num.natAbs≠0:=by intro e;exact h (Rat.num_eq_zero.1 (by omega))
  simp only[uZ,iP.2 h1,iP.2 q.den_nz,Bool.and_self,Bool.not_false,cond_false,dY,au,Bool.true_and]
  exact beq_iff.2 q.reduced
theorem jc{a:ae}(hv:a.valid=true)(h0:a.num≠[]):a.den≠[]∧cn a.num=true∧cn a.den=true∧Nat.gcd (nat a.num) (nat a.den)=1:=by
 have h1:a.num.isEmpty=false:=by cases h:a.num with
  |nil=>exact absurd h h0
  |cons=>rfl
 unfold ae.valid at hv
 rw[h1,Bool.false_and,cond_false,Bool.not_false,Bool.true_and] at hv
 simp only[Bool.and_eq_true] at hv
 obtain⟨g1,g2,g3,g4⟩:=hv
 refine⟨?_,g2,g3,beq_iff.1 g4⟩
 intro e;rw[e] at g1;cases g1
theorem z8{a:ae}(hv:a.valid=true)(h0:a.num=[]):a=⟨false,[],[]⟩:=by
 obtain⟨n,m,d⟩:=a
 subst h0
 unfold ae.valid at hv
 cases d with
 |nil=>cases n with
  |false=>rfl
  |true=>cases hv
 |cons=>cases hv
theorem nQ{a:ae}(hv:a.valid=true)(h0:a.num≠[]):a.val.num=(bif a.neg then -(nat a.num:Int) else (nat a.num:Int))∧a.val.den=nat a.den:=by
 obtain⟨g1,g2,g3,g4⟩:=jc hv h0
 have h1:a.num.isEmpty=false:=by cases h:a.num with
  |nil=>exact absurd h h0
  |cons=>rfl
 have hd:=k9 g3 g1
 unfold ae.val
 rw[hv,h1,Bool.not_false,Bool.and_self,cond_true,Rat.divInt_ofNat]
 have hr:Nat.Coprime (bif a.neg then -(nat a.num:Int) else (nat a.num:Int)).natAbs (nat a.den):=by
  cases a.neg<;>simp<;>exact g4
 rw[←Rat.mk_eq_mkRat _ _ (by omega) hr]
 exact⟨rfl,rfl⟩
theorem H0{a:ae}(hv:a.valid=true)(h0:a.num≠[]):a.val≠0:=by
 obtain⟨g1,g2,g3,g4⟩:=jc hv h0
 have:=k9 g2 h0
 intro e
 have h:=(nQ hv h0).1
 rw[e] at h
 have h:(0:Int)=_:=h
 cases hn:a.neg<;>rw[hn] at h<;>simp at h<;>omega
theorem wV{a:ae}(hv:a.valid=false):a.val=0:=by unfold ae.val;rw[hv];rfl
theorem nR{a:ae}(h:a.num=[]):a.val=0:=by unfold ae.val;rw[h];simp
theorem wW{a:ae}(hv:a.valid=true):ba a.val=a:=by
 by_cases h0:a.num=[]
 ·rw[nR h0,z8 hv h0];rfl
 ·obtain⟨g1,g2,g3,g4⟩:=jc hv h0
  have hp:=k9 g2 h0
  obtain⟨e1,e2⟩:=nQ hv h0
  rw[mo (H0 hv h0),e1,e2,cI g3]
  obtain⟨n,m,d⟩:=a
  cases n
  ·simp only[cond_false,Int.natAbs_natCast,cI g2,ae.mk.injEq,and_true,decide_eq_false_iff_not]
   omega
  ·simp only[cond_true,Int.natAbs_neg,Int.natAbs_natCast,cI g2,ae.mk.injEq,and_true,decide_eq_true_eq]
   simp only at hp
   omega
theorem FC{p q:Rat}(h:ba p=ba q):p=q:=by
 by_cases hp:p=0
 ·subst hp
  by_cases hq:q=0
  ·exact hq.symm
  ·rw[pY,mo hq] at h
   injection h with _ h _
   have:=nM.1 h.symm
   exact absurd (Rat.num_eq_zero.1 (by omega)) hq
 ·by_cases hq:q=0
  ·subst hq
   rw[pY,mo hp] at h
   injection h with _ h _
   have:=nM.1 h
   exact absurd (Rat.num_eq_zero.1 (by omega)) hp
  ·rw[mo hp,mo hq] at h
   injection h with h1 h2 h3
   have h2:=congrArg nat h2
   have h3:=congrArg nat h3
   rw[au,au] at h2 h3
   refine Rat.ext ?_ h3
   by_cases h:p.num<0
   ·have:q.num<0:=by simpa[h] using h1.symm
    omega
   ·have:¬q.num<0:=by simpa[h] using h1.symm
    omega
theorem cu(q:Rat):(ba q).val=q:=FC (wW (q6 q))
def ht(q:Rat):Nat:=max (wl q.num) (wl (q.den:Int))
abbrev kh(a:ae):Prop:=a.num.length≤274877906944∧a.den.length≤274877906944
theorem im:ht 0=1:=by decide
theorem Aa(q:Rat):1≤ht q:=by
 have h:(words q.den).length≠0:=by rw[Ne,bO];exact q.den_nz
 have:wl (q.den:Int)≤ht q:=Nat.le_max_right _ _
 have h2:wl (q.den:Int)=(words q.den).length:=rfl
 omega
theorem dK(q:Rat):wl q.num≤ht q:=Nat.le_max_left _ _
theorem eA(q:Rat):wl (q.den:Int)≤ht q:=Nat.le_max_right _ _
theorem iq{q:Rat}(h:ht q≤274877906944):kh (ba q):=by
 by_cases h0:q=0
 ·subst h0;constructor<;>simp[pY]
 ·rw[mo h0]
  exact⟨Nat.le_trans (dK q) h,Nat.le_trans (eA q) h⟩
theorem fm{a:ae}{k:Nat}(h1:a.num.length≤k)(h2:a.den.length≤k)(hk:1≤k):ht a.val≤k:=by
 by_cases hv:a.valid=true
 ·by_cases h0:a.num=[]
  ·rw[nR h0,im];exact hk
  ·obtain⟨g1,g2,g3,g4⟩:=jc hv h0
   obtain⟨e1,e2⟩:=nQ hv h0
   unfold ht
   rw[e1,e2]
   refine Nat.max_le.2 ⟨?_,?_⟩
   ·have e:(bif a.neg then -(nat a.num:Int) else (nat a.num:Int)).natAbs=nat a.num:=by cases a.neg<;>simp
    show(words _).length≤k
    rw[e,cI g2];exact h1
   ·show(words _).length≤k
    rw[Int.natAbs_natCast,cI g3];exact h2
 ·rw[wV (by simpa using hv),im];exact hk
theorem oY{i j:Int}(h:i.natAbs≤j.natAbs):wl i≤wl j:=cd h
theorem q7(n d:Int):ht (Rat.divInt n d)≤max (wl n) (max (wl d) 1):=by
 by_cases hd:d=0
 ·subst hd
  rw[Rat.divInt_zero,im];omega
 ·unfold ht
  refine Nat.max_le.2 ⟨Nat.le_trans (oY ?_) (Nat.le_max_left _ _),Nat.le_trans (oY (j:=d) ?_) (Nat.le_trans (Nat.le_max_left _ _) (Nat.le_max_right _ _))⟩
  ·rw[Rat.num_divInt]
   have h1:=Int.natAbs_ediv_of_dvd (a:=d.sign*n) (b:=(d.gcd n:Int)) (by
    exact Int.dvd_mul_of_dvd_right (Int.gcd_dvd_right d n))
   rw[h1,Int.natAbs_mul,Int.natAbs_sign_of_ne_zero hd,Nat.one_mul]
   exact Nat.div_le_self _ _
  ·rw[Rat.den_divInt,if_neg hd,Int.natAbs_natCast]
   exact Nat.div_le_self _ _
theorem H2:wl 1=1:=rfl
theorem yh(n:Int)(d:Nat):ht (mkRat n d)≤max (wl n) (max (wl (d:Int)) 1):=by
 rw[←Rat.divInt_ofNat];exact q7 n d
theorem Ab(a:Rat):ht (-a)=ht a:=by
 unfold ht
 rw[Rat.neg_num,gB,Rat.neg_den]
theorem ki(a b:Rat):ht (a*b)≤ht a+ht b:=by
 rw[Rat.mul_def']
 have h1:=yh (a.num*b.num) (a.den*b.den)
 have h2:=cK a.num b.num
 have h3:=cK (a.den:Int) (b.den:Int)
 have h4:=dK a
 have h5:=eA a
 have h6:=dK b
 have h7:=eA b
 have h8:=Aa a
 rw[←Int.natCast_mul] at h3
 omega
theorem uk(a b:Rat):ht (a+b)≤ht a+ht b+1:=by
 rw[Rat.add_def']
 have h1:=yh (a.num*b.den+b.num*a.den) (a.den*b.den)
 have h2:=cK a.num b.den
 have h3:=cK b.num a.den
 have h9:=ui (a.num*b.den) (b.num*a.den)
 have cL:=cK (a.den:Int) (b.den:Int)
 have h4:=dK a
 have h5:=eA a
 have h6:=dK b
 have h7:=eA b
 have h8:=Aa a
 rw[←Int.natCast_mul] at cL
 omega
theorem Ac(a b:Rat):ht (a-b)≤ht a+ht b+1:=by
 rw[Rat.sub_eq_add_neg,←Ab b];exact uk a (-b)
theorem H3(a:Rat):ht a⁻¹≤ht a:=by
 rw[Rat.inv_def]
 have h1:=q7 (a.den:Int) a.num
 have h4:=dK a
 have h5:=eA a
 have h8:=Aa a
 omega
theorem wX(a b:Rat):ht (a/b)≤ht a+ht b:=by
 rw[Rat.div_def]
 have:=ki a b⁻¹
 have:=H3 b
 omega
theorem DP(n:Int):ht (n:Rat)=max (wl n) 1:=by
 unfold ht
 rw[Rat.num_intCast,Rat.den_intCast];rfl
def oZ(p q:Rat):Int:=if p<q then -1 else if p=q then 0 else 1
theorem DQ(p q:Rat):bX (p.num*q.den) (q.num*p.den)=oZ p q:=by
 unfold bX oZ
 have h1:=Rat.lt_iff p q
 have h2:p=q↔p.num*q.den=q.num*p.den:=by
  constructor
  ·intro h;subst h;rfl
  ·intro h
   have g1:=(Rat.le_iff p q).2 (by omega)
   have g2:=(Rat.le_iff q p).2 (by omega)
   exact Rat.le_antisymm g1 g2
 simp only[h1,h2]
theorem H4(p:Rat):p.num<0↔p<0:=by
 rw[Rat.lt_iff]
 simp
theorem DR(p q:Rat):kq (p-q).num=oZ p q:=by
 unfold kq bX oZ
 have h1:(p-q).num<0↔p<q:=by
  rw[H4];constructor<;>intro h<;>grind
 have h2:(p-q).num=0↔p=q:=by
  rw[Rat.num_eq_zero];constructor<;>intro h<;>grind
 simp only[h1,h2]
theorem vz(p:Rat):kq p.num=oZ p 0:=by
 have:=DR p 0
 rwa[show p-0=p from by grind] at this
theorem dR{p q:Rat} : oZ p q=0↔p=q:=by
 unfold oZ;split
 ·rename_i h;constructor
  ·intro h;cases h
  ·intro e;subst e;exact absurd h (Rat.lt_irrefl)
 ·split
  ·simp_all
  ·simp_all
theorem wY{n d:Int}(hd:0<d)(g:Nat)(hg:g=Nat.gcd n.natAbs d.natAbs):(Rat.divInt n d).num=n/(g:Int)∧((Rat.divInt n d).den:Int)=d/(g:Int):=by
 have e:d.gcd n=g:=by rw[hg,Nat.gcd_comm];rfl
 refine⟨?_,?_⟩
 ·rw[Rat.num_divInt,e,Int.sign_eq_one_of_pos hd,Int.one_mul]
 ·rw[Rat.den_divInt,if_neg (by omega),e,Int.natCast_ediv,Int.natAbs_of_nonneg (by omega)]
open Go Path
theorem yi{a:ae}(h1:a.num.length=0)(h2:a.den.length=0):a.valid = !a.neg:=by
 unfold ae.valid;rw[bP,bP,decide_eq_true h1,decide_eq_true h2];rfl
theorem yj{a:ae}(h1:a.num.length=0)(h2:a.den.length≠0):a.valid=false:=by
 unfold ae.valid;rw[bP,bP,decide_eq_true h1,decide_eq_false h2];rfl
theorem yk{a:ae}(h1:a.num.length≠0)(h2:a.den.length=0):a.valid=false:=by
 unfold ae.valid;rw[bP,bP,decide_eq_false h1,decide_eq_true h2];rfl
theorem yl{a:ae}(h1:a.num.length≠0)(h2:a.den.length≠0):a.valid=(cn a.num&&(cn a.den&&Nat.beq (Nat.gcd (nat a.num) (nat a.den)) 1)):=by
 unfold ae.valid;rw[bP,bP,decide_eq_false h1,decide_eq_false h2];rfl
theorem o0{m:Words}(h:m.length≠0):(⟨false,m⟩:aj).valid=cn m:=by
 unfold aj.valid
 rw[bP,decide_eq_false h];rfl
theorem pZ{m:Words}(h:m.length≠0)(hc:cn m=true):(⟨false,m⟩:aj).val=(nat m:Int):=by
 unfold aj.val
 rw[o0 h,hc];rfl
theorem A5(g:Nat):(bX (g:Int) 1==0)=Nat.beq g 1:=by
 by_cases h:g=1
 ·subst h;rfl
 ·rw[iP.2 h]
  unfold bX
  split
  ·rfl
  ·rw[if_neg (by omega)];rfl
theorem ym{a:ae}(hv:a.valid=true)(h0:a.num.length≠0):Sym.whole a.val.num=⟨a.neg,a.num⟩∧Sym.whole (a.val.den:Int)=⟨false,a.den⟩:=by
 have Mc:a.num≠[]:=by intro e;rw[e] at h0;exact h0 rfl
 obtain⟨g1,g2,g3,g4⟩:=jc hv Mc
 obtain⟨e1,e2⟩:=nQ hv Mc
 have hp:=k9 g2 Mc
 rw[e1,e2]
 refine⟨?_,?_⟩
 ·unfold Sym.whole
  cases hn:a.neg
  ·simp only[cond_false,Int.natAbs_natCast,cI g2,aj.mk.injEq,and_true,decide_eq_false_iff_not];omega
  ·simp only[cond_true,Int.natAbs_neg,Int.natAbs_natCast,cI g2,aj.mk.injEq,and_true,decide_eq_true_eq];omega
 ·unfold Sym.whole
  simp only[Int.natAbs_natCast,cI g3,aj.mk.injEq,and_true,decide_eq_false_iff_not];omega
theorem q8{a b:Int}{k:Nat}(ha:wl a≤k)(hb:wl b≤k):wl ((Nat.gcd a.natAbs b.natAbs:Nat):Int)≤k:=by
 by_cases h:b=0
 ·subst h
  rw[Int.natAbs_zero,Nat.gcd_zero_right]
  show(words _).length≤k
  rw[Int.natAbs_natCast];exact ha
 ·exact Nat.le_trans (oY (by rw[Int.natAbs_natCast];exact Nat.le_of_dvd (by omega) (Nat.gcd_dvd_right _ _))) hb
theorem formed{n d:Int}(hn:n≠0)(hd:0<d)(g:Nat)(hg:g=Nat.gcd n.natAbs d.natAbs):ba (Rat.divInt n d)=⟨decide (n/(g:Int)<0),(Sym.whole (n/(g:Int))).bw,(Sym.whole (d/(g:Int))).bw⟩:=by
 obtain⟨e1,e2⟩:=wY (n:=n) hd g hg
 have fP:Rat.divInt n d≠0:=by
  intro e
  rw[e] at e1
  have e1:(0:Int)=n/(g:Int):=e1
  have h1:(g:Int)∣n:=by rw[hg];exact Int.ofNat_dvd_left.2 (Nat.gcd_dvd_left _ _)
  have:=Int.ediv_mul_cancel h1
  rw[←e1] at this
  omega
 rw[mo fP,e1]
 unfold Sym.whole
 simp only[ae.mk.injEq,true_and]
 rw[←e2,Int.natAbs_natCast]
theorem um{n:Int}(hn:n≠0)(g:Nat)(hg:g∣n.natAbs):decide (n/(g:Int)<0)=decide (n<0)∧(n/(g:Int)).natAbs=((n.natAbs:Int)/(g:Int)).natAbs:=by
 have h1:(g:Int)∣n:=Int.ofNat_dvd_left.2 hg
 have h2:=Int.ediv_mul_cancel h1
 have zX:0<g:=Nat.pos_of_dvd_of_pos hg (by omega)
 refine⟨?_,?_⟩
 ·congr 1
  refine propext ⟨fun h => ?_,fun h => ?_⟩
  ·have:=Int.mul_neg_of_neg_of_pos h (show (0:Int)<g by omega)
   omega
  ·exact Int.ediv_neg_of_neg_of_pos h (by omega)
 ·rw[Int.natAbs_ediv_of_dvd h1,Int.natAbs_natCast,←Int.natCast_ediv,Int.natAbs_natCast]
namespace rM
theorem one:Cp 49 [] (Sym.whole 1).pv:=pR.e0 _ (ct.Of 1 (by unfold ar;omega))
theorem Valid(a:ae)(h:kh a):Cp 27 [a.pv] (vB a.valid):=by
 obtain⟨l1,l2⟩:=h
 by_cases h1:a.num.length=0
 ·by_cases h2:a.den.length=0
  ·rw[yi h1 h2];exact dp.e0 a h1 h2
  ·rw[yj h1 h2];exact dp.e1 a h1 h2
 ·by_cases h2:a.den.length=0
  ·rw[yk h1 h2];exact dp.e2 a h1 h2
  ·rw[yl h1 h2]
   have v1:=ct.Valid ⟨false,a.num⟩ (show a.num.length≤_ by omega)
   have v2:=ct.Valid ⟨false,a.den⟩ (show a.den.length≤_ by omega)
   rw[o0 h1] at v1
   rw[o0 h2] at v2
   cases yI:cn a.num with
   |false=>rw[Bool.false_and];exact dp.e3 a _ h1 h2 v1 yI
   |true =>
    rw[Bool.true_and]
    cases C7:cn a.den with
    |false=>rw[Bool.false_and];exact dp.e4 a _ _ h1 h2 v1 yI v2 C7
    |true =>
     have hg:=ct.Gcd ⟨false,a.num⟩ ⟨false,a.den⟩ (show a.num.length≤_ by omega) (show a.den.length≤_ by omega)
     rw[pZ h1 yI,pZ h2 C7,Int.natAbs_natCast,Int.natAbs_natCast] at hg
     have gl:=q8 (a:=(nat a.num:Int)) (b:=(nat a.den:Int)) (k:=274877906944) (by show(words _).length≤_;rw[Int.natAbs_natCast,cI yI];exact l1) (by show(words _).length≤_;rw[Int.natAbs_natCast,cI C7];exact l2)
     rw[Int.natAbs_natCast,Int.natAbs_natCast] at gl
     have hc:=ct.FB (Sym.whole (Nat.gcd (nat a.num) (nat a.den):Nat)) (Sym.whole 1) (show wl _≤_ by omega) (show wl 1≤_ by decide)
     rw[ax,ax] at hc
     rw[Bool.true_and,←A5]
     exact dp.e5 a _ _ _ _ _ h1 h2 v1 yI v2 C7 hg one hc
theorem jB(a:ae)(h:kh a):Cp 46 [a.pv] (.aY [(Sym.whole a.val.num).pv,(Sym.whole (a.val.den:Int)).pv]):=by
 have hv:=Valid a h
 cases hc:a.valid with
 |false=>rw[wV hc];exact ij.e0 a _ _ hv hc one
 |true =>
  by_cases h0:a.num.length=0
  ·rw[nR (List.eq_nil_of_length_eq_zero h0)];exact ij.e1 a _ _ hv hc h0 one
  ·obtain⟨e1,e2⟩:=ym hc h0
   rw[e1,e2]
   exact ij.e2 a _ hv hc h0 (by have:=h.1;simp;omega) (by have:=h.2;simp;omega)
theorem form(n d:aj)(hn:n.bw.length≤1099511627776)(hd:d.bw.length≤1099511627776)(h0:d.val≠0):Cp 65 [n.pv,d.pv] (ba (Rat.divInt n.val d.val)).pv:=by
 have sn:=ct.Sign n hn
 have sd:=ct.Sign d hd
 have wn:=aJ n
 have OV:=aJ d
 by_cases hz:n.val=0
 ·rw[hz,Rat.zero_divInt]
  exact eO.e0 n d _ sn (by rw[hz];rfl)
 ·have xK:kq n.val≠0:=by unfold kq bX;split<;>(try split)<;>omega
  by_cases hneg:d.val<0
  ·have e:Rat.divInt n.val d.val=Rat.divInt (-n.val) (-d.val):=by rw[Rat.divInt_neg',Int.neg_neg]
   have n1:=ct.Neg n hn
   have d1:=ct.Neg d hd
   have l1:(Sym.whole (-n.val)).bw.length≤1099511627776:=by show wl _≤_;rw[gB];omega
   have l2:(Sym.whole (-d.val)).bw.length≤1099511627776:=by show wl _≤_;rw[gB];omega
   have g:=ct.Gcd _ _ l1 l2
   rw[ax,ax] at g
   have uY:=q8 (a := -n.val) (b := -d.val) (k:=1099511627776) (by rw[gB];omega) (by rw[gB];omega)
   have s2:=ct.Sign _ l1
   rw[ax] at s2
   rw[e,formed (by omega) (by omega) _ rfl]
   obtain⟨f1,f2⟩:=um (n := -n.val) (by omega) (Nat.gcd (-n.val).natAbs (-d.val).natAbs) (Nat.gcd_dvd_left _ _)
   have zX:((Nat.gcd (-n.val).natAbs (-d.val).natAbs:Nat):Int)≠0:=by
    have:=Nat.gcd_pos_of_pos_left (-d.val).natAbs (show 0<(-n.val).natAbs by omega)
    omega
   rw[f1,show(Sym.whole (-n.val/((Nat.gcd (-n.val).natAbs (-d.val).natAbs:Nat):Int))).bw=(Sym.whole (((-n.val).natAbs:Int)/((Nat.gcd (-n.val).natAbs (-d.val).natAbs:Nat):Int))).bw from by unfold Sym.whole;rw[f2]]
   generalize hG:((Nat.gcd (-n.val).natAbs (-d.val).natAbs:Nat):Int)=G at *
   have dd:=ct.Div (Sym.whole (-d.val)) (Sym.whole G) l2 uY (by rw[ax];exact zX)
   rw[ax,ax] at dd
   by_cases hs : -n.val<0
   ·have n2:=ct.Neg _ l1
    rw[ax] at n2
    have dn:=ct.Div (Sym.whole (- -n.val)) (Sym.whole G) (by show wl _≤_;rw[gB,gB];omega) uY (by rw[ax];exact zX)
    rw[ax,ax] at dn
    rw[show ((-n.val).natAbs:Int) = - -n.val from by omega]
    have:=eO.e1 n d _ _ _ _ _ _ _ _ _ none _ _ none sn xK sd (by unfold kq bX;rw[if_pos hneg];omega) n1 d1 g s2 (by unfold kq bX;rw[if_pos hs];omega) n2 dn dd
    rw[show decide (kq (-n.val)<0)=decide (-n.val<0) from by unfold kq bX;rw[if_pos hs,decide_eq_true hs];rfl] at this
    exact this
   ·have dn:=ct.Div (Sym.whole (-n.val)) (Sym.whole G) l1 uY (by rw[ax];exact zX)
    rw[ax,ax] at dn
    rw[show ((-n.val).natAbs:Int) = -n.val from by omega]
    have JI:kq (-n.val)=1:=by unfold kq bX;rw[if_neg hs,if_neg (by omega)]
    have:=eO.e2 n d _ _ _ _ _ _ _ _ none _ _ none sn xK sd (by unfold kq bX;rw[if_pos hneg];omega) n1 d1 g s2 (by rw[JI];omega) dn dd
    rw[show decide (kq (-n.val)<0)=decide (-n.val<0) from by rw[JI,decide_eq_false hs];rfl] at this
    exact this
  ·have g:=ct.Gcd _ _ hn hd
   have uY:=q8 (a:=n.val) (b:=d.val) (k:=1099511627776) (by omega) (by omega)
   rw[formed hz (by omega) _ rfl]
   obtain⟨f1,f2⟩:=um hz (Nat.gcd n.val.natAbs d.val.natAbs) (Nat.gcd_dvd_left _ _)
   have zX:((Nat.gcd n.val.natAbs d.val.natAbs:Nat):Int)≠0:=by
    have:=Nat.gcd_pos_of_pos_left d.val.natAbs (show 0<n.val.natAbs by omega)
    omega
   rw[f1,show(Sym.whole (n.val/((Nat.gcd n.val.natAbs d.val.natAbs:Nat):Int))).bw=(Sym.whole ((n.val.natAbs:Int)/((Nat.gcd n.val.natAbs d.val.natAbs:Nat):Int))).bw from by unfold Sym.whole;rw[f2]]
   generalize hG:((Nat.gcd n.val.natAbs d.val.natAbs:Nat):Int)=G at *
   have dd:=ct.Div d (Sym.whole G) hd uY (by rw[ax];exact zX)
   rw[ax] at dd
   have Kh:0≤kq d.val:=by unfold kq bX;rw[if_neg hneg];split<;>omega
   by_cases hs:n.val<0
   ·have n2:=ct.Neg _ hn
    have dn:=ct.Div (Sym.whole (-n.val)) (Sym.whole G) (by show wl _≤_;rw[gB];omega) uY (by rw[ax];exact zX)
    rw[ax,ax] at dn
    rw[show (n.val.natAbs:Int) = -n.val from by omega]
    have:=eO.e3 n d _ _ _ _ _ _ _ none _ _ none sn xK sd Kh g sn (by unfold kq bX;rw[if_pos hs];omega) n2 dn dd
    rw[show decide (kq n.val<0)=decide (n.val<0) from by unfold kq bX;rw[if_pos hs,decide_eq_true hs];rfl] at this
    exact this
   ·have dn:=ct.Div n (Sym.whole G) hn uY (by rw[ax];exact zX)
    rw[ax] at dn
    rw[show (n.val.natAbs:Int)=n.val from by omega]
    have JI:kq n.val=1:=by unfold kq bX;rw[if_neg hs,if_neg (by omega)]
    have:=eO.e4 n d _ _ _ _ _ _ none _ _ none sn xK sd Kh g sn (by rw[JI];omega) dn dd
    rw[show decide (kq n.val<0)=decide (n.val<0) from by rw[JI,decide_eq_false hs];rfl] at this
    exact this
theorem uo(n d:Int)(hn:wl n≤1099511627776)(hd:wl d≤1099511627776)(h0:d≠0):Cp 65 [(Sym.whole n).pv,(Sym.whole d).pv] (ba (Rat.divInt n d)).pv:=by
 have:=form (Sym.whole n) (Sym.whole d) hn hd (by rw[ax];exact h0)
 rwa[ax,ax] at this
theorem Md(n d:aj)(hn:n.bw.length≤1099511627776)(hd:d.bw.length≤1099511627776)(h0:d.val≠0):Cp 74 [n.pv,d.pv] (.aY [(ba (Rat.divInt n.val d.val)).pv,.bD]) :=
 ot.e1 n d _ _ (ct.Sign d hd) (by unfold kq bX;split<;>(try split)<;>omega) (form n d hn hd h0)
theorem Of(n:Int)(h:ar n):Cp 39 [vI n] (ba (n:Rat)).pv:=by
 have hw:wl n≤2:=uh (by unfold ar at h;omega)
 have:=uo n 1 (by omega) (by decide) (by omega)
 rw[show Rat.divInt n 1=(n:Rat) from by rw[Rat.divInt_eq_div];grind] at this
 exact rH.e0 n _ _ _ (ct.Of n h) one this
theorem Neg(a:ae)(h:kh a):Cp 45 [a.pv] (ba (-a.val)).pv:=by
 have hp:=jB a h
 have hh:=fm h.1 h.2 (by omega)
 have h1:=dK a.val
 have h2:=eA a.val
 have hn:=ct.Neg (Sym.whole a.val.num) (show wl _≤_ by omega)
 rw[ax] at hn
 have hf:=uo (-a.val.num) a.val.den (by rw[gB];omega) (by omega) (by have:=a.val.den_nz;omega)
 rw[←Rat.neg_divInt,Rat.num_divInt_den] at hf
 exact pQ.e0 a _ _ _ _ hp hn hf
theorem Sign(a:ae)(h:kh a):Cp 20 [a.pv] (vI (oZ a.val 0)):=by
 have hp:=jB a h
 have hh:=fm h.1 h.2 (by omega)
 have h1:=dK a.val
 have hs:=ct.Sign (Sym.whole a.val.num) (show wl _≤_ by omega)
 rw[ax,vz] at hs
 exact oq.e0 a _ _ _ hp hs
theorem Add(a b:ae)(ha:kh a)(hb:kh b):Cp 30 [a.pv,b.pv] (ba (a.val+b.val)).pv:=by
 have pa:=jB a ha
 have pb:=jB b hb
 have la:=fm ha.1 ha.2 (by omega)
 have lb:=fm hb.1 hb.2 (by omega)
 have h1:=dK a.val
 have h2:=eA a.val
 have h3:=dK b.val
 have h4:=eA b.val
 have m1:=ct.Mul (Sym.whole a.val.num) (Sym.whole (b.val.den:Int)) (show wl _≤_ by omega) (show wl _≤_ by omega)
 have m2:=ct.Mul (Sym.whole b.val.num) (Sym.whole (a.val.den:Int)) (show wl _≤_ by omega) (show wl _≤_ by omega)
 have m3:=ct.Mul (Sym.whole (a.val.den:Int)) (Sym.whole (b.val.den:Int)) (show wl _≤_ by omega) (show wl _≤_ by omega)
 rw[ax,ax] at m1 m2 m3
 have w1:=cK a.val.num b.val.den
 have w2:=cK b.val.num a.val.den
 have w3:=cK (a.val.den:Int) b.val.den
 have s:=ct.Add (Sym.whole (a.val.num*b.val.den)) (Sym.whole (b.val.num*a.val.den)) (show wl _≤_ by omega) (show wl _≤_ by omega)
 rw[ax,ax] at s
 have w4:=ui (a.val.num*b.val.den) (b.val.num*a.val.den)
 have hf:=uo (a.val.num*b.val.den+b.val.num*a.val.den) ((a.val.den:Int)*(b.val.den:Int)) (by omega) (by omega) (by
  have:=a.val.den_nz
  have:=b.val.den_nz
  exact Int.mul_ne_zero (by omega) (by omega))
 rw[←Int.natCast_mul,Rat.divInt_ofNat,←Rat.add_def',Int.natCast_mul] at hf
 exact pM.e0 a b _ _ _ _ _ _ _ _ _ pa pb m1 m2 s m3 hf
theorem Sub(a b:ae)(ha:kh a)(hb:kh b):Cp 42 [a.pv,b.pv] (ba (a.val-b.val)).pv:=by
 have hn:=Neg b hb
 have lb:=fm hb.1 hb.2 (by omega)
 have hs:=Add a (ba (-b.val)) ha (iq (by rw[Ab];exact lb))
 rw[cu,←Rat.sub_eq_add_neg] at hs
 exact pP.e0 a b _ _ hn hs
theorem Mul(a b:ae)(ha:kh a)(hb:kh b):Cp 71 [a.pv,b.pv] (ba (a.val*b.val)).pv:=by
 have pa:=jB a ha
 have pb:=jB b hb
 have la:=fm ha.1 ha.2 (by omega)
 have lb:=fm hb.1 hb.2 (by omega)
 have h1:=dK a.val
 have h2:=eA a.val
 have h3:=dK b.val
 have h4:=eA b.val
 have m1:=ct.Mul (Sym.whole a.val.num) (Sym.whole b.val.num) (show wl _≤_ by omega) (show wl _≤_ by omega)
 have m3:=ct.Mul (Sym.whole (a.val.den:Int)) (Sym.whole (b.val.den:Int)) (show wl _≤_ by omega) (show wl _≤_ by omega)
 rw[ax,ax] at m1 m3
 have w1:=cK a.val.num b.val.num
 have w3:=cK (a.val.den:Int) b.val.den
 have hf:=uo (a.val.num*b.val.num) ((a.val.den:Int)*(b.val.den:Int)) (by omega) (by omega) (by
  have:=a.val.den_nz
  have:=b.val.den_nz
  exact Int.mul_ne_zero (by omega) (by omega))
 rw[←Int.natCast_mul,Rat.divInt_ofNat,←Rat.mul_def',Int.natCast_mul] at hf
 exact pS.e0 a b _ _ _ _ _ _ _ pa pb m1 m3 hf
theorem Div(a b:ae)(ha:kh a)(hb:kh b)(h0:b.val≠0):Cp 41 [a.pv,b.pv] (.aY [(ba (a.val/b.val)).pv,.bD]):=by
 have pa:=jB a ha
 have pb:=jB b hb
 have la:=fm ha.1 ha.2 (by omega)
 have lb:=fm hb.1 hb.2 (by omega)
 have h1:=dK a.val
 have h2:=eA a.val
 have h3:=dK b.val
 have h4:=eA b.val
 have m1:=ct.Mul (Sym.whole a.val.num) (Sym.whole (b.val.den:Int)) (show wl _≤_ by omega) (show wl _≤_ by omega)
 have m3:=ct.Mul (Sym.whole (a.val.den:Int)) (Sym.whole b.val.num) (show wl _≤_ by omega) (show wl _≤_ by omega)
 rw[ax,ax] at m1 m3
 have w1:=cK a.val.num b.val.den
 have w3:=cK (a.val.den:Int) b.val.num
 have hf:=Md (Sym.whole (a.val.num*b.val.den)) (Sym.whole ((a.val.den:Int)*b.val.num)) (show wl _≤_ by omega) (show wl _≤_ by omega) (by
  rw[ax]
  have:=a.val.den_nz
  refine Int.mul_ne_zero (by omega) (fun e=>h0 (Rat.num_eq_zero.1 e)))
 rw[ax,ax,←Rat.divInt_mul_divInt,Rat.num_divInt_den,←Rat.inv_def,←Rat.div_def] at hf
 exact pO.e0 a b _ _ _ _ _ _ _ none pa pb m1 m3 hf
theorem FB(a b:ae)(ha:kh a)(hb:kh b):Cp 38 [a.pv,b.pv] (vI (oZ a.val b.val)):=by
 have pa:=jB a ha
 have pb:=jB b hb
 have la:=fm ha.1 ha.2 (by omega)
 have lb:=fm hb.1 hb.2 (by omega)
 have h1:=dK a.val
 have h2:=eA a.val
 have h3:=dK b.val
 have h4:=eA b.val
 have m1:=ct.Mul (Sym.whole a.val.num) (Sym.whole (b.val.den:Int)) (show wl _≤_ by omega) (show wl _≤_ by omega)
 have m2:=ct.Mul (Sym.whole b.val.num) (Sym.whole (a.val.den:Int)) (show wl _≤_ by omega) (show wl _≤_ by omega)
 rw[ax,ax] at m1 m2
 have w1:=cK a.val.num b.val.den
 have w2:=cK b.val.num a.val.den
 have hc:=ct.FB (Sym.whole (a.val.num*b.val.den)) (Sym.whole (b.val.num*a.val.den)) (show wl _≤_ by omega) (show wl _≤_ by omega)
 rw[ax,ax,DQ] at hc
 exact pN.e0 a b _ _ _ _ _ _ _ pa pb m1 m2 hc
end rM
namespace DS
theorem one:Cp 58 [] (Sym.whole 1).pv:=kP.e0 _ (qn.Of 1 (by unfold ar;omega))
theorem plain(m:Words)(h:m.length≤274877906944):Cp 62 [aa m] (vB (!m.isEmpty&&cn m)):=by
 rw[bP]
 by_cases h0:m.length=0
 ·rw[decide_eq_true h0,Bool.not_true,Bool.false_and]
  exact fV.e1 m (by omega)
 ·rw[decide_eq_false h0,Bool.not_false,Bool.true_and]
  obtain⟨v,hv⟩:∃v,m[m.length-1]? = some v:=⟨_,List.getElem?_eq_getElem (by omega)⟩
  have:=fV.e0 m (m.length-1) v (by omega) (by unfold ar;omega) (by omega) hv
  have e:cn m=((v.toNat:Int) != 0):=by
   have h1:=iO hv
   by_cases h2:v.toNat=0
   ·have h3:((v.toNat:Int) != 0)=false:=by simp[h2]
    rw[h3]
    cases hc:cn m with
    |true=>exact absurd h2 (h1.1 hc)
    |false=>rfl
   ·have h3:((v.toNat:Int) != 0)=true:=by simp;omega
    rw[h3];exact h1.2 h2
  rw[e];exact this
theorem DT{m:Words}(h:m.length≤274877906944)(h0:m.length≠0):Cp 62 [aa m] (vB (cn m)):=by
 have:=plain m h
 rwa[bP,decide_eq_false h0,Bool.not_false,Bool.true_and] at this
theorem DU{m:Words}(h0:m.length=0):Cp 62 [aa m] (vB false):=by
 have:=plain m (by omega)
 rwa[bP,decide_eq_true h0,Bool.not_true,Bool.false_and] at this
theorem Valid(a:ae)(h:kh a):Cp 28 [a.pv] (vB a.valid):=by
 obtain⟨l1,l2⟩:=h
 by_cases h1:a.num.length=0
 ·by_cases h2:a.den.length=0
  ·rw[yi h1 h2];exact bF.e0 a h1 h2
  ·rw[yj h1 h2];exact bF.e3 a _ h1 h2 (DU h1) rfl
 ·have p1:=DT l1 h1
  by_cases h2:a.den.length=0
  ·rw[yk h1 h2]
   cases yI:cn a.num with
   |false=>exact bF.e6 a _ h1 p1 yI
   |true=>exact bF.e5 a _ _ h1 p1 yI (DU h2) rfl
  ·have p2:=DT l2 h2
   rw[yl h1 h2]
   cases yI:cn a.num with
   |false=>rw[Bool.false_and];exact bF.e6 a _ h1 p1 yI
   |true =>
    rw[Bool.true_and]
    cases C7:cn a.den with
    |false=>rw[Bool.false_and];exact bF.e5 a _ _ h1 p1 yI p2 C7
    |true =>
     have hg:=qn.Gcd ⟨false,a.num⟩ ⟨false,a.den⟩ (show a.num.length≤_ by omega) (show a.den.length≤_ by omega)
     rw[pZ h1 yI,pZ h2 C7,Int.natAbs_natCast,Int.natAbs_natCast] at hg
     have gl:=q8 (a:=(nat a.num:Int)) (b:=(nat a.den:Int)) (k:=274877906944) (by show(words _).length≤_;rw[Int.natAbs_natCast,cI yI];exact l1) (by show(words _).length≤_;rw[Int.natAbs_natCast,cI C7];exact l2)
     rw[Int.natAbs_natCast,Int.natAbs_natCast] at gl
     have hc:=qn.FB (Sym.whole (Nat.gcd (nat a.num) (nat a.den):Nat)) (Sym.whole 1) (show wl _<_ by omega) (show wl 1<_ by decide)
     rw[ax,ax] at hc
     rw[Bool.true_and,←A5]
     exact bF.e4 a _ _ _ _ _ h1 p1 yI p2 C7 hg one hc
theorem jB(a:ae)(h:kh a):Cp 55 [a.pv] (.aY [(Sym.whole a.val.num).pv,(Sym.whole (a.val.den:Int)).pv]):=by
 have hv:=Valid a h
 cases hc:a.valid with
 |false=>rw[wV hc];exact dQ.e0 a _ _ hv hc one
 |true =>
  by_cases h0:a.num.length=0
  ·rw[nR (List.eq_nil_of_length_eq_zero h0)];exact dQ.e1 a _ _ hv hc h0 one
  ·obtain⟨e1,e2⟩:=ym hc h0
   rw[e1,e2]
   exact dQ.e2 a _ hv hc h0
theorem form(n d:aj)(hn:n.bw.length≤1099511627776)(hd:d.bw.length≤1099511627776)(h0:d.val≠0):Cp 68 [n.pv,d.pv] (ba (Rat.divInt n.val d.val)).pv:=by
 have sn:=qn.Sign n hn
 have sd:=qn.Sign d hd
 have wn:=aJ n
 have OV:=aJ d
 by_cases hz:n.val=0
 ·rw[hz,Rat.zero_divInt]
  exact eu.e0 n d _ sn (by rw[hz];rfl)
 ·have xK:kq n.val≠0:=by unfold kq bX;split<;>(try split)<;>omega
  by_cases hneg:d.val<0
  ·have e:Rat.divInt n.val d.val=Rat.divInt (-n.val) (-d.val):=by rw[Rat.divInt_neg',Int.neg_neg]
   have n1:=qn.Neg n hn
   have d1:=qn.Neg d hd
   have l1:(Sym.whole (-n.val)).bw.length≤1099511627776:=by show wl _≤_;rw[gB];omega
   have l2:(Sym.whole (-d.val)).bw.length≤1099511627776:=by show wl _≤_;rw[gB];omega
   have g:=qn.Gcd _ _ l1 l2
   rw[ax,ax] at g
   have uY:=q8 (a := -n.val) (b := -d.val) (k:=1099511627776) (by rw[gB];omega) (by rw[gB];omega)
   rw[e,formed (by omega) (by omega) _ rfl]
   have zX:((Nat.gcd (-n.val).natAbs (-d.val).natAbs:Nat):Int)≠0:=by
    have:=Nat.gcd_pos_of_pos_left (-d.val).natAbs (show 0<(-n.val).natAbs by omega)
    omega
   generalize hG:((Nat.gcd (-n.val).natAbs (-d.val).natAbs:Nat):Int)=G at *
   have dd:=qn.Div (Sym.whole (-d.val)) (Sym.whole G) l2 uY (by rw[ax];exact zX)
   have dn:=qn.Div (Sym.whole (-n.val)) (Sym.whole G) l1 uY (by rw[ax];exact zX)
   rw[ax,ax] at dd dn
   exact eu.e1 n d _ _ _ _ _ _ _ _ _ _ _ sn xK sd (by unfold kq bX;rw[if_pos hneg];omega) n1 d1 g dn dd
  ·have g:=qn.Gcd _ _ hn hd
   have uY:=q8 (a:=n.val) (b:=d.val) (k:=1099511627776) (by omega) (by omega)
   rw[formed hz (by omega) _ rfl]
   have zX:((Nat.gcd n.val.natAbs d.val.natAbs:Nat):Int)≠0:=by
    have:=Nat.gcd_pos_of_pos_left d.val.natAbs (show 0<n.val.natAbs by omega)
    omega
   generalize hG:((Nat.gcd n.val.natAbs d.val.natAbs:Nat):Int)=G at *
   have dd:=qn.Div d (Sym.whole G) hd uY (by rw[ax];exact zX)
   have dn:=qn.Div n (Sym.whole G) hn uY (by rw[ax];exact zX)
   rw[ax] at dd dn
   have Kh:0≤kq d.val:=by unfold kq bX;rw[if_neg hneg];split<;>omega
   exact eu.e2 n d _ _ _ _ _ _ _ _ _ sn xK sd Kh g dn dd
theorem uo(n d:Int)(hn:wl n≤1099511627776)(hd:wl d≤1099511627776)(h0:d≠0):Cp 68 [(Sym.whole n).pv,(Sym.whole d).pv] (ba (Rat.divInt n d)).pv:=by
 have:=form (Sym.whole n) (Sym.whole d) hn hd (by rw[ax];exact h0)
 rwa[ax,ax] at this
theorem Of(n:Int)(h:ar n):Cp 34 [vI n] (ba (n:Rat)).pv:=by
 have hw:wl n≤2:=uh (by unfold ar at h;omega)
 have:=uo n 1 (by omega) (by decide) (by omega)
 rw[show Rat.divInt n 1=(n:Rat) from by rw[Rat.divInt_eq_div];grind] at this
 exact lx.e0 n _ _ _ (qn.Of n h) one this
theorem Sign(a:ae)(h:kh a):Cp 24 [a.pv] (vI (oZ a.val 0)):=by
 have hp:=jB a h
 have hh:=fm h.1 h.2 (by omega)
 have h1:=dK a.val
 have hs:=qn.Sign (Sym.whole a.val.num) (show wl _≤_ by omega)
 rw[ax,vz] at hs
 exact kf.e0 a _ _ _ hp hs
theorem Add(a b:ae)(ha:kh a)(hb:kh b):Cp 31 [a.pv,b.pv] (ba (a.val+b.val)).pv:=by
 have pa:=jB a ha
 have pb:=jB b hb
 have la:=fm ha.1 ha.2 (by omega)
 have lb:=fm hb.1 hb.2 (by omega)
 have h1:=dK a.val
 have h2:=eA a.val
 have h3:=dK b.val
 have h4:=eA b.val
 have m1:=qn.Mul (Sym.whole a.val.num) (Sym.whole (b.val.den:Int)) (show wl _≤_ by omega) (show wl _≤_ by omega)
 have m2:=qn.Mul (Sym.whole b.val.num) (Sym.whole (a.val.den:Int)) (show wl _≤_ by omega) (show wl _≤_ by omega)
 have m3:=qn.Mul (Sym.whole (a.val.den:Int)) (Sym.whole (b.val.den:Int)) (show wl _≤_ by omega) (show wl _≤_ by omega)
 rw[ax,ax] at m1 m2 m3
 have w1:=cK a.val.num b.val.den
 have w2:=cK b.val.num a.val.den
 have w3:=cK (a.val.den:Int) b.val.den
 have s:=qn.Add (Sym.whole (a.val.num*b.val.den)) (Sym.whole (b.val.num*a.val.den)) (show wl _≤_ by omega) (show wl _≤_ by omega)
 rw[ax,ax] at s
 have w4:=ui (a.val.num*b.val.den) (b.val.num*a.val.den)
 have hf:=uo (a.val.num*b.val.den+b.val.num*a.val.den) ((a.val.den:Int)*(b.val.den:Int)) (by omega) (by omega) (by
  have:=a.val.den_nz
  have:=b.val.den_nz
  exact Int.mul_ne_zero (by omega) (by omega))
 rw[←Int.natCast_mul,Rat.divInt_ofNat,←Rat.add_def',Int.natCast_mul] at hf
 exact kO.e0 a b _ _ _ _ _ _ _ _ _ pa pb m1 m2 s m3 hf
end DS
def numT(n:Int):ByteArray:=if n<0 then ByteArray.mk #[45]++dig n.natAbs else dig n.natAbs
def ratT(q:Rat):ByteArray:=if (q.den:Int)=1 then numT q.num else numT q.num++ByteArray.mk #[47]++numT (q.den:Int)
theorem fK{n:Nat}(h:n<10):dig n=ByteArray.mk #[UInt8.ofNat (48+n)]:=by
 unfold dig
 rw[Lib.decDigits,dif_pos h]
theorem ir{n:Nat}(h:n<1000000000):(dig n).size≤10:=by
 have key:∀(k n:Nat),n<10^(k+1)→(Lib.decDigits n).length≤k+1:=by
  intro k
  induction k with
  |zero =>
   intro n h
   rw[Lib.decDigits,dif_pos (by omega)]
   exact Nat.le_refl _
  |succ k ih =>
   intro n h
   by_cases h9:n<10
   ·rw[Lib.decDigits,dif_pos h9];simp
   ·rw[Lib.decDigits,dif_neg h9,List.length_append,List.length_singleton]
    have:=ih (n/10) (by rw[Nat.pow_succ] at h;omega)
    omega
 have:=key 8 n (by omega)
 show(Lib.decDigits n).toArray.size≤10
 rw[List.size_toArray]
 omega
theorem join_one(x sep:ByteArray):dq [x] sep=x:=by
 unfold dq
 rw[List.map_cons,List.map_nil,Lib.join_one]
theorem jQ{n:Int}(h:n.natAbs<1000000000):(numT n).size≤11:=by
 have:=ir h
 unfold numT
 split
 ·rw[ByteArray.size_append]
  have e:(ByteArray.mk #[45]).size=1:=rfl
  omega
 ·omega
namespace H5
theorem DV(n:Int)(h:n.natAbs<1000000000)(hI:n≠0→Cp 22 [vI (n.natAbs:Int)] (.str (dig n.natAbs))):Cp 50 [(whole n).pv] (.str (numT n)):=by
 have hl:(words n.natAbs).length≤1:=cx (by omega)
 have jl:Fit (whole n).bw:=by
  show Fit (words n.natAbs)
  unfold Fit
  omega
 have hm:=ct.bw (whole n) jl
 have hn:=ct.neg (whole n) jl
 rw[ax] at hm hn
 by_cases h0:n=0
 ·subst h0
  have e:numT 0=ByteArray.mk #[48]:=by
   unfold numT
   rw[if_neg (by omega),show Int.natAbs 0=0 from rfl,fK (by omega)];rfl
  rw[e]
  exact ei.e0 _ _ hm rfl
 ·have hw:(words n.natAbs).length≠0:=fun e=>h0 (by have:=bO.1 e;omega)
  have hs:=ct.short (words n.natAbs) (1000000000:UInt32) (by omega) (by decide)
  rw[au,show(1000000000:UInt32).toNat=1000000000 from rfl,Nat.div_eq_of_lt h,Nat.mod_eq_of_lt h,cJ] at hs
  have hv:(UInt32.ofNat n.natAbs).toNat=n.natAbs:=by
   rw[nL]
   exact Nat.mod_eq_of_lt (by omega)
  have hi:Cp 22 [vI ((UInt32.ofNat n.natAbs).toNat:Int)] (.str (dig n.natAbs)):=by
   rw[hv];exact hI h0
  have hd:=ir h
  have hj:=HM [dig n.natAbs] (ByteArray.mk #[]) (by simp) (by
   rw[List.map_cons,List.map_nil,Lib.join_one,Array.length_toList]
   have:(dig n.natAbs).data.size=(dig n.natAbs).size:=rfl
   omega)
  rw[join_one] at hj
  have hN:ei.ag [] [dig n.natAbs] (whole n) (.str (numT n)):=by
   by_cases hneg:n<0
   ·have:=ei.mD [] _ _ _ _ (by simp) hj hn (decide_eq_true hneg) (by
     have e:(ByteArray.mk #[45]).size=1:=rfl
     omega)
    unfold numT
    rw[if_pos hneg]
    exact this
   ·have:=ei.zE [] _ _ _ _ (by simp) hj hn (decide_eq_false hneg)
    unfold numT
    rw[if_neg hneg]
    exact this
  exact ei.e1 _ _ hm hw (ei.cW _ [] _ _ _ _ (by omega) hs hi (by simp) (by simp) hN)
theorem rN(n:Int)(h:n.natAbs<100):Cp 50 [(whole n).pv] (.str (numT n)):=DV n (by omega) (fun _=>ud _ h)
theorem A6(q:Rat)(h1:q.num.natAbs<1000000000)(h2:q.den<1000000000)(hN:Cp 50 [(whole q.num).pv] (.str (numT q.num)))(hD:Cp 50 [(whole (q.den:Int)).pv] (.str (numT (q.den:Int)))):Cp 21 [(ba q).pv] (.str (ratT q)):=by
 have l1:wl q.num≤1:=cx (by omega)
 have l2:wl (q.den:Int)≤1:=cx (by rw[Int.natAbs_natCast];omega)
 have hh:ht q≤1:=Nat.max_le.2 ⟨l1,l2⟩
 have hp:=rM.jB (ba q) (iq (by omega))
 rw[cu] at hp
 have hc:=ct.FB (whole (q.den:Int)) (whole 1) (show Fit (whole (q.den:Int)).bw from Nat.le_trans l2 (by omega)) (by decide)
 rw[ax,ax] at hc
 have s1:=jQ h1
 have s2:=jQ (n:=(q.den:Int)) (by rw[Int.natAbs_natCast];exact h2)
 by_cases hd:(q.den:Int)=1
 ·have:=k8.e0 _ _ _ _ _ _ hp rM.one hc (by rw[hd];rfl) hN
  unfold ratT
  rw[if_pos hd]
  exact this
 ·have e:(ByteArray.mk #[47]).size=1:=rfl
  have Cj:bX (q.den:Int) 1≠0:=by
   unfold bX
   intro hx
   split at hx
   ·cases hx
   ·omega
  have:=k8.e1 _ _ _ _ _ _ _ hp rM.one hc Cj hN (by omega) hD (by rw[ByteArray.size_append];omega)
  unfold ratT
  rw[if_neg hd]
  exact this
theorem ny(q:Rat)(h1:q.num.natAbs<100)(h2:q.den<100):Cp 21 [(ba q).pv] (.str (ratT q)) :=
 A6 q (by omega) (by omega) (rN _ h1) (rN _ (by rw[Int.natAbs_natCast];exact h2))
end H5
end Go.Proofs.YtnjhplhbmapclaaGreatDoor.Sym
