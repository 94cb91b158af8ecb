/- Lemmas for the statements of this seat. -/
import Derived.Test.YtfjfekodeplcoaaGreatG0
import Derived.Test.YtfjfekodeplcoaaGreatP1
namespace Go.Proofs.YtfjfekodeplcoaaGreat.Sym
open Go Path
set_option linter.unusedVariables false
section
variable {V R W top next hi lo head r0 bZ rest:Nat}
structure Kn (V R W top next head lo r0:Nat):Prop where
 v1:(top*4294967296+next)*W≤V
 v2:V<(top*4294967296+next+1)*W
 r:R=(head*4294967296+lo)*W+r0
 r0:r0<W
 lo:lo<4294967296
 next:next<4294967296
 top:0<top
 rv:R<V*4294967296
theorem Kn.Uk(h:Kn V R W top next head lo r0):R<(head*4294967296+lo+1)*W:=by
 have h1:=h.r;have h2:=h.r0
 rw[Nat.add_mul _ 1,Nat.one_mul];omega
theorem Kn.Jd(h:Kn V R W top next head lo r0):0<V∧4294967296*W≤V:=by
 have h1:=h.v1
 have h2:=h.r0
 have h3:4294967296*W≤(top*4294967296+next)*W:=Nat.mul_le_mul_right _ (by have:=h.top;omega)
 omega
theorem Kn.start(h:Kn V R W top next head lo r0):R/V≤head/top:=by
 have hv:=h.Jd.1
 rw[←Nat.lt_succ_iff,Nat.div_lt_iff_lt_mul hv]
 have h1:head+1≤(head/top+1)*top:=by
  have:=Nat.lt_div_mul_add (a:=head) h.top
  rw[Nat.add_mul,Nat.one_mul];omega
 have h2:(head/top+1)*((top*4294967296+next)*W)≤(head/top+1)*V:=Nat.mul_le_mul_left _ h.v1
 have h3:(head*4294967296+lo+1)*W≤(head/top+1)*((top*4294967296+next)*W):=by
  rw[←Nat.mul_assoc]
  refine Nat.mul_le_mul_right _ ?_
  rw[Nat.mul_add,←Nat.mul_assoc]
  have:=Nat.mul_le_mul_right 4294967296 h1
  have:=h.lo
  omega
 have:=h.Uk
 show R<(head/top+1)*V
 omega
theorem Kn.small(h:Kn V R W top next head lo r0):R/V<4294967296:=by
 rw[Nat.div_lt_iff_lt_mul h.Jd.1,Nat.mul_comm];exact h.rv
theorem Kn.less(h:Kn V R W top next head lo r0)(hg:bZ*top+rest=head)(hc:rest*4294967296+lo<bZ*next):R/V<bZ:=by
 rw[Nat.div_lt_iff_lt_mul h.Jd.1]
 have h2:bZ*((top*4294967296+next)*W)≤bZ*V:=Nat.mul_le_mul_left _ h.v1
 have h3:(head*4294967296+lo+1)*W≤bZ*((top*4294967296+next)*W):=by
  rw[←Nat.mul_assoc]
  refine Nat.mul_le_mul_right _ ?_
  rw[Nat.mul_add,←Nat.mul_assoc,←hg,Nat.add_mul]
  omega
 have:=h.Uk
 omega
theorem Kn.fits(h:Kn V R W top next head lo r0)(hg:bZ*top+rest=head)(hr:4294967296≤rest):bZ<4294967296:=by
 refine Nat.lt_of_not_le fun rz => ?_
 have h1:4294967296*top≤bZ*top:=Nat.mul_le_mul_right _ rz
 have h2:(head*4294967296)*W≤R:=by
  rw[h.r,Nat.add_mul];omega
 have h3:(4294967296*top+4294967296)*4294967296*W≤head*4294967296*W:=Nat.mul_le_mul_right _ (Nat.mul_le_mul_right _ (by omega))
 have h4:V*4294967296<(top*4294967296+next+1)*W*4294967296:=Nat.mul_lt_mul_of_pos_right h.v2 (by omega)
 have h5:(top*4294967296+next+1)*W*4294967296≤(4294967296*top+4294967296)*W*4294967296:=Nat.mul_le_mul_right _ (Nat.mul_le_mul_right _ (by have:=h.next;omega))
 have h6:(4294967296*top+4294967296)*W*4294967296=(4294967296*top+4294967296)*4294967296*W:=by rw[Nat.mul_right_comm]
 have:=h.rv
 omega
theorem Kn.SR(h:Kn V R W top next head lo r0)(hg:bZ*top+rest=head)(hl:bZ<4294967296)(hc:4294967296≤rest∨bZ*next≤rest*4294967296+lo):bZ≤R/V+1:=by
 have hv:=h.Jd.1
 cases bZ with
 |zero=>exact Nat.zero_le _
 |succ g =>
  refine Nat.succ_le_succ ?_
  rw[Nat.le_div_iff_mul_le hv]
  have h0:(g+1)*V≤(g+1)*((top*4294967296+next+1)*W):=Nat.mul_le_mul_left _ (Nat.le_of_lt h.v2)
  have h1:(g+1)*((top*4294967296+next+1)*W)=((g+1)*top*4294967296+(g+1)*next+(g+1))*W:=by
   rw[←Nat.mul_assoc,Nat.mul_add,Nat.mul_add,Nat.mul_one,Nat.mul_assoc (g+1) top]
  have h2:=h.Jd.2
  have h3:(g+1)*V=g*V+V:=by rw[Nat.add_mul,Nat.one_mul]
  have hr:(head*4294967296+lo)*W≤R:=by rw[h.r];omega
  rcases hc with hc|hc
  ·have h4:((g+1)*top*4294967296+(g+1)*next+(g+1))*W≤(head*4294967296+lo)*W:=by
    refine Nat.mul_le_mul_right _ ?_
    have h5:(g+1)*next+(g+1)≤(g+1)*4294967296:=by
     have:=Nat.mul_le_mul_left (g+1) (show next+1≤4294967296 by have:=h.next;omega)
     rw[Nat.mul_add,Nat.mul_one] at this;exact this
    rw[←hg,Nat.add_mul]
    omega
   omega
  ·have h4:((g+1)*top*4294967296+(g+1)*next+(g+1))*W≤(head*4294967296+lo+4294967296)*W:=by
    refine Nat.mul_le_mul_right _ ?_
    rw[←hg,Nat.add_mul];omega
   rw[Nat.add_mul _ 4294967296] at h4
   omega
end
namespace fB
theorem Ld(u:Words)(j n:Nat)(h:j+n≤u.length):nat (u.drop j)=nat ((u.drop j).take n)+4294967296^n*nat (u.drop (j+n)):=by
 have:=jO (u.drop j) n (by simp;omega)
 rw[List.drop_drop] at this
 exact this
theorem Je(U:Words)(n:Nat)(h:U.length=n+3){a b c:UInt32}(ha:U[n]? = some a)(hb:U[n+1]? = some b)(hc:U[n+2]? = some c) :
  nat U=((c.toNat*4294967296+b.toNat)*4294967296+a.toNat)*4294967296^n+nat (U.take n):=by
 have h1:=bV hc
 have h2:=bV hb
 have h3:=bV ha
 rw[bc (by omega)] at h1
 rw[h1,h2,h3]
 have e1:(4294967296:Nat)^(n+1)=4294967296^n*4294967296:=Nat.pow_succ ..
 have e2:(4294967296:Nat)^(n+2)=4294967296^n*4294967296*4294967296:=by rw[Nat.pow_succ,e1]
 rw[e1,e2]
 generalize (4294967296:Nat)^n=P
 grind
theorem Jf(U:Words)(n:Nat)(h:U.length=n+2){a b:UInt32}(ha:U[n]? = some a)(hb:U[n+1]? = some b) :
  nat U=(b.toNat*4294967296+a.toNat)*4294967296^n+nat (U.take n):=by
 have h2:=bV hb
 have h3:=bV ha
 rw[bc (by omega)] at h2
 rw[h2,h3]
 have e1:(4294967296:Nat)^(n+1)=4294967296^n*4294967296:=Nat.pow_succ ..
 rw[e1]
 generalize (4294967296:Nat)^n=P
 grind
structure Dv (a b zb v:Words) (v1 v2:UInt32) (s n m V N:Nat):Prop where
 hv:v=zb.take b.length
 Cm:s<32
 KP:a.length≤2199023255551
 hm:a.length+1=m+(n+2)
 xA:v.length=n+2
 Le:nat v=V
 xS:V<4294967296^(n+2)
 Lf:0<V
 vm:v[n+1]? = some v1
 Jg:v[n]? = some v2
 Gf:V=(v1.toNat*4294967296+v2.toNat)*4294967296^n+nat (v.take n)
 Kj:nat (v.take n)<4294967296^n
 DD:0<v1.toNat
 res:∀q r:Nat,N=q*V+r→r<V→nat a/nat b=q∧r/2^s=nat a%nat b
structure Pt (u U A C:Words) (n j R Q V:Nat):Prop where
 Hy:U.length=n+3
 Lg:A.length=j
 hu:u=A++(U++C)
 xT:R=nat U
 hQ:R/V=Q
 NV:nat C=0
 hR:R=nat (u.drop j)
 hj:j+(n+3)≤u.length
 rr:u.length≤2199023255552
theorem P2{g Q V R r P x:Nat}(En:Q*V+r=R)(hx:x<P)(h2:x+g*V=R+P)(Kf:Q≤g)(QS:g≤Q+1):g=Q+1∧x+V=r+P:=by
 rcases Nat.lt_or_ge Q g with h5|h5
 ·have h6:g=Q+1:=by omega
  rw[h6,Nat.add_mul,Nat.one_mul] at h2
  exact⟨h6,by omega⟩
 ·have h6:g=Q:=by omega
  rw[h6] at h2
  omega
theorem P4{ca V r P x y:Nat}(h:y+P*ca=x+V)(hy:y<P)(h2:x+V=r+P)(hc:ca≤1):y=r:=by
 have L8:ca=0∨ca=1:=by omega
 rcases L8 with rfl|rfl
 ·omega
 ·omega
theorem Lh {a b zb v u U A C : Words} {v1 v2 : UInt32} {s n m V N j R Q : Nat} (dv : Dv a b zb v v1 v2 s n m V N) (pt : Pt u U A C n j R Q V) :
    ∀ bZ : Nat, bZ < 4294967296 → Q ≤ bZ → bZ ≤ Q + 1 → ∃ (U1 : Words) (bo : Bool) (U2 : Words), U1.length = n + 3 ∧
          av bp 150 [.row 100000 (0 + j * 1) (j + (n + 3) - j) 1, .pv (aa (zb.take b.length)), .pv (vU bZ)] [(100000, .pure ((u : List UInt32).map af).flatten)] (.pv (vB bo)) [(100000, .pure (((A ++ (U1 ++ C) : List UInt32)).map af).flatten)] ∧
          (bo = false → bZ = Q ∧ nat U1 = R % V) ∧
          (bo = true → bZ = Q + 1 ∧ 0 < bZ ∧ U2.length = n + 3 ∧ nat U2 = R % V ∧
            av bp 151 [.row 100000 (0 + j * 1) (j + (n + 3) - j) 1, .pv (aa (zb.take b.length))] [(100000, .pure (((A ++ (U1 ++ C) : List UInt32)).map af).flatten)] (.pv (.bx [])) [(100000, .pure (((A ++ (U2 ++ C) : List UInt32)).map af).flatten)]) := by
  obtain ⟨hv, Cm, KP, hm, xA, Le, xS, Lf, vm, Jg, Gf, Kj, DD, res⟩ := dv
  obtain ⟨Hy, Lg, hu, xT, hQ, NV, hR, hj, rr⟩ := pt
  have Gg : (4294967296 : Nat) ^ (n + 3) = 4294967296 ^ (n + 2) * 4294967296 := Nat.pow_succ ..
  intro bZ Ul Kf QS
  have En := Nat.div_add_mod R V
  rw [hQ] at En
  have QT := Nat.mod_lt R Lf
  rw [Nat.mul_comm] at En
  rw [← hv]
  obtain ⟨U1, bo, r1, ⟨Um, QU⟩, r3⟩ := remove A U C v bZ (0 + j * 1) (j + (n + 3) - j) (by omega) (by omega) (by omega) Ul (by
    rw [Le, Hy, Gg]
    have h5 := Nat.mul_lt_mul_of_pos_left xS (show 0 < 4294967296 by omega)
    have h6 := Nat.mul_le_mul_right V (Nat.le_of_lt Ul)
    rw [Nat.mul_comm (4294967296 ^ (n + 2))]; omega) (by omega)
  rw [Le, ← xT] at Um QU
  rw [Hy] at QU
  have SS := ee U1
  rw [r1, Hy] at SS
  obtain ⟨U2, ca, b1, b2, b3, b4⟩ := back A U1 C v (0 + j * 1) (j + (n + 3) - j) (by omega) (by omega) (by omega) (by omega)
  rw [Le, r1, Hy] at b3
  have SU := ee U2
  rw [b1, r1, Hy] at SU
  have Wd : V < 4294967296 ^ (n + 3) := by
    have := Nat.pow_le_pow_right (n := 4294967296) (by omega) (show n + 2 ≤ n + 3 by omega)
    exact Nat.lt_of_lt_of_le xS this
  clear Gg xS Kj Gf res
  generalize (4294967296 : Nat) ^ (n + 3) = P3 at QU SS b3 SU Wd
  refine ⟨U1, bo, U2, by omega, by rw [show Jc A U C = .pure ((u : List UInt32).map af).flatten from by rw [hu]] at r3; exact r3, fun P1 => ?_, fun P1 => ?_⟩
  · have r2 := Um P1
    have : bZ = Q := by
      rcases Nat.lt_or_ge (Q) bZ with h5 | h5
      · have h6 : bZ = Q + 1 := by omega
        rw [h6, Nat.add_mul, Nat.one_mul] at r2
        omega
      · omega
    rw [this] at r2
    exact ⟨this, by omega⟩
  · have r2 := QU P1
    obtain ⟨g1, g2⟩ := P2 En SS r2 Kf QS
    exact ⟨g1, by rw [g1]; exact Nat.succ_pos _, b1.trans (r1.trans Hy), P4 b3 SU g2 b2, b4⟩
theorem Jh{a b zb v u q U A C:Words}{v1 v2:UInt32}{s n m V N j R Q:Nat}(dv:Dv a b zb v v1 v2 s n m V N)(pt:Pt u U A C n j R Q V)(Qw:j+1≤m)(rr:u.length=a.length+1)(CK:q.length=m)(hA:nat u=nat A+4294967296^j*R)
  (hinv:N=nat (q.drop (j+1))*4294967296^(j+1)*V+nat u)
  (ih:∀(u q:Words),u.length=a.length+1→q.length=m→nat (u.drop j)<V→N=nat (q.drop j)*4294967296^j*V+nat u →
   bE.au (s:Int) zb b (a.length+1) m v1 v2 ((j:Int)-1) u q (.bx [aa (words (nat a/nat b)),aa (words (nat a%nat b))])) (U2:Words) (w:UInt32) (J6:U2.length=n+3) (Dj:nat U2=R%V) (hw:w.toNat=Q) :
  bE.au (s:Int) zb b (a.length+1) m v1 v2 ((j:Int)-1) (A++(U2++C)) (q.set j w) (.bx [aa (words (nat a/nat b)),aa (words (nat a%nat b))]):=by
 have Lf:=dv.Lf
 obtain⟨Hy,Lg,hu,xT,hQ,NV,hR,hj,_⟩:=pt
 have FT:(A++(U2++C)).drop j=U2++C:=by rw[←Lg];exact List.drop_left
 have Un:nat (U2++C)=R%V:=by rw[l6,NV,Dj];simp
 refine ih _ _ ?_ (by simpa using CK) (by rw[FT,Un];exact Nat.mod_lt _ Lf) ?_
 ·have h5:u.length=(A++(U++C)).length:=by rw[←hu]
  simp only[List.length_append] at h5 ⊢
  omega
 ·have h5:nat (A++(U2++C))=nat A+4294967296^j*(R%V):=by rw[l6,Un,Lg]
  have h7:nat ((q.set j w).drop j)=Q+4294967296*nat (q.drop (j+1)):=by
   rw[qb (v:=w) (by rw[List.getElem?_set_self (by omega)]),List.drop_set_of_lt (by omega),hw]
  rw[h5,h7,hinv,hA]
  have h8:=Nat.div_add_mod R V
  rw[hQ] at h8
  have e1:(4294967296:Nat)^(j+1)=4294967296^j*4294967296:=Nat.pow_succ ..
  rw[e1]
  generalize (4294967296:Nat)^j=P at *
  generalize nat (q.drop (j+1))=X at *
  generalize R%V=r at *
  rw[←h8]
  clear h8 hj hu xT hR hinv hA h5 h7 e1
  grind
theorem Hc{a b zb v u q U A C:Words}{v1 v2 lo:UInt32}{s n m V N j R Q head r0:Nat}(dv:Dv a b zb v v1 v2 s n m V N)(pt:Pt u U A C n j R Q V)(kn:Kn V R (4294967296^n) v1.toNat v2.toNat head lo.toNat r0)(Qw:j+1≤m)(rr:u.length=a.length+1)(CK:q.length=m)(H6:U[n]? = some lo)
  (next:∀(U2:Words) (w:UInt32),U2.length=n+3→nat U2=R%V→w.toNat=Q →
   bE.au (s:Int) zb b (a.length+1) m v1 v2 ((j:Int)-1) (A++(U2++C)) (q.set j w) (.bx [aa (words (nat a/nat b)),aa (words (nat a%nat b))])) :
  ∀(k bZ rest:Nat),4294967296-rest≤k→rest<18446744073709551616-4294967296→bZ*v1.toNat+rest=head→Q≤bZ→bZ<18446744073709551616 →
   bE.aM (s:Int) zb b (a.length+1) m v1 v2 (((j+1:Nat):Int)-1) j (j+(n+3)) bZ rest u q (.bx [aa (words (nat a/nat b)),aa (words (nat a%nat b))]):=by
 have fin:=Lh dv pt
 obtain⟨hv,Cm,KP,hm,xA,Le,xS,Lf,vm,Jg,Gf,Kj,DD,res⟩:=dv
 obtain⟨Hy,Lg,hu,xT,hQ,NV,hR,hj,_⟩:=pt
 have NU:=iD lo
 have SV:=iD v1
 have SX:=iD v2
 have wm:(zb.take b.length).length=n+2:=by rw[←hv];exact xA
 have Ji:(2:Nat)^min 32 64=4294967296:=by decide
 have ji:∀(k:Nat) (w:UInt32),U[k]? = some w→u[(0+j*1)+k]? = some w:=fun k w hk=>by
  rw[hu,Nat.zero_add,Nat.mul_one,←Lg];exact cM A U C k w hk
 have Jj:=kn.small
 rw[hQ] at Jj
 have P5:∀{g r:Nat},g*v1.toNat+r=head→r*4294967296+lo.toNat<g*v2.toNat→Q<g:=fun h1 h2=>by rw[←hQ];exact kn.less h1 h2
 have Jk:∀{g r:Nat},g*v1.toNat+r=head→g<4294967296→(4294967296≤r∨g*v2.toNat≤r*4294967296+lo.toNat)→g≤Q+1:=fun h1 h2 h3=>by rw[←hQ];exact kn.SR h1 h2 h3
 clear xS Kj Gf res xT hR
 intro k
 induction k with
 |zero =>
  intro bZ rest hk P6 hg hq Kf
  have hr:4294967296≤rest:=by omega
  have As:=kn.fits hg hr
  obtain⟨U1,bo,U2,f1,f2,f3,f4⟩:=fin bZ As hq (Jk hg As (.inl hr))
  cases bo with
  |false =>
   obtain⟨g1,g2⟩:=f3 rfl
   obtain⟨w,hw⟩:=gK bZ As
   refine bE.Uf (s:Int) zb b (a.length+1) m v1 v2 _ j (j+(n+3)) bZ rest u q _ false w j hr f2 rfl (by omega) (by omega) (by omega) (by omega) (by unfold aO;omega) ?_
   rw[show (((j+1:Nat):Int)-1-1)=(j:Int)-1 from by omega]
   exact next U1 w f1 g2 (by omega)
  |true =>
   obtain⟨g1,g0,g2,g3,g4⟩:=f4 rfl
   obtain⟨w,hw⟩:=gK (bZ-1) (by omega)
   refine bE.OL (s:Int) zb b (a.length+1) m v1 v2 _ j (j+(n+3)) bZ rest u q _ true (bZ-1) _ w j hr f2 rfl (by omega) g4 (by omega) (by omega) (by omega) (by omega) (by unfold aO;omega) ?_
   rw[show (((j+1:Nat):Int)-1-1)=(j:Int)-1 from by omega]
   exact next U2 w g2 g3 (by omega)
 |succ k ihk =>
  intro bZ rest hk P6 hg hq Kf
  by_cases hr:4294967296≤rest
  ·have As:=kn.fits hg hr
   obtain⟨U1,bo,U2,f1,f2,f3,f4⟩:=fin bZ As hq (Jk hg As (.inl hr))
   cases bo with
   |false =>
    obtain⟨g1,g2⟩:=f3 rfl
    obtain⟨w,hw⟩:=gK bZ As
    refine bE.Uf (s:Int) zb b (a.length+1) m v1 v2 _ j (j+(n+3)) bZ rest u q _ false w j hr f2 rfl (by omega) (by omega) (by omega) (by omega) (by unfold aO;omega) ?_
    rw[show (((j+1:Nat):Int)-1-1)=(j:Int)-1 from by omega]
    exact next U1 w f1 g2 (by omega)
   |true =>
    obtain⟨g1,g0,g2,g3,g4⟩:=f4 rfl
    obtain⟨w,hw⟩:=gK (bZ-1) (by omega)
    refine bE.OL (s:Int) zb b (a.length+1) m v1 v2 _ j (j+(n+3)) bZ rest u q _ true (bZ-1) _ w j hr f2 rfl (by omega) g4 (by omega) (by omega) (by omega) (by omega) (by unfold aO;omega) ?_
    rw[show (((j+1:Nat):Int)-1-1)=(j:Int)-1 from by omega]
    exact next U2 w g2 g3 (by omega)
  have QA:=Jj
  have step:∀(NW:Q<bZ),(bZ-1)*v1.toNat+(rest+v1.toNat)=head:=by
   intro NW
   have:bZ=(bZ-1)+1:=by omega
   rw[this,Nat.add_mul,Nat.one_mul] at hg
   omega
  by_cases QS:4294967296≤bZ
  ·refine bE.mX (s:Int) zb b (a.length+1) m v1 v2 _ j (j+(n+3)) bZ rest u q (bZ-1) (rest+v1.toNat) (by omega) QS (by omega) (by omega) ?_
   exact ihk (bZ-1) (rest+v1.toNat) (by omega) (by omega) (step (by omega)) (by omega) (by omega)
  ·have Ej:bZ*v2.toNat<18446744073709551616:=by have:=vl (show bZ<4294967296 by omega) SX;omega
   have Fz:rest*2^min 32 64%18446744073709551616%18446744073709551616 ||| lo.toNat%18446744073709551616=rest*4294967296+lo.toNat:=by
    rw[Ji,Nat.mod_mod];exact Cl (by omega) NU
   by_cases hc:rest*4294967296+lo.toNat<bZ*v2.toNat
   ·have NW:=P5 hg hc
    refine bE.mY (s:Int) zb b (a.length+1) m v1 v2 _ j (j+(n+3)) bZ rest u q (bZ*v2.toNat) _ n lo (rest*4294967296+lo.toNat) (bZ-1) (rest+v1.toNat) (by omega) (by omega) (Nat.mod_eq_of_lt Ej) rfl (by rw[wm];unfold aO;omega) (by rw[wm];omega) (by omega) (ji n lo H6) Fz hc (by omega) (by omega) ?_
    exact ihk (bZ-1) (rest+v1.toNat) (by omega) (by omega) (step NW) (by omega) (by omega)
   ·obtain⟨U1,bo,U2,f1,f2,f3,f4⟩:=fin bZ (by omega) hq (Jk hg (by omega) (.inr (by omega)))
    cases bo with
    |false =>
     obtain⟨g1,g2⟩:=f3 rfl
     obtain⟨w,hw⟩:=gK bZ (by omega)
     refine bE.IS (s:Int) zb b (a.length+1) m v1 v2 _ j (j+(n+3)) bZ rest u q (bZ*v2.toNat) _ n lo (rest*4294967296+lo.toNat) _ false w j (by omega) (by omega) (Nat.mod_eq_of_lt Ej) rfl (by rw[wm];unfold aO;omega) (by rw[wm];omega) (by omega) (ji n lo H6) Fz (by omega) f2 rfl (by omega) (by omega) (by omega) (by omega) (by unfold aO;omega) ?_
     rw[show (((j+1:Nat):Int)-1-1)=(j:Int)-1 from by omega]
     exact next U1 w f1 g2 (by omega)
    |true =>
     obtain⟨g1,g0,g2,g3,g4⟩:=f4 rfl
     obtain⟨w,hw⟩:=gK (bZ-1) (by omega)
     refine bE.xR (s:Int) zb b (a.length+1) m v1 v2 _ j (j+(n+3)) bZ rest u q (bZ*v2.toNat) _ n lo (rest*4294967296+lo.toNat) _ true (bZ-1) _ w j (by omega) (by omega) (Nat.mod_eq_of_lt Ej) rfl (by rw[wm];unfold aO;omega) (by rw[wm];omega) (by omega) (ji n lo H6) Fz (by omega) f2 rfl (by omega) g4 (by omega) (by omega) (by omega) (by omega) (by unfold aO;omega) ?_
     rw[show (((j+1:Nat):Int)-1-1)=(j:Int)-1 from by omega]
     exact next U2 w g2 g3 (by omega)
set_option maxHeartbeats 1000000 in
theorem Jl{a b zb v u q:Words}{v1 v2:UInt32}{s n m V N j:Nat}(dv:Dv a b zb v v1 v2 s n m V N)(hj:j+1≤m)(rr:u.length=a.length+1)(CK:q.length=m)(Cn:nat (u.drop (j+1))<V)(hinv:N=nat (q.drop (j+1))*4294967296^(j+1)*V+nat u)
  (ih:∀(u q:Words),u.length=a.length+1→q.length=m→nat (u.drop j)<V→N=nat (q.drop j)*4294967296^j*V+nat u →
   bE.au (s:Int) zb b (a.length+1) m v1 v2 ((j:Int)-1) u q (.bx [aa (words (nat a/nat b)),aa (words (nat a%nat b))])) :
  bE.au (s:Int) zb b (a.length+1) m v1 v2 (((j+1:Nat):Int)-1) u q (.bx [aa (words (nat a/nat b)),aa (words (nat a%nat b))]):=by
 have Cm:=dv.Cm
 have KP:=dv.KP
 have hm:=dv.hm
 have xA:=dv.xA
 have xS:=dv.xS
 have Gf:=dv.Gf
 have Kj:=dv.Kj
 have DD:=dv.DD
 have hv:=dv.hv
 obtain⟨U,hU⟩:∃U,U=(u.drop j).take (n+3):=⟨_,rfl⟩
 obtain⟨A,hA⟩:∃A,A=u.take j:=⟨_,rfl⟩
 obtain⟨C,hC⟩:∃C,C=u.drop (j+(n+3)):=⟨_,rfl⟩
 have Hy:U.length=n+3:=by rw[hU];simp;omega
 have Lg:A.length=j:=by rw[hA];simp;omega
 have hu:u=A++(U++C):=by
  rw[hA,hU,hC,show j+(n+3)=j+(n+3) from rfl,←List.drop_drop,List.take_append_drop,List.take_append_drop]
 obtain⟨R,hR⟩:∃R,R=nat (u.drop j):=⟨_,rfl⟩
 obtain⟨x,hx⟩:∃x,u[j]? = some x:=⟨_,List.getElem?_eq_getElem (by omega)⟩
 have P7:R<V*4294967296:=by
  rw[hR,qb hx]
  have h2:=iD x
  omega
 have xT:=Ld u j (n+3) (by omega)
 rw[←hU,←hC,←hR] at xT
 have Gg:(4294967296:Nat)^(n+3)=4294967296^(n+2)*4294967296:=Nat.pow_succ ..
 have NV:nat C=0:=by
  refine Nat.eq_zero_of_not_pos fun hp => ?_
  have h2:=Nat.mul_le_mul_left (4294967296^(n+3)) hp
  omega
 rw[NV,Nat.mul_zero,Nat.add_zero] at xT
 obtain⟨hi,Uo⟩:∃x,U[n+2]? = some x:=⟨_,List.getElem?_eq_getElem (by omega)⟩
 obtain⟨mi,Up⟩:∃x,U[n+1]? = some x:=⟨_,List.getElem?_eq_getElem (by omega)⟩
 obtain⟨lo,H6⟩:∃x,U[n]? = some x:=⟨_,List.getElem?_eq_getElem (by omega)⟩
 have h3:=Je U n Hy H6 Up Uo
 have SY:=ee (U.take n)
 rw[List.length_take,Nat.min_eq_left (by omega)] at SY
 obtain⟨head,L9⟩:∃h,h=hi.toNat*4294967296+mi.toNat:=⟨_,rfl⟩
 rw[←L9,←xT] at h3
 have kn:Kn V R (4294967296^n) v1.toNat v2.toNat head lo.toNat (nat (U.take n)) :=
  ⟨by rw[Gf];omega,by rw[Gf,Nat.add_mul _ 1,Nat.one_mul];omega,h3,SY,iD lo,iD v2,DD,P7⟩
 obtain⟨Q,hQ⟩:∃Q,R/V=Q:=⟨_,rfl⟩
 have Jm:=kn.start
 rw[hQ] at Jm
 have pt:Pt u U A C n j R Q V:=⟨Hy,Lg,hu,xT,hQ,NV,hR,by omega,by omega⟩
 have Uq:nat u=nat A+4294967296^j*R:=by
  have:=jO u j (by omega)
  rw[←hA,←hR] at this;exact this
 have SZ:=iD hi
 have S0:=iD mi
 have NU:=iD lo
 have SV:=iD v1
 have wm:(zb.take b.length).length=n+2:=by rw[←hv];exact xA
 have Ji:(2:Nat)^min 32 64=4294967296:=by decide
 have ji:∀(k:Nat) (w:UInt32),U[k]? = some w→u[(0+j*1)+k]? = some w:=fun k w hk=>by
  rw[hu,Nat.zero_add,Nat.mul_one,←Lg];exact cM A U C k w hk
 have inner:=Hc dv pt kn hj rr CK H6 (Jh dv pt hj rr CK Uq hinv ih)
 clear xS Kj Gf xT Gg h3 SY P7 Cn hinv Uq ih
 have Xh:head<18446744073709551616:=by omega
 have rj:head/v1.toNat≤head:=Nat.div_le_self _ _
 have QT:=Nat.mod_lt head DD
 have hz:(hi.toNat*2^min 32 64)%18446744073709551616%18446744073709551616 ||| mi.toNat%18446744073709551616=head:=by
  rw[Ji,Nat.mod_mod,L9];exact Cl SZ S0
 refine bE.eo (s:Int) zb b (a.length+1) m v1 v2 _ u q j (j+(n+3)) hi _ (n+1) mi head (head/v1.toNat) (head%v1.toNat) (by omega) (by rw[wm];unfold aO;omega) (by rw[wm];unfold aO;omega) (by omega) (by rw[wm];omega) (by omega) (by omega) (by omega) (by rw[wm];omega)
  (by rw[wm];exact ji (n+2) hi Uo) rfl (by rw[wm];unfold aO;omega) (by rw[wm];omega) (by omega) (ji (n+1) mi Up) hz (by omega) (by rw[Nat.mod_eq_of_lt (by omega)]) rfl ?_
 refine inner 4294967296 _ _ (by omega) (by omega) ?_ Jm (by omega)
 have:=Nat.div_add_mod head v1.toNat
 rw[Nat.mul_comm] at this;exact this
set_option maxHeartbeats 1000000 in
theorem Co(a b:Words)(ha:cn a=true)(hb:cn b=true)(iO:b≠[])(KP:a.length≤2199023255551)(K0:b.length≤2199023255552) :
  Cp 118 [aa a,aa b] (.bx [aa (words (nat a/nat b)),aa (words (nat a%nat b))]):=by
 have Ma:0<nat b:=pA hb iO
 have wC:=compare a b ha hb (by omega)
 by_cases cQ:nat a<nat b
 ·rw[o7 (by omega)] at wC
  rw[Nat.div_eq_of_lt cQ,Nat.mod_eq_of_lt cQ]
  exact bE.e0 a b (-1) _ wC (by omega) (trim a (by omega))
 have NX:0≤dW (nat a) (nat b):=by unfold dW;split<;>(try split)<;>omega
 by_cases h1:b.length=1
 ·obtain⟨v,rfl⟩:∃v,b=[v]:=List.length_eq_one_iff.1 h1
  have hn:nat [v]=v.toNat:=by simp[nat]
  rw[hn] at Ma NX wC ⊢
  have hs:=short a v (by omega) (by omega)
  have ht:=trim [UInt32.ofNat (nat a%v.toNat)] (by simp)
  have Dj:nat [UInt32.ofNat (nat a%v.toNat)]=nat a%v.toNat:=by
   have:=Nat.mod_lt (nat a) Ma
   have:=iD v
   simp only[nat,vg];omega
  rw[Dj] at ht
  exact bE.e1 a [v] _ v _ _ _ wC NX rfl rfl hs ht
 obtain⟨n,hn⟩:∃n,b.length=n+2:=⟨b.length-2,by have:=List.length_pos_iff.2 iO;omega⟩
 obtain⟨bt,S1⟩:∃v,b[n+1]? = some v:=⟨_,List.getElem?_eq_getElem (by omega)⟩
 have S2:bt.toNat≠0:=(mf (by rw[hn];exact S1)).1 hb
 have We:=nD (n:=bt.toNat) (k:=32) (iD bt)
 obtain⟨kb,Xi,Wf,Wg⟩:=sI S2
 obtain⟨s,hs⟩:∃s,s=32-blen bt.toNat:=⟨_,rfl⟩
 have Cm:s<32:=by omega
 obtain⟨zb,Wh,S3,S4,_⟩:=up b s K0 Cm
 obtain⟨za,S5,P8,_,S6⟩:=up a s (by omega) Cm
 have hP:=Nat.two_pow_pos s
 have P9:nat b<4294967296^(n+1)*2^(kb+1):=by
  have h2:=bV S1
  rw[bc (by omega)] at h2
  have h3:=ee (b.take (n+1))
  rw[List.length_take,Nat.min_eq_left (by omega)] at h3
  have h4:=Nat.mul_le_mul_left (4294967296^(n+1)) (show bt.toNat+1≤2^(kb+1) by omega)
  rw[Nat.mul_add] at h4;omega
 have xS:nat b*2^s<4294967296^(n+2):=by
  have h2:=Nat.mul_lt_mul_of_pos_right P9 hP
  have h3:2^(kb+1)*2^s=4294967296:=by rw[←Nat.pow_add,show kb+1+s=32 from by omega]
  rw[Nat.mul_assoc,h3,←Nat.pow_succ] at h2
  exact h2
 obtain⟨v,hv⟩:∃v,v=zb.take b.length:=⟨_,rfl⟩
 have xA:v.length=n+2:=by rw[hv];simp;omega
 have Le:nat v=nat b*2^s:=by
  rw[←S3,hv]
  have h2:=jO zb b.length (by omega)
  have h3:nat (zb.drop b.length)=0:=by
   refine Nat.eq_zero_of_not_pos fun hp => ?_
   have:=Nat.mul_le_mul_left (4294967296^b.length) hp
   rw[hn] at this h2
   omega
  rw[h3] at h2;omega
 obtain⟨V,hV⟩:∃V,V=nat b*2^s:=⟨_,rfl⟩
 rw[←hV] at Le xS
 have S7:4294967296^(n+1)≤nat b:=by
  have:=Du hb iO
  rwa[hn] at this
 have S8:4294967296^(n+1)≤V:=by
  have:=Nat.mul_le_mul_left (nat b) hP
  omega
 have Lf:0<V:=Nat.lt_of_lt_of_le (Nat.pow_pos (by omega)) S8
 obtain⟨v1,vm⟩:∃x,v[n+1]? = some x:=⟨_,List.getElem?_eq_getElem (by omega)⟩
 obtain⟨v2,Jg⟩:∃x,v[n]? = some x:=⟨_,List.getElem?_eq_getElem (by omega)⟩
 have Gf:=Jf v n xA Jg vm
 rw[Le] at Gf
 have Kj:=ee (v.take n)
 rw[List.length_take,Nat.min_eq_left (by omega)] at Kj
 have DD:0<v1.toNat:=by
  refine Nat.pos_of_ne_zero fun h0 => ?_
  rw[h0] at Gf
  have h2:=iD v2
  have h3:(v2.toNat+1)*4294967296^n≤4294967296*4294967296^n:=Nat.mul_le_mul_right _ h2
  have h4:(4294967296:Nat)^(n+1)=4294967296*4294967296^n:=by rw[Nat.pow_succ,Nat.mul_comm]
  rw[Nat.add_mul] at h3
  simp at Gf
  omega
 have Ht:b.length≤a.length:=by
  refine Nat.le_of_not_lt fun h => ?_
  have h2:=ee a
  have h3:=lC (show a.length≤n+1 by omega)
  omega
 obtain⟨m,hm⟩:∃m,a.length+1=m+(n+2):=⟨a.length+1-(n+2),by omega⟩
 obtain⟨N,hN⟩:∃N,N=nat a*2^s:=⟨_,rfl⟩
 rw[←hN] at P8
 have res:∀q r:Nat,N=q*V+r→r<V→nat a/nat b=q∧r/2^s=nat a%nat b:=by
  intro q r h2 h3
  have h4:N/V=nat a/nat b:=by rw[hN,hV];exact Nat.mul_div_mul_right _ _ hP
  have h5:N%V=nat a%nat b*2^s:=by rw[hN,hV];exact Nat.mul_mod_mul_right _ _ _
  have h6:N/V=q:=by rw[h2,Nat.mul_comm,Nat.mul_add_div Lf,Nat.div_eq_of_lt h3,Nat.add_zero]
  have h7:N%V=r:=by rw[h2,Nat.mul_comm,Nat.mul_add_mod,Nat.mod_eq_of_lt h3]
  refine⟨by rw[←h4,h6],?_⟩
  rw[←h7,h5,Nat.mul_div_cancel _ hP]
 have dv:Dv a b zb v v1 v2 s n m V N:=⟨hv,Cm,KP,hm,xA,Le,xS,Lf,vm,Jg,Gf,Kj,DD,res⟩
 have loop:∀(jj:Nat) (u q:Words),jj≤m→u.length=a.length+1→q.length=m→nat (u.drop jj)<V→N=nat (q.drop jj)*4294967296^jj*V+nat u →
   bE.au (s:Int) zb b (a.length+1) m v1 v2 ((jj:Int)-1) u q (.bx [aa (words (nat a/nat b)),aa (words (nat a%nat b))]):=by
  intro jj
  induction jj with
  |zero =>
   intro u q _ rr CK Cn hinv
   simp only[List.drop_zero,Nat.pow_zero,Nat.mul_one] at hinv Cn
   obtain⟨e1,e2⟩:=res _ _ hinv Cn
   rw[e1,←e2]
   exact bE.ew (s:Int) zb b (a.length+1) m v1 v2 _ u q _ _ (by omega) CK.symm rr.symm (trim q (by omega)) (down u s (by omega) Cm)
  |succ j ih =>
   intro u q hj rr CK Cn hinv
   exact Jl dv hj rr CK Cn hinv (fun u q=>ih u q (by omega))
 have wm:(zb.take b.length).length=n+2:=by rw[←hv];exact xA
 refine bE.e2 a b _ (n+1) bt (s:Int) zb za (a.length+1) m (n+1) v1 n v2 wC NX h1 (by unfold aO;omega) (by omega) S1 (by rw[hs];exact Jb.zX bt) S4 (by omega) S6 (by rw[wm];unfold aO;omega) (by rw[wm];omega) (by omega) (by rw[wm];unfold aO;omega) (by rw[wm];omega) (by rw[←hv];exact vm) (by rw[wm];unfold aO;omega) (by rw[wm];omega) (by rw[←hv];exact Jg) (by unfold aO;omega) ?_
 refine loop m za _ (Nat.le_refl _) S5 (by simp) ?_ ?_
 ·
  have h2:=jO za m (by omega)
  refine Nat.lt_of_not_le fun h => ?_
  have h3:=Nat.mul_le_mul_left (4294967296^m) h
  have h4:4294967296^m*V≤N:=by omega
  have h5:nat a*2^s<4294967296^a.length*2^s:=Nat.mul_lt_mul_of_pos_right (ee a) hP
  have h6:4294967296^m*V=4294967296^m*nat b*2^s:=by rw[hV,Nat.mul_assoc]
  have h7:4294967296^a.length≤4294967296^m*nat b:=by
   have:=Nat.mul_le_mul_left (4294967296^m) S7
   rw[←Nat.pow_add,show m+(n+1)=a.length from by omega] at this
   exact this
  have h8:=Nat.mul_le_mul_right (2^s) h7
  omega
 ·rw[List.drop_of_length_le (by simp),P8];simp[nat]
end fB
end Go.Proofs.YtfjfekodeplcoaaGreat.Sym
namespace Go.Proofs.YtfjfekodeplcoaaGreat.Sym
open Go Path
set_option linter.unusedVariables false
abbrev wl(i:Int):Nat:=(words i.natAbs).length
theorem kt(i:Int):wl (-i)=wl i:=by unfold wl;rw[Int.natAbs_neg]
theorem Gh{i:Int}{k:Nat}(h:i.natAbs<4294967296^k):wl i≤k:=kH h
theorem Gi(i:Int):i.natAbs<4294967296^wl i:=jP _
theorem Cq(i j:Int):wl (i+j)≤max (wl i) (wl j)+1:=by
 refine Gh ?_
 have h1:=Gi i
 have h2:=Gi j
 have h3:=lC (Nat.le_max_left (wl i) (wl j))
 have h4:=lC (Nat.le_max_right (wl i) (wl j))
 have h5:=Int.natAbs_add_le i j
 rw[Nat.pow_succ]
 omega
theorem iq(i j:Int):wl (i*j)≤wl i+wl j:=by
 refine Gh ?_
 rw[Int.natAbs_mul,Nat.pow_add]
 exact Nat.mul_lt_mul'' (Gi i) (Gi j)
theorem bu(a:aC):wl a.val≤a.cP.length:=by
 unfold wl
 rw[fB.Ck]
 cases a.valid<;>simp
namespace fB
def o8(i:Int):Int:=dW i 0
theorem Gj{i:Int}(h:i<0):o8 i = -1:=o7 h
theorem Gk{i:Int}(h:0<i):o8 i=1:=qO h
theorem DE:o8 0=0:=rfl
theorem Sign(a:aC)(h:Fit a.cP):Cp 79 [a.pv] (vI (o8 a.val)):=by
 have hm:=cP a h
 by_cases h0:a.val=0
 ·rw[h0,DE]
  exact nq.e0 a _ hm (by rw[h0];rfl)
 ·have hl:(words a.val.natAbs).length≠0:=by rw[Ne,dL];omega
  have hv:a.valid=true:=by
   cases hv:a.valid with
   |true=>rfl
   |false=>exact absurd (by unfold aC.val;rw[hv];rfl) h0
  by_cases hn:a.val<0
  ·rw[Gj hn]
   have:=yd a
   rw[hv,decide_eq_true hn] at this
   exact nq.e1 a _ hm hl (by simpa using this.symm)
  ·rw[Gk (by omega)]
   have:=yd a
   rw[hv,decide_eq_false hn] at this
   exact nq.e2 a _ hm hl (by simpa using this.symm)
theorem Hd(a b:aC)(ha:Fit a.cP)(hb:Fit b.cP):Cp 76 [a.pv,b.pv] (vI (dW a.val b.val)):=by
 have h1:=Sign a ha
 have h2:=Sign b hb
 have h3:=cP a ha
 have h4:=cP b hb
 have h5:=neg a ha
 have la:=bu a
 by_cases he:o8 a.val=o8 b.val
 ·have hc:=compare (words a.val.natAbs) (words b.val.natAbs) (gL _) (gL _) (by have:(words a.val.natAbs).length≤a.cP.length:=la;omega)
  rw[aJ,aJ] at hc
  unfold o8 dW at he
  by_cases hn:a.val<0
  ·have Hs:b.val<0:=by
    rw[if_pos hn] at he
    split at he
    ·assumption
    ·split at he<;>omega
   have e:dW a.val b.val = -(dW (a.val.natAbs:Int) (b.val.natAbs:Int)):=by
    unfold dW
    split<;>split<;>(try split)<;>(try split)<;>omega
   rw[e]
   refine mv.e2 a b _ _ _ _ _ _ h1 h2 (by unfold o8 dW;exact he) h3 h4 hc h5 (decide_eq_true hn) ?_
   unfold aO dW;split<;>(try split)<;>omega
  ·have Hs:¬b.val<0:=by
    intro cI
    rw[if_neg hn,if_pos cI] at he
    split at he<;>omega
   have e:dW a.val b.val=dW (a.val.natAbs:Int) (b.val.natAbs:Int):=by
    unfold dW
    split<;>split<;>(try split)<;>(try split)<;>omega
   rw[e]
   exact mv.e3 a b _ _ _ _ _ _ h1 h2 (by unfold o8 dW;exact he) h3 h4 hc h5 (decide_eq_false hn)
 ·by_cases cQ:o8 a.val<o8 b.val
  ·rw[o7 (by
    unfold o8 dW at cQ
    split at cQ<;>split at cQ<;>(try split at cQ)<;>(try split at cQ)<;>omega)]
   exact mv.e0 a b _ _ h1 h2 he cQ
  ·rw[qO (by
    unfold o8 dW at cQ he
    split at cQ<;>split at cQ<;>(try split at cQ)<;>(try split at cQ)<;>(simp_all;try omega))]
   exact mv.e1 a b _ _ h1 h2 he (by omega)
theorem Neg(a:aC)(h:Fit a.cP):Cp 99 [a.pv] (Sym.whole (-a.val)).pv:=by
 have h3:=cP a h
 have h5:=neg a h
 have la:=bu a
 have hw:=whole (!decide (a.val<0)) (words a.val.natAbs) (by have:(words a.val.natAbs).length≤a.cP.length:=la;omega)
 have e:(bif !decide (a.val<0) then -(nat (words a.val.natAbs):Int) else (nat (words a.val.natAbs):Int)) = -a.val:=by
  rw[aJ]
  by_cases h:a.val<0
  ·simp[h];omega
  ·simp[h];omega
 rw[e] at hw
 exact xc.e0 a _ _ _ h5 h3 hw
theorem Add(a b:aC)(ha:Fit a.cP)(hb:Fit b.cP):Cp 83 [a.pv,b.pv] (Sym.whole (a.val+b.val)).pv:=by
 have h1:=cP a ha
 have h2:=cP b hb
 have h3:=neg a ha
 have h4:=neg b hb
 have la:(words a.val.natAbs).length≤a.cP.length:=bu a
 have lb:(words b.val.natAbs).length≤b.cP.length:=bu b
 by_cases hs:decide (a.val<0)=decide (b.val<0)
 ·have hp:=plus (words a.val.natAbs) (words b.val.natAbs) (by omega) (by omega)
  rw[aJ,aJ] at hp
  have hl:=kH (n:=a.val.natAbs+b.val.natAbs) (k:=max (words a.val.natAbs).length (words b.val.natAbs).length+1) (by
   have g1:=jP a.val.natAbs
   have g2:=jP b.val.natAbs
   have g3:=lC (Nat.le_max_left (words a.val.natAbs).length (words b.val.natAbs).length)
   have g4:=lC (Nat.le_max_right (words a.val.natAbs).length (words b.val.natAbs).length)
   rw[Nat.pow_succ];omega)
  have hw:=whole (decide (a.val<0)) (words (a.val.natAbs+b.val.natAbs)) (by omega)
  rw[aJ] at hw
  have e:(bif decide (a.val<0) then -((a.val.natAbs+b.val.natAbs:Nat):Int) else ((a.val.natAbs+b.val.natAbs:Nat):Int))=a.val+b.val:=by
   by_cases h:a.val<0
   ·have:b.val<0:=by simpa[h] using hs.symm
    simp[h];omega
   ·have:¬b.val<0:=by simpa[h] using hs.symm
    simp[h];omega
  rw[e] at hw
  exact oO.e0 a b _ _ _ _ _ _ _ h1 h2 h3 h4 hs h3 hp hw
 ·have hc:=compare (words a.val.natAbs) (words b.val.natAbs) (gL _) (gL _) (by omega)
  rw[aJ,aJ] at hc
  by_cases rz:b.val.natAbs≤a.val.natAbs
  ·have hl:=less (words a.val.natAbs) (words b.val.natAbs) (by omega) (by rw[aJ,aJ];exact rz)
   rw[aJ,aJ] at hl
   have hlen:=dO (show a.val.natAbs-b.val.natAbs≤a.val.natAbs by omega)
   have hw:=whole (decide (a.val<0)) (words (a.val.natAbs-b.val.natAbs)) (by omega)
   rw[aJ] at hw
   have e:(bif decide (a.val<0) then -((a.val.natAbs-b.val.natAbs:Nat):Int) else ((a.val.natAbs-b.val.natAbs:Nat):Int))=a.val+b.val:=by
    by_cases h:a.val<0
    ·have:¬b.val<0:=by simpa[h] using hs
     simp[h];omega
    ·have:b.val<0:=by simpa[h] using hs
     simp[h];omega
   rw[e] at hw
   exact oO.e1 a b _ _ _ _ _ _ _ _ h1 h2 h3 h4 hs hc (by unfold dW;split<;>(try split)<;>omega) h3 hl hw
  ·have hl:=less (words b.val.natAbs) (words a.val.natAbs) (by omega) (by rw[aJ,aJ];omega)
   rw[aJ,aJ] at hl
   have hlen:=dO (show b.val.natAbs-a.val.natAbs≤b.val.natAbs by omega)
   have hw:=whole (decide (b.val<0)) (words (b.val.natAbs-a.val.natAbs)) (by omega)
   rw[aJ] at hw
   have e:(bif decide (b.val<0) then -((b.val.natAbs-a.val.natAbs:Nat):Int) else ((b.val.natAbs-a.val.natAbs:Nat):Int))=a.val+b.val:=by
    by_cases h:b.val<0
    ·have:¬a.val<0:=by intro h';simp[h,h'] at hs
     simp[h];omega
    ·have:a.val<0:=by
      refine Classical.byContradiction fun h' => ?_
      simp[h,h'] at hs
     simp[h];omega
   rw[e] at hw
   exact oO.e2 a b _ _ _ _ _ _ _ _ h1 h2 h3 h4 hs hc (by unfold dW;split<;>(try split)<;>omega) h4 hl hw
theorem Mul(a b:aC)(ha:Fit a.cP)(hb:Fit b.cP):Cp 59 [a.pv,b.pv] (Sym.whole (a.val*b.val)).pv:=by
 have h1:=cP a ha
 have h2:=cP b hb
 have h3:=neg a ha
 have h4:=neg b hb
 have la:(words a.val.natAbs).length≤a.cP.length:=bu a
 have lb:(words b.val.natAbs).length≤b.cP.length:=bu b
 have ht:=times (words a.val.natAbs) (words b.val.natAbs) (by omega) (by omega)
 rw[aJ,aJ] at ht
 have hl:(words (a.val.natAbs*b.val.natAbs)).length≤(words a.val.natAbs).length+(words b.val.natAbs).length:=by
  have:=iq a.val b.val
  unfold wl at this
  rw[Int.natAbs_mul] at this;exact this
 have hw:=whole (!(decide (a.val<0)==decide (b.val<0))) (words (a.val.natAbs*b.val.natAbs)) (by omega)
 rw[aJ] at hw
 have e:(bif !(decide (a.val<0)==decide (b.val<0)) then -((a.val.natAbs*b.val.natAbs:Nat):Int) else ((a.val.natAbs*b.val.natAbs:Nat):Int))=a.val*b.val:=by
  by_cases h:a.val<0<;>by_cases h':b.val<0<;>simp only[h,h',decide_true,decide_false,beq_self_eq_true,Bool.not_true,cond_false,Bool.not_false,cond_true,show(true==false)=false from rfl,show(false==true)=false from rfl]
  ·rw[←Int.natAbs_mul,Int.natAbs_of_nonneg (Int.mul_nonneg_of_nonpos_of_nonpos (by omega) (by omega))]
  ·rw[←Int.natAbs_mul,Int.ofNat_natAbs_of_nonpos (Int.mul_nonpos_of_nonpos_of_nonneg (by omega) (by omega))];omega
  ·rw[←Int.natAbs_mul,Int.ofNat_natAbs_of_nonpos (Int.mul_nonpos_of_nonneg_of_nonpos (by omega) (by omega))];omega
  ·rw[←Int.natAbs_mul,Int.natAbs_of_nonneg (Int.mul_nonneg (by omega) (by omega))]
 rw[e] at hw
 exact xb.e0 a b _ _ _ _ _ _ h3 h4 h1 h2 ht hw
theorem Of(n:Int)(h:aO n):Cp 119 [vI n] (Sym.whole n).pv:=by
 obtain⟨g1,g2⟩:=h
 have Ji:(2:Nat)^min 32 64=4294967296:=by decide
 have key:∀m:Nat,m=n.natAbs→∃w w1:UInt32,m%4294967296=w.toNat∧m/4294967296%4294967296=w1.toNat∧Cp 101 [(vB (decide (n<0))),(aa [w,w1])] (Sym.whole n).pv:=by
  intro m hm
  obtain⟨w,hw⟩:=gK (m%4294967296) (by omega)
  obtain⟨w1,Hw⟩:=gK (m/4294967296%4294967296) (by omega)
  refine⟨w,w1,hw.symm,Hw.symm,?_⟩
  have:=whole (decide (n<0)) [w,w1] (by simp)
  have e:nat [w,w1]=m:=by simp only[nat,hw,Hw];omega
  rw[e,hm] at this
  have e2:(bif decide (n<0) then -(n.natAbs:Int) else (n.natAbs:Int))=n:=by
   by_cases h:n<0
   ·simp[h];omega
   ·simp[h];omega
  rw[e2] at this;exact this
 by_cases hn:n<0
 ·obtain⟨w,w1,q1,q2,q3⟩:=key n.natAbs rfl
  exact tW.e0 n (n%18446744073709551616).toNat n.natAbs w _ w1 _ (by omega) hn (by omega) q1 (by rw[Ji]) q2 q3
 ·obtain⟨w,w1,q1,q2,q3⟩:=key n.natAbs rfl
  exact tW.e1 n n.natAbs w _ w1 _ (by omega) (by omega) q1 (by rw[Ji]) q2 q3
theorem Div(a b:aC)(ha:Fit a.cP)(hb:Fit b.cP)(h0:b.val≠0) :
  Cp 100 [a.pv,b.pv] (.bx [(Sym.whole (a.val/b.val)).pv,(Sym.whole (a.val%b.val)).pv,.cd]):=by
 have h1:=cP a ha
 have h2:=cP b hb
 have h3:=neg a ha
 have h4:=neg b hb
 have la:(words a.val.natAbs).length≤a.cP.length:=bu a
 have lb:(words b.val.natAbs).length≤b.cP.length:=bu b
 have Em:(words b.val.natAbs).length≠0:=by rw[Ne,dL];omega
 have Ma:0<b.val.natAbs:=by omega
 have hd:=Co (words a.val.natAbs) (words b.val.natAbs) (gL _) (gL _) (by intro e;rw[e] at Em;simp at Em) (by omega) (by omega)
 rw[aJ,aJ] at hd
 have hq:=dO (Nat.div_le_self a.val.natAbs b.val.natAbs)
 have hr:=dO (Nat.le_of_lt (Nat.mod_lt a.val.natAbs Ma))
 have En:=Nat.div_add_mod a.val.natAbs b.val.natAbs
 have QT:=Nat.mod_lt a.val.natAbs Ma
 generalize hQ:a.val.natAbs/b.val.natAbs=q at *
 generalize hR:a.val.natAbs%b.val.natAbs=r at *
 have sb:b.val=if b.val<0 then -(b.val.natAbs:Int) else (b.val.natAbs:Int):=by split<;>omega
 have uniq:∀x y:Int,a.val=b.val*x+y→0≤y→y<b.val.natAbs→a.val/b.val=x∧a.val%b.val=y:=by
  intro x y e1 e2 e3
  rcases Int.lt_or_gt_of_ne h0 with cI|cI
  ·exact(Int.ediv_emod_unique' cI).2 ⟨by omega,e2,by omega⟩
  ·exact(Int.ediv_emod_unique cI).2 ⟨by omega,e2,by omega⟩
 by_cases hn:a.val<0
 ·by_cases J9:r=0
  ·have hw:=whole (!(decide (a.val<0)==decide (b.val<0))) (words q) (by omega)
   have x5:=whole false (words r) (by omega)
   rw[aJ] at hw x5
   subst J9
   have e:a.val/b.val=(bif !(decide (a.val<0)==decide (b.val<0)) then -(q:Int) else (q:Int))∧a.val%b.val=0:=by
    refine uniq _ 0 ?_ (by omega) (by omega)
    have rA:(a.val.natAbs:Int)=(b.val.natAbs:Int)*q:=by rw[←En];simp
    by_cases h':b.val<0
    ·simp only[hn,h',decide_true,beq_self_eq_true,Bool.not_true,cond_false]
     have:(b.val.natAbs:Int) = -b.val:=by omega
     rw[this] at rA
     have:(a.val.natAbs:Int) = -a.val:=by omega
     rw[this,Int.neg_mul] at rA
     omega
    ·simp only[hn,h',decide_true,decide_false,show(true==false)=false from rfl,Bool.not_false,cond_true]
     have:(b.val.natAbs:Int)=b.val:=by omega
     rw[this] at rA
     have:(a.val.natAbs:Int) = -a.val:=by omega
     rw[this] at rA
     rw[Int.mul_neg];omega
   rw[e.1,e.2]
   exact oP.e2 a b _ _ _ _ _ _ _ _ _ h2 Em h1 hd h3 (decide_eq_true hn) (by rw[fN];simp) h3 h4 hw x5
  ·have hp:=plus (words q) [1] (by omega) (by simp)
   have hl:=less (words b.val.natAbs) (words r) (by omega) (by rw[aJ,aJ];omega)
   rw[aJ] at hp
   rw[aJ,aJ] at hl
   have e1:nat [1]=1:=rfl
   rw[e1] at hp
   have Ed:=kH (n:=q+1) (k:=(words q).length+1) (by have:=jP q;rw[Nat.pow_succ];omega)
   have J6:=dO (show b.val.natAbs-r≤b.val.natAbs by omega)
   have hw:=whole (!(decide (a.val<0)==decide (b.val<0))) (words (q+1)) (by omega)
   have x5:=whole false (words (b.val.natAbs-r)) (by omega)
   rw[aJ] at hw x5
   have e:a.val/b.val=(bif !(decide (a.val<0)==decide (b.val<0)) then -((q+1:Nat):Int) else ((q+1:Nat):Int))∧a.val%b.val=((b.val.natAbs-r:Nat):Int):=by
    refine uniq _ _ ?_ (by omega) (by omega)
    have rA:(a.val.natAbs:Int)=(b.val.natAbs:Int)*q+r:=by rw[←En];simp
    by_cases h':b.val<0
    ·simp only[hn,h',decide_true,beq_self_eq_true,Bool.not_true,cond_false]
     have e5:(b.val.natAbs:Int) = -b.val:=by omega
     rw[e5] at rA
     have:(a.val.natAbs:Int) = -a.val:=by omega
     rw[this,Int.neg_mul] at rA
     rw[show ((q+1:Nat):Int)=(q:Int)+1 from by omega,Int.mul_add]
     omega
    ·simp only[hn,h',decide_true,decide_false,show(true==false)=false from rfl,Bool.not_false,cond_true]
     have:(b.val.natAbs:Int)=b.val:=by omega
     rw[this] at rA
     have:(a.val.natAbs:Int) = -a.val:=by omega
     rw[this] at rA
     rw[show ((q+1:Nat):Int)=(q:Int)+1 from by omega,Int.mul_neg,Int.mul_add];omega
   rw[e.1,e.2]
   exact oP.e1 a b _ _ _ _ _ _ _ _ _ _ _ h2 Em h1 hd h3 (decide_eq_true hn) (by have:=(dL (n:=r)).1;omega) hp hl h3 h4 hw x5
 ·have hw:=whole (!(decide (a.val<0)==decide (b.val<0))) (words q) (by omega)
  have x5:=whole false (words r) (by omega)
  rw[aJ] at hw x5
  have e:a.val/b.val=(bif !(decide (a.val<0)==decide (b.val<0)) then -(q:Int) else (q:Int))∧a.val%b.val=(r:Int):=by
   refine uniq _ _ ?_ (by omega) (by omega)
   have rA:(a.val.natAbs:Int)=(b.val.natAbs:Int)*q+r:=by rw[←En];simp
   by_cases h':b.val<0
   ·simp only[hn,h',decide_true,decide_false,show(false==true)=false from rfl,Bool.not_false,cond_true]
    have e5:(b.val.natAbs:Int) = -b.val:=by omega
    rw[e5] at rA
    have:(a.val.natAbs:Int)=a.val:=by omega
    rw[this,Int.neg_mul] at rA
    rw[Int.mul_neg];omega
   ·simp only[hn,h',decide_false,beq_self_eq_true,Bool.not_true,cond_false]
    have:(b.val.natAbs:Int)=b.val:=by omega
    rw[this] at rA
    have:(a.val.natAbs:Int)=a.val:=by omega
    rw[this] at rA
    omega
  rw[e.1,e.2]
  exact oP.e3 a b _ _ _ _ _ _ _ _ _ h2 Em h1 hd h3 (decide_eq_false hn) h3 h4 hw x5
theorem Gcd(a b:aC)(ha:Fit a.cP)(hb:Fit b.cP):Cp 77 [a.pv,b.pv] (Sym.whole (Nat.gcd a.val.natAbs b.val.natAbs)).pv:=by
 have h1:=cP a ha
 have h2:=cP b hb
 have la:(words a.val.natAbs).length≤a.cP.length:=bu a
 have lb:(words b.val.natAbs).length≤b.cP.length:=bu b
 have loop:∀(k x y:Nat),y≤k→(words x).length≤1099511627776→(words y).length≤1099511627776→kE.au (words x) (words y) (Sym.whole (Nat.gcd x y)).pv:=by
  intro k
  induction k with
  |zero =>
   intro x y hy hx _
   have:y=0:=by omega
   subst this
   have hw:=whole false (words x) (by omega)
   rw[aJ] at hw
   rw[Nat.gcd_zero_right]
   exact kE.ew _ _ _ (by rw[fN];simp) hw
  |succ k ih =>
   intro x y hy hx Ur
   by_cases h0:y=0
   ·subst h0
    have hw:=whole false (words x) (by omega)
    rw[aJ] at hw
    rw[Nat.gcd_zero_right]
    exact kE.ew _ _ _ (by rw[fN];simp) hw
   ·have Ut:(words y).length≠0:=by rw[Ne,dL];exact h0
    have hd:=Co (words x) (words y) (gL _) (gL _) (by intro e;rw[e] at Ut;simp at Ut) (by omega) (by omega)
    rw[aJ,aJ] at hd
    have hm:=Nat.mod_lt x (show 0<y by omega)
    refine kE.eo _ _ _ _ (by omega) hd ?_
    rw[Nat.gcd_comm,Nat.gcd_rec,Nat.gcd_comm]
    exact ih y (x%y) (by omega) Ur (Nat.le_trans (dO (Nat.le_of_lt hm)) Ur)
 exact kE.e0 a b _ _ h1 h2 (loop _ _ _ (Nat.le_refl _) (by omega) (by omega))
end fB
abbrev ws(a:Words):SC := .pure ((a:List UInt32).map af).flatten
namespace wD
open fB
theorem Valid(a:aC)(h:Fit a.cP):Cp 133 [a.pv] (vB a.valid):=by
 unfold aC.valid
 rw[df]
 by_cases h0:a.cP.length=0
 ·simp only[h0,decide_true,cond_true]
  exact jW.e0 a h0
 ·simp only[h0,decide_false,cond_false]
  obtain⟨v,hv⟩:∃v,a.cP[a.cP.length-1]? = some v:=⟨_,List.getElem?_eq_getElem (by omega)⟩
  have:=jW.e1 a (a.cP.length-1) v h0 (by unfold aO;omega) (by omega) hv
  have e:cn a.cP=((v.toNat:Int) != 0):=by
   have h1:=mf hv
   by_cases h2:v.toNat=0
   ·have h3:((v.toNat:Int) != 0)=false:=by simp[h2]
    rw[h3]
    cases hc:cn a.cP with
    |true=>exact absurd h2 (h1.1 hc)
    |false=>rfl
   ·have h3:((v.toNat:Int) != 0)=true:=by simp;omega
    rw[h3];exact h1.2 h2
  rw[e];exact this
theorem cP(a:aC)(h:Fit a.cP):Cp 91 [a.pv] (aa (words a.val.natAbs)):=by
 rw[Ck]
 cases hv:a.valid with
 |false=>exact ln.e0 a a.valid (Valid a h) hv
 |true=>exact ln.e1 a a.valid (Valid a h) hv
theorem neg(a:aC)(h:Fit a.cP):Cp 92 [a.pv] (vB (decide (a.val<0))):=by
 rw[yd]
 cases hv:a.valid with
 |false=>exact lr.e1 a a.valid (Valid a h) hv
 |true=>rw[Bool.true_and];exact lr.e0 a a.valid (Valid a h) hv
theorem trimmed{l:Words}{n:Nat}{v:UInt32}(hv:l[n]? = some v)(h0:v.toNat=0)(hn:n+1=l.length):nat (l.take n)=nat l:=by
 have:=bV hv
 rw[bc (by omega),h0] at this
 omega
theorem trim(a:Words)(h:a.length≤35184372088832):Cp 127 [aa a] (aa (words (nat a))):=by
 have loop:∀(n:Nat) (l:Words),l.length=n→n≤35184372088832→eJ.au l (aa (words (nat l))):=by
  intro n
  induction n with
  |zero =>
   intro l hl _
   have:l=[]:=List.eq_nil_of_length_eq_zero hl
   subst this
   exact eJ.nr [] (by simp)
  |succ n ih =>
   intro l hl hb
   obtain⟨v,hv⟩:∃v,l[n]? = some v:=⟨_,List.getElem?_eq_getElem (by omega)⟩
   by_cases h0:v.toNat=0
   ·refine eJ.eo l n v n (by omega) (by unfold aO;omega) (by omega) (by omega) hv h0 (by omega) (by omega) ?_
    have:=ih (l.take n) (by simp;omega) (by omega)
    rwa[trimmed hv h0 hl.symm] at this
   ·rw[se ((mf (v:=v) (by rw[hl];exact hv)).2 h0) rfl]
    exact eJ.ew l n v (by omega) (by unfold aO;omega) (by omega) (by omega) hv h0
 exact eJ.e0 a (by simp;omega) (loop _ a rfl h)
theorem Mb(a:Words)(h:a.length≤35184372088832):av bp 127 [.pv (aa a)] [] (.row 0 0 (words (nat a)).length 1) [(0,ws (words (nat a)))]:=by
 have loop:∀(n:Nat) (l:Words),l.length=n→n≤35184372088832→en.au l [] (.row 0 0 (words (nat l)).length 1) [(0,ws (words (nat l)))]:=by
  intro n
  induction n with
  |zero =>
   intro l hl _
   have:l=[]:=List.eq_nil_of_length_eq_zero hl
   subst this
   exact en.nr [] rfl rfl (by simp)
  |succ n ih =>
   intro l hl hb
   obtain⟨v,hv⟩:∃v,l[n]? = some v:=⟨_,List.getElem?_eq_getElem (by omega)⟩
   by_cases h0:v.toNat=0
   ·refine en.eo l n v n rfl (by omega) (by unfold aO;omega) (by omega) (by omega) hv h0 (by omega) (by omega) ?_
    have:=ih (l.take n) (by simp;omega) (by omega)
    rwa[trimmed hv h0 hl.symm] at this
   ·rw[se ((mf (v:=v) (by rw[hl];exact hv)).2 h0) rfl]
    exact en.ew l n v rfl rfl (by omega) (by unfold aO;omega) (by omega) (by omega) hv h0
 exact en.e0 a (by simp;omega) (loop _ a rfl h)
theorem cut(a:Words)(h:a.length≤35184372088832):av bp 131 [.row 100000 0 a.length 1] [(100000,ws a)] (.row 100000 0 (words (nat a)).length 1) [(100000,ws (words (nat a)))]:=by
 have loop:∀n:Nat,n≤a.length→nat (a.take n)=nat a→fe.au n a [(100000,ws a)] (.row 100000 0 (words (nat a)).length 1) [(100000,ws (words (nat a)))]:=by
  intro n
  induction n with
  |zero =>
   intro _ h2
   have:nat a=0:=by rw[←h2];rfl
   rw[this,fN]
   have:=fe.nr 0 a (sin:=[(100000,ws a)]) rfl rfl (Nat.le_refl 0)
   exact this
  |succ n ih =>
   intro h1 h2
   obtain⟨v,hv⟩:∃v,a[n]? = some v:=⟨_,List.getElem?_eq_getElem (by omega)⟩
   by_cases h0:v.toNat=0
   ·refine fe.eo _ a n v n rfl (by omega) (by unfold aO;omega) (by omega) (by omega) hv h0 (by omega) (by omega) (ih (by omega) ?_)
    rw[bV hv,h0] at h2
    omega
   ·have e:words (nat a)=a.take (n+1):=by
     refine se ?_ h2
     refine(mf (v:=v) ?_).2 h0
     rw[List.length_take,Nat.min_eq_left h1,Nat.add_sub_cancel,List.getElem?_take,if_pos (by omega)]
     exact hv
    have:=fe.ew (n+1) a n v (sin:=[(100000,ws a)]) rfl rfl (by omega) (by unfold aO;omega) (by omega) (by omega) hv h0
    rw[e,List.length_take,Nat.min_eq_left h1]
    exact this
 exact fe.e0 a a.length (loop a.length (Nat.le_refl _) (bc (Nat.le_refl _)))
theorem form(neg:Bool)(m:Words)(h:m.length≤35184372088832):Cp 89 [vB neg,aa m] (Sym.whole (bif neg then -(nat m:Int) else (nat m:Int))).pv:=by
 have ht:=trim m h
 by_cases h0:nat m=0
 ·have:=ko.e0 neg m _ ht (by rw[h0,fN];rfl)
  rw[h0]
  cases neg<;>exact this
 ·have hl:(words (nat m)).length≠0:=by rw[Ne,dL];exact h0
  have:=ko.e1 neg m _ ht hl
  cases neg with
  |false =>
   have e:decide ((nat m:Int)<0)=false:=by simp
   simp only[Sym.whole,cond_false,e,Int.natAbs_natCast]
   exact this
  |true =>
   have e:decide (-(nat m:Int)<0)=true:=by simp;omega
   simp only[Sym.whole,cond_true,e,Int.natAbs_neg,Int.natAbs_natCast]
   exact this
theorem Hz(a:Words)(i:Nat):Cp 154 [aa a,vI (i:Int)] (vU (wd a i)):=by
 unfold wd
 cases h:a[i]? with
 |none =>
  have:=List.getElem?_eq_none_iff.1 h
  exact l3.e1 a i (by omega)
 |some v =>
  have:=(List.getElem?_eq_some_iff.1 h).1
  exact l3.e0 a i i v (by omega) rfl h
theorem atR(a:Words)(i:Nat)(len:Nat)(hl:len=a.length):av bp 154 [.row 100000 0 len 1,.pv (vI (i:Int))] [(100000,ws a)] (.pv (vU (wd a i))) [(100000,ws a)]:=by
 subst hl
 unfold wd
 cases h:a[i]? with
 |none =>
  have:=List.getElem?_eq_none_iff.1 h
  exact lu.e1 a a.length i (by omega)
 |some v =>
  have:=(List.getElem?_eq_some_iff.1 h).1
  exact lu.e0 a a.length i i v (by omega) rfl this h
def Alike(a b:Words)(n:Nat):Prop:=∀q,n≤q→wd a q=wd b q
theorem Jn:∀(n:Nat) (a b:Words),a.length≤n→b.length≤n→(∀q,wd a q=wd b q)→nat a=nat b
 |0,a,b,ha,hb,_=>by
  have h1:a=[]:=List.eq_nil_of_length_eq_zero (by omega)
  have h2:b=[]:=List.eq_nil_of_length_eq_zero (by omega)
  rw[h1,h2]
 |n+1,a,b,ha,hb,h=>by
  have h1:=jz a 0
  have h2:=jz b 0
  have hw:∀(c:Words) (q:Nat),wd (c.drop 1) q=wd c (q+1):=fun c q=>by unfold wd;rw[List.getElem?_drop,Nat.add_comm]
  have:=Jn n (a.drop 1) (b.drop 1) (by simp;omega) (by simp;omega) (fun q=>by rw[hw,hw];exact h (q+1))
  simp only[List.drop_zero,Nat.zero_add] at h1 h2
  rw[h1,h2,this,h 0]
theorem zY{a b:Words}{n:Nat}(h:Alike a b n):nat (a.drop n)=nat (b.drop n):=by
 refine Jn (max (a.drop n).length (b.drop n).length) _ _ (Nat.le_max_left _ _) (Nat.le_max_right _ _) (fun q => ?_)
 have:=h (n+q) (by omega)
 unfold wd at this ⊢
 rw[List.getElem?_drop,List.getElem?_drop];exact this
theorem Gl(a:Words)(k:Nat):nat a=nat (a.take k)+4294967296^k*wd a k+4294967296^(k+1)*nat (a.drop (k+1)):=by
 by_cases h:k<a.length
 ·have hv:=List.getElem?_eq_getElem h
  rw[iZ hv];exact wB a k hv
 ·rw[bc (by omega),vk (by omega),List.drop_of_length_le (by omega),show nat []=0 from rfl,Nat.mul_zero,Nat.mul_zero,Nat.add_zero]
theorem wE{a b:Words}{k:Nat}(h:Alike a b (k+1))(cQ:wd a k<wd b k):nat a<nat b:=by
 rw[Gl a k,Gl b k,zY h]
 have h1:=ee (a.take k)
 have h2:=lC (show (a.take k).length≤k by simp;omega)
 have h3:4294967296^k*(wd a k+1)≤4294967296^k*wd b k:=Nat.mul_le_mul_left _ cQ
 rw[Nat.mul_add] at h3
 omega
theorem wF{a b:Words}{n:Nat}(ha:a.length≤n)(hb:b.length≤n):Alike a b n:=fun q hq=>by rw[vk (by omega),vk (by omega)]
theorem wG{a b:Words}(h:Alike a b 0):nat a=nat b:=by
 have:=zY h
 simpa using this
theorem ud{a b:Words}{n:Nat}(h:Alike a b (n+1))(he:wd a n=wd b n):Alike a b n:=fun q hq=>by
 by_cases Mc:q=n
 ·rw[Mc];exact he
 ·exact h q (by omega)
theorem compare(a b:Words)(ha:a.length<4611686018427387904)(hb:b.length<4611686018427387904):Cp 129 [aa a,aa b] (vI (dW (nat a) (nat b))):=by
 have loop:∀n:Nat,n<4611686018427387904→Alike a b n→cV.au a b ((n:Int)-1) (vI (dW (nat a) (nat b))):=by
  intro n
  induction n with
  |zero =>
   intro _ hd
   rw[ye (by rw[wG hd])]
   exact cV.Bf a b _ (by omega)
  |succ n ih =>
   intro hn hd
   have e:((n+1:Nat):Int)-1=(n:Int):=by omega
   have h1:=Hz a n
   have h2:=Hz b n
   rw[e]
   by_cases he:wd a n=wd b n
   ·exact cV.nr a b _ _ _ (by omega) h1 h2 he (by unfold aO;omega) (ih (by omega) (ud hd he))
   ·by_cases cQ:wd a n<wd b n
    ·rw[o7 (by have:=wE hd cQ;omega)]
     exact cV.eo a b _ _ _ _ _ (by omega) h1 h2 he h1 h2 cQ
    ·rw[qO (by have:=wE (a:=b) (b:=a) (fun q hq=>(hd q hq).symm) (show wd b n<wd a n by omega);omega)]
     exact cV.ew a b _ _ _ _ _ (by omega) h1 h2 he h1 h2 (by omega)
 exact cV.e0 a b (by unfold aO;omega) (loop _ (by omega) (wF (Nat.le_max_left _ _) (Nat.le_max_right _ _)))
theorem Jo(a b:Words)(len:Nat)(hl:len=a.length)(ha:a.length<4611686018427387904)(hb:b.length<4611686018427387904) :
  av bp 129 [.row 100000 0 len 1,.pv (aa b)] [(100000,ws a)] (.pv (vI (dW (nat a) (nat b)))) [(100000,ws a)]:=by
 have loop:∀n:Nat,n<4611686018427387904→Alike a b n→cO.au len b ((n:Int)-1) a [(100000,ws a)] (.pv (vI (dW (nat a) (nat b)))) [(100000,ws a)]:=by
  intro n
  induction n with
  |zero =>
   intro _ hd
   rw[ye (by rw[wG hd])]
   exact cO.Bf len b _ a rfl rfl (by omega)
  |succ n ih =>
   intro hn hd
   have e:((n+1:Nat):Int)-1=(n:Int):=by omega
   have h1:=atR a n len hl
   have h2:=Hz b n
   rw[e]
   by_cases he:wd a n=wd b n
   ·exact cO.nr len b _ a a _ _ rfl (by omega) h1 h2 he (by unfold aO;omega) (ih (by omega) (ud hd he))
   ·by_cases cQ:wd a n<wd b n
    ·rw[o7 (by have:=wE hd cQ;omega)]
     exact cO.eo len b _ a a _ _ a _ _ rfl rfl (by omega) h1 h2 he h1 h2 cQ
    ·rw[qO (by have:=wE (a:=b) (b:=a) (fun q hq=>(hd q hq).symm) (show wd b n<wd a n by omega);omega)]
     exact cO.ew len b _ a a _ _ a _ _ rfl rfl (by omega) h1 h2 he h1 h2 (by omega)
 exact cO.e0 a len b (by unfold aO;omega) (loop _ (by omega) (wF (by omega) (Nat.le_max_right _ _)))
theorem He(a b:Words)(len n9:Nat)(hl:len=a.length)(Ed:n9=b.length)(ha:a.length<4611686018427387904)(hb:b.length<4611686018427387904) :
  av bp 129 [.row 100000 0 len 1,.row 100001 0 n9 1] [(100000,ws a),(100001,ws b)] (.pv (vI (dW (nat a) (nat b)))) [(100000,ws a),(100001,ws b)]:=by
 have loop:∀n:Nat,n<4611686018427387904→Alike a b n→cH.au len n9 ((n:Int)-1) a b [(100000,ws a),(100001,ws b)] (.pv (vI (dW (nat a) (nat b)))) [(100000,ws a),(100001,ws b)]:=by
  intro n
  induction n with
  |zero =>
   intro _ hd
   rw[ye (by rw[wG hd])]
   exact cH.Bf len n9 _ a b rfl rfl (by omega)
  |succ n ih =>
   intro hn hd
   have e:((n+1:Nat):Int)-1=(n:Int):=by omega
   have h1:=atR a n len hl
   have h2:=atR b n n9 Ed
   rw[e]
   by_cases he:wd a n=wd b n
   ·exact cH.nr len n9 _ a b a _ b _ rfl (by omega) h1 h2 he (by unfold aO;omega) (ih (by omega) (ud hd he))
   ·by_cases cQ:wd a n<wd b n
    ·rw[o7 (by have:=wE hd cQ;omega)]
     exact cH.eo len n9 _ a b a _ b _ a _ b _ rfl rfl (by omega) h1 h2 he h1 h2 cQ
    ·rw[qO (by have:=wE (a:=b) (b:=a) (fun q hq=>(hd q hq).symm) (show wd b n<wd a n by omega);omega)]
     exact cH.ew len n9 _ a b a _ b _ a _ b _ rfl rfl (by omega) h1 h2 he h1 h2 (by omega)
 exact cH.e0 a len b n9 (by unfold aO;omega) (loop _ (by omega) (wF (by omega) (by omega)))
theorem DF(l:Words)(w:UInt32):nat (l++[w])=nat l+4294967296^l.length*w.toNat:=by
 rw[l6];simp[nat]
theorem plus(a b:Words)(ha:a.length≤2199023255552)(hb:b.length≤2199023255552):Cp 132 [aa a,aa b] (aa (words (nat a+nat b))):=by
 have loop:∀(j t carry:Nat) (site:Words),max a.length b.length+1-t=j→t≤max a.length b.length+1→site.length=t→carry≤1 →
   nat site+4294967296^t*carry=nat (a.take t)+nat (b.take t)→fK.au a b site carry t (aa (words (nat a+nat b))):=by
  intro j
  induction j with
  |zero =>
   intro t carry site hj ht hs hc hinv
   have AK:t=max a.length b.length+1:=by omega
   have Fy:nat site=nat a+nat b:=by
    rw[bc (by omega),bc (by omega)] at hinv
    have h1:=ee a
    have h2:=ee b
    have h3:=lC (show a.length≤t-1 by omega)
    have h4:=lC (show b.length≤t-1 by omega)
    have h5:(4294967296:Nat)^t=4294967296^(t-1)*4294967296:=by rw[←Nat.pow_succ];congr 1;omega
    have PY:carry=0:=by
     cases carry with
     |zero=>rfl
     |succ c =>
      have h6:4294967296^t*1≤4294967296^t*(c+1):=Nat.mul_le_mul_left _ (by omega)
      omega
    subst PY;simpa using hinv
   have:=fK.ew a b site carry t (words (nat site)) (by omega) (trim site (by omega))
   rwa[Fy] at this
  |succ j ih =>
   intro t carry site hj ht hs hc hinv
   have h1:=mF a t
   have h2:=mF b t
   obtain⟨w,hw⟩:=gK ((wd a t+wd b t+carry)%4294967296) (by omega)
   have Ji:(2:Nat)^min 32 64=4294967296:=by decide
   refine fK.eo a b site carry t _ _ (wd a t+wd b t) (wd a t+wd b t+carry) w ((wd a t+wd b t+carry)/4294967296) (by omega) (Hz a t) (Hz b t) (by omega) (by omega) hw.symm (by simp;omega) (by rw[Ji]) (by omega) ?_
   refine ih (t+1) _ (site++[w]) (by omega) (by omega) (by simpa using hs) (by omega) ?_
   rw[DF,hs,dP a t,dP b t,hw,Nat.pow_succ,Nat.mul_assoc]
   have h6:4294967296^t*((wd a t+wd b t+carry)%4294967296)+4294967296^t*(4294967296*((wd a t+wd b t+carry)/4294967296))=4294967296^t*carry+4294967296^t*wd a t+4294967296^t*wd b t:=by
    rw[←Nat.mul_add,←Nat.mul_add,←Nat.mul_add]
    congr 1
    omega
   omega
 exact fK.e0 a b (by omega) (loop _ 0 0 _ rfl (by omega) rfl (by omega) (by simp[nat]))
theorem ue{p q borrow:Nat}(hp:p<4294967296)(hq:q<4294967296)(hb:borrow≤1) :
  ∃s d d1 x z nb:Nat,(4294967296+p)%18446744073709551616=s∧((s:Nat)-(q:Nat):Int)%18446744073709551616=(d:Int)∧((d:Nat)-(borrow:Nat):Int)%18446744073709551616=(d1:Int)∧d1%4294967296=x∧d1/2^min 32 64=z ∧
   ((1:Nat)-(z:Nat):Int)%18446744073709551616=(nb:Int)∧nb≤1∧x<4294967296∧x+q+borrow=p+4294967296*nb:=by
 have e:(2:Nat)^min 32 64=4294967296:=by decide
 rw[e]
 refine⟨4294967296+p,4294967296+p-q,4294967296+p-q-borrow,_,_,1-(4294967296+p-q-borrow)/4294967296,by omega,by omega,by omega,rfl,rfl,?_,?_,?_,?_⟩
 ·have h1:(4294967296+p-q-borrow)/4294967296≤1:=by omega
  generalize (4294967296+p-q-borrow)/4294967296=u at h1 ⊢
  omega
 ·omega
 ·omega
 ·by_cases h:q+borrow≤p
  ·have h1:(4294967296+p-q-borrow)/4294967296=1:=by omega
   rw[h1];omega
  ·have h1:(4294967296+p-q-borrow)/4294967296=0:=by omega
   rw[h1];omega
theorem minus(a b:Words)(ha:a.length≤2199023255552)(lE:nat b≤nat a):Cp 146 [aa a,aa b] (aa (words (nat a-nat b))):=by
 have loop:∀(j t borrow:Nat) (site:Words),a.length-t=j→t≤a.length→site.length=t→borrow≤1 →
   nat site+nat (b.take t)=nat (a.take t)+4294967296^t*borrow→fu.au a b site borrow t (aa (words (nat a-nat b))):=by
  intro j
  induction j with
  |zero =>
   intro t borrow site hj ht hs hc hinv
   have AK:t=a.length:=by omega
   have Fy:nat site=nat a-nat b:=by
    subst AK
    rw[bc (l:=a) (by omega)] at hinv
    have h1:=ee a
    have h2:=ee site
    rw[hs] at h2
    have h3:nat (b.take a.length)=nat b:=by
     by_cases hl:b.length≤a.length
     ·exact bc hl
     ·have h4:=jO b a.length (by omega)
      have h5:nat (b.drop a.length)=0:=by
       refine Nat.eq_zero_of_not_pos fun hp => ?_
       have:=Nat.mul_le_mul_left (4294967296^a.length) hp
       omega
      rw[h5] at h4;omega
    have Em:borrow=0:=by
     refine Nat.eq_zero_of_not_pos fun hp => ?_
     have:=Nat.mul_le_mul_left (4294967296^a.length) hp
     omega
    subst Em
    omega
   have:=fu.ew a b site borrow t (words (nat site)) (by omega) (trim site (by omega))
   rwa[Fy] at this
  |succ j ih =>
   intro t borrow site hj ht hs hc hinv
   obtain⟨s,d,d1,x,z,nb,g1,g2,g3,g4,g5,g6,g7,g8,g9⟩:=ue (mF a t) (mF b t) hc
   obtain⟨w,hw⟩:=gK x g8
   refine fu.eo a b site borrow t _ s _ d d1 w z nb (by omega) (Hz a t) g1 (Hz b t) g2 g3 (by omega) (by simp;omega) g5 g6 (by omega) ?_
   refine ih (t+1) nb (site++[w]) (by omega) (by omega) (by simpa using hs) g7 ?_
   rw[DF,hs,dP a t,dP b t,hw,Nat.pow_succ,Nat.mul_assoc]
   have h6:4294967296^t*x+4294967296^t*wd b t+4294967296^t*borrow=4294967296^t*wd a t+4294967296^t*(4294967296*nb):=by
    rw[←Nat.mul_add,←Nat.mul_add,←Nat.mul_add,g9]
   omega
 exact fu.e0 a b (loop _ 0 0 _ rfl (by omega) rfl (by omega) (by simp[nat]))
theorem DG{a b U:Words}{borrow:Nat}(hl:U.length=a.length)(lE:nat b≤nat a)(hinv:nat (U.take a.length)+nat (b.take a.length)=nat (a.take a.length)+4294967296^a.length*borrow):nat U=nat a-nat b:=by
 rw[bc (by omega),bc (l:=a) (by omega)] at hinv
 have h1:=ee a
 have h2:=ee U
 rw[hl] at h2
 have h3:nat (b.take a.length)=nat b:=by
  by_cases hl:b.length≤a.length
  ·exact bc hl
  ·have h4:=jO b a.length (by omega)
   have h5:nat (b.drop a.length)=0:=by
    refine Nat.eq_zero_of_not_pos fun hp => ?_
    have:=Nat.mul_le_mul_left (4294967296^a.length) hp
    omega
   rw[h5] at h4;omega
 have Em:borrow=0:=by
  refine Nat.eq_zero_of_not_pos fun hp => ?_
  have:=Nat.mul_le_mul_left (4294967296^a.length) hp
  omega
 subst Em
 omega
theorem Bm{a b U:Words}{borrow nb t:Nat}{w:UInt32}(ht:t<a.length)(hl:U.length=a.length)(hinv:nat (U.take t)+nat (b.take t)=nat (a.take t)+4294967296^t*borrow)(h:w.toNat+wd b t+borrow=wd a t+4294967296*nb) :
  nat ((U.set t w).take (t+1))+nat (b.take (t+1))=nat (a.take (t+1))+4294967296^(t+1)*nb:=by
 rw[gf (by omega),dP a t,dP b t,Nat.pow_succ,Nat.mul_assoc]
 have h6:4294967296^t*w.toNat+4294967296^t*wd b t+4294967296^t*borrow=4294967296^t*wd a t+4294967296^t*(4294967296*nb):=by
  rw[←Nat.mul_add,←Nat.mul_add,←Nat.mul_add,h]
 omega
theorem sK{l:Words}{t q:Nat}{w:UInt32}(h:q≠t):wd (l.set t w) q=wd l q:=by
 unfold wd
 rw[List.getElem?_set_ne (by omega)]
theorem take(a b:Words)(len:Nat)(hlen:len=a.length)(ha:a.length≤2199023255553)(lE:nat b≤nat a) :
  ∃U:Words,U.length=a.length∧nat U=nat a-nat b∧av bp 130 [.row 100000 0 len 1,.pv (aa b)] [(100000,ws a)] (.pv (.bx [])) [(100000,ws U)]:=by
 subst hlen
 have loop:∀(j t borrow:Nat) (U:Words),a.length-t=j→t≤a.length→U.length=a.length→borrow≤1→(∀q,t≤q→wd U q=wd a q) →
   nat (U.take t)+nat (b.take t)=nat (a.take t)+4294967296^t*borrow →
   ∃V:Words,V.length=a.length∧nat V=nat a-nat b∧fJ.au a.length b borrow t U [(100000,ws a)] (.pv (.bx [])) [(100000,ws V)]:=by
  intro j
  induction j with
  |zero =>
   intro t borrow U hj ht hl hb gE hinv
   have AK:t=a.length:=by omega
   subst AK
   exact⟨U,hl,DG hl lE hinv,fJ.ew _ b borrow _ U (sin:=[(100000,ws a)]) rfl rfl (Nat.le_refl _)⟩
  |succ j ih =>
   intro t borrow U hj ht hl hb gE hinv
   obtain⟨s,d,d1,x,z,nb,g1,g2,g3,g4,g5,g6,g7,g8,g9⟩:=ue (mF a t) (mF b t) hb
   obtain⟨w,hw⟩:=gK x g8
   obtain⟨V,h1,h2,h3⟩:=ih (t+1) nb (U.set t w) (by omega) (by omega) (by simpa using hl) g7 (fun q hq=>by rw[sK (by omega)];exact gE q (by omega)) (Bm (by omega) hl hinv (by rw[hw];exact g9))
   refine⟨V,h1,h2,fJ.eo _ b borrow t U U _ s _ d d1 w z nb rfl (by omega) (atR U t a.length hl.symm) (by rw[gE t (Nat.le_refl t)];exact g1) (Hz b t) g2 g3 (by omega) g5 g6 (by omega) (by omega) h3⟩
 obtain⟨V,h1,h2,h3⟩:=loop _ 0 0 a rfl (by omega) rfl (by omega) (fun _ _=>rfl) (by simp[nat])
 exact⟨V,h1,h2,fJ.e0 a a.length b h3⟩
theorem Qa(a b:Words)(len n9:Nat)(hlen:len=a.length)(Qb:n9=b.length)(ha:a.length≤2199023255553)(lE:nat b≤nat a) :
  ∃U:Words,U.length=a.length∧nat U=nat a-nat b∧av bp 130 [.row 100000 0 len 1,.row 100001 0 n9 1] [(100000,ws a),(100001,ws b)] (.pv (.bx [])) [(100000,ws U),(100001,ws b)]:=by
 subst hlen
 have loop:∀(j t borrow:Nat) (U:Words),a.length-t=j→t≤a.length→U.length=a.length→borrow≤1→(∀q,t≤q→wd U q=wd a q) →
   nat (U.take t)+nat (b.take t)=nat (a.take t)+4294967296^t*borrow →
   ∃V:Words,V.length=a.length∧nat V=nat a-nat b∧ft.au a.length n9 borrow t U b [(100000,ws a),(100001,ws b)] (.pv (.bx [])) [(100000,ws V),(100001,ws b)]:=by
  intro j
  induction j with
  |zero =>
   intro t borrow U hj ht hl hb gE hinv
   have AK:t=a.length:=by omega
   subst AK
   exact⟨U,hl,DG hl lE hinv,ft.ew _ _ borrow _ U b (sin:=[(100000,ws a),(100001,ws b)]) rfl rfl (Nat.le_refl _)⟩
  |succ j ih =>
   intro t borrow U hj ht hl hb gE hinv
   obtain⟨s,d,d1,x,z,nb,g1,g2,g3,g4,g5,g6,g7,g8,g9⟩:=ue (mF a t) (mF b t) hb
   obtain⟨w,hw⟩:=gK x g8
   obtain⟨V,h1,h2,h3⟩:=ih (t+1) nb (U.set t w) (by omega) (by omega) (by simpa using hl) g7 (fun q hq=>by rw[sK (by omega)];exact gE q (by omega)) (Bm (by omega) hl hinv (by rw[hw];exact g9))
   refine⟨V,h1,h2,ft.eo _ _ borrow t U b U _ s b _ d d1 w z nb rfl (by omega) (atR U t a.length hl.symm) (by rw[gE t (Nat.le_refl t)];exact g1) (atR b t n9 Qb) g2 g3 (by omega) g5 g6 (by omega) (by omega) h3⟩
 obtain⟨V,h1,h2,h3⟩:=loop _ 0 0 a rfl (by omega) rfl (by omega) (fun _ _=>rfl) (by simp[nat])
 exact⟨V,h1,h2,ft.e0 a a.length b n9 h3⟩
theorem Hf{x y:Nat}(hx:x<4294967296)(hy:y<4294967296):((x/2)%18446744073709551616) ||| ((y*2^min 31 64)%18446744073709551616%18446744073709551616)=(y*4294967296+x)/2:=by
 have e:(2:Nat)^min 31 64=2147483648:=by decide
 rw[e,Nat.mod_mod,Nat.mod_eq_of_lt (show x/2<18446744073709551616 by omega),Nat.mod_eq_of_lt (show y*2147483648<18446744073709551616 by omega),Nat.or_comm,Nat.mul_comm y]
 have:=Nat.two_pow_add_eq_or_of_lt (i:=31) (show x/2<2^31 by omega) y
 rw[show (2:Nat)^31=2147483648 from rfl] at this
 rw[←this]
 omega
theorem Hg{a U:Words}{t:Nat}{w:UInt32}(ht:t<a.length)(hl:U.length=a.length)(hinv:nat (U.take t)=(nat a/2)%4294967296^t)(hw:w.toNat=(wd a (t+1)*4294967296+wd a t)/2%4294967296) :
  nat ((U.set t w).take (t+1))=(nat a/2)%4294967296^(t+1):=by
 rw[gf (by omega),hinv,hw]
 have g1:nat a/2/4294967296^t=nat (a.drop t)/2:=by
  rw[Nat.div_div_eq_div_mul,Nat.mul_comm,←Nat.div_div_eq_div_mul,sg a t (by omega)]
 have g2:nat (a.drop t)/2%4294967296=(wd a (t+1)*4294967296+wd a t)/2%4294967296:=by
  rw[jz a t,jz a (t+1)]
  generalize nat (a.drop (t+1+1))=r
  generalize wd a (t+1)=y
  generalize wd a t=x
  omega
 have g3:=Nat.mod_mul (a:=4294967296^t) (b:=4294967296) (x:=nat a/2)
 rw[Nat.pow_succ,g3,g1,g2]
theorem Qc(a:Words)(len:Nat)(hlen:len=a.length)(ha:a.length≤2199023255553) :
  av bp 128 [.row 100000 0 len 1] [(100000,ws a)] (.row 100000 0 (words (nat a/2)).length 1) [(100000,ws (words (nat a/2)))]:=by
 subst hlen
 have e1:(2:Nat)^min 1 64=2:=by decide
 have loop:∀(j t:Nat) (U:Words),a.length-t=j→t≤a.length→U.length=a.length→(∀q,t≤q→wd U q=wd a q)→nat (U.take t)=(nat a/2)%4294967296^t →
   fq.au a.length t U [(100000,ws a)] (.row 100000 0 (words (nat a/2)).length 1) [(100000,ws (words (nat a/2)))]:=by
  intro j
  induction j with
  |zero =>
   intro t U hj ht hl gE hinv
   have AK:t=a.length:=by omega
   subst AK
   rw[bc (by omega),Nat.mod_eq_of_lt (Nat.lt_of_le_of_lt (Nat.div_le_self _ _) (ee a))] at hinv
   have hc:=cut U (by omega)
   rw[hinv,hl] at hc
   have:=fq.ew a.length a.length U (words (nat a/2)) (words (nat a/2)).length (sin:=[(100000,ws a)]) rfl rfl (Nat.le_refl _) hc
   rw[List.take_of_length_le (Nat.le_refl _)] at this
   exact this
  |succ j ih =>
   intro t U hj ht hl gE hinv
   have h1:=mF a t
   have h2:=mF a (t+1)
   obtain⟨w,hw⟩:=gK ((wd a (t+1)*4294967296+wd a t)/2%4294967296) (Nat.mod_lt _ (by omega))
   have hA:=atR U t a.length hl.symm
   have hB:=atR U (t+1) a.length hl.symm
   rw[gE t (Nat.le_refl t)] at hA
   rw[gE (t+1) (by omega)] at hB
   refine fq.eo a.length t U U _ _ U _ _ ((wd a (t+1)*4294967296+wd a t)/2) w rfl (by omega) hA (by rw[e1]) (by omega) hB rfl (Hf h1 h2) hw.symm (by omega) ?_
   exact ih (t+1) (U.set t w) (by omega) (by omega) (by simpa using hl) (fun q hq=>by rw[sK (by omega)];exact gE q (by omega)) (Hg (by omega) hl hinv hw)
 exact fq.e0 a a.length (loop _ 0 a rfl (by omega) rfl (fun _ _=>rfl) (by simp[nat,Nat.mod_one]))
end wD
end Go.Proofs.YtfjfekodeplcoaaGreat.Sym
