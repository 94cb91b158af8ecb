/- Lemmas for the statements of this seat. -/
import Derived.Test.YtnjhplhbmapclaaGreatDoorG0
import Derived.Test.YtnjhplhbmapclaaGreatDoorP1
namespace Go.Proofs.YtnjhplhbmapclaaGreatDoor.Sym
open Go Path
set_option linter.unusedVariables false
section
variable {V R W top next hi lo head r0 bc rest:Nat}
structure Kn (V R W top next head lo r0:Nat):Prop where
 v1:(top*4294967296+next)*W≤V
 v2:V<(top*4294967296+next+1)*W
 r:R=(head*4294967296+lo)*W+r0
 r0:r0<W
 lo:lo<4294967296
 next:next<4294967296
 top:0<top
 rv:R<V*4294967296
theorem Kn.M4(h:Kn V R W top next head lo r0):R<(head*4294967296+lo+1)*W:=by
 have h1:=h.r;have h2:=h.r0
 rw[Nat.add_mul _ 1,Nat.one_mul];omega
theorem Kn.DC(h:Kn V R W top next head lo r0):0<V∧4294967296*W≤V:=by
 have h1:=h.v1
 have h2:=h.r0
 have h3:4294967296*W≤(top*4294967296+next)*W:=Nat.mul_le_mul_right _ (by have:=h.top;omega)
 omega
theorem Kn.start(h:Kn V R W top next head lo r0):R/V≤head/top:=by
 have hv:=h.DC.1
 rw[←Nat.lt_succ_iff,Nat.div_lt_iff_lt_mul hv]
 have h1:head+1≤(head/top+1)*top:=by
  have:=Nat.lt_div_mul_add (a:=head) h.top
  rw[Nat.add_mul,Nat.one_mul];omega
 have h2:(head/top+1)*((top*4294967296+next)*W)≤(head/top+1)*V:=Nat.mul_le_mul_left _ h.v1
 have h3:(head*4294967296+lo+1)*W≤(head/top+1)*((top*4294967296+next)*W):=by
  rw[←Nat.mul_assoc]
  refine Nat.mul_le_mul_right _ ?_
  rw[Nat.mul_add,←Nat.mul_assoc]
  have:=Nat.mul_le_mul_right 4294967296 h1
  have:=h.lo
  omega
 have:=h.M4
 show R<(head/top+1)*V
 omega
theorem Kn.small(h:Kn V R W top next head lo r0):R/V<4294967296:=by
 rw[Nat.div_lt_iff_lt_mul h.DC.1,Nat.mul_comm];exact h.rv
theorem Kn.less(h:Kn V R W top next head lo r0)(hg:bc*top+rest=head)(hc:rest*4294967296+lo<bc*next):R/V<bc:=by
 rw[Nat.div_lt_iff_lt_mul h.DC.1]
 have h2:bc*((top*4294967296+next)*W)≤bc*V:=Nat.mul_le_mul_left _ h.v1
 have h3:(head*4294967296+lo+1)*W≤bc*((top*4294967296+next)*W):=by
  rw[←Nat.mul_assoc]
  refine Nat.mul_le_mul_right _ ?_
  rw[Nat.mul_add,←Nat.mul_assoc,←hg,Nat.add_mul]
  omega
 have:=h.M4
 omega
theorem Kn.fits(h:Kn V R W top next head lo r0)(hg:bc*top+rest=head)(hr:4294967296≤rest):bc<4294967296:=by
 refine Nat.lt_of_not_le fun uM => ?_
 have h1:4294967296*top≤bc*top:=Nat.mul_le_mul_right _ uM
 have h2:(head*4294967296)*W≤R:=by
  rw[h.r,Nat.add_mul];omega
 have h3:(4294967296*top+4294967296)*4294967296*W≤head*4294967296*W:=Nat.mul_le_mul_right _ (Nat.mul_le_mul_right _ (by omega))
 have h4:V*4294967296<(top*4294967296+next+1)*W*4294967296:=Nat.mul_lt_mul_of_pos_right h.v2 (by omega)
 have h5:(top*4294967296+next+1)*W*4294967296≤(4294967296*top+4294967296)*W*4294967296:=Nat.mul_le_mul_right _ (Nat.mul_le_mul_right _ (by have:=h.next;omega))
 have h6:(4294967296*top+4294967296)*W*4294967296=(4294967296*top+4294967296)*4294967296*W:=by rw[Nat.mul_right_comm]
 have:=h.rv
 omega
theorem Kn.LP(h:Kn V R W top next head lo r0)(hg:bc*top+rest=head)(hl:bc<4294967296)(hc:4294967296≤rest∨bc*next≤rest*4294967296+lo):bc≤R/V+1:=by
 have hv:=h.DC.1
 cases bc with
 |zero=>exact Nat.zero_le _
 |succ g =>
  refine Nat.succ_le_succ ?_
  rw[Nat.le_div_iff_mul_le hv]
  have h0:(g+1)*V≤(g+1)*((top*4294967296+next+1)*W):=Nat.mul_le_mul_left _ (Nat.le_of_lt h.v2)
  have h1:(g+1)*((top*4294967296+next+1)*W)=((g+1)*top*4294967296+(g+1)*next+(g+1))*W:=by
   rw[←Nat.mul_assoc,Nat.mul_add,Nat.mul_add,Nat.mul_one,Nat.mul_assoc (g+1) top]
  have h2:=h.DC.2
  have h3:(g+1)*V=g*V+V:=by rw[Nat.add_mul,Nat.one_mul]
  have hr:(head*4294967296+lo)*W≤R:=by rw[h.r];omega
  rcases hc with hc|hc
  ·have h4:((g+1)*top*4294967296+(g+1)*next+(g+1))*W≤(head*4294967296+lo)*W:=by
    refine Nat.mul_le_mul_right _ ?_
    have h5:(g+1)*next+(g+1)≤(g+1)*4294967296:=by
     have:=Nat.mul_le_mul_left (g+1) (show next+1≤4294967296 by have:=h.next;omega)
     rw[Nat.mul_add,Nat.mul_one] at this;exact this
    rw[←hg,Nat.add_mul]
    omega
   omega
  ·have h4:((g+1)*top*4294967296+(g+1)*next+(g+1))*W≤(head*4294967296+lo+4294967296)*W:=by
    refine Nat.mul_le_mul_right _ ?_
    rw[←hg,Nat.add_mul];omega
   rw[Nat.add_mul _ 4294967296] at h4
   omega
end
namespace ct
theorem Fv(u:Words)(j n:Nat)(h:j+n≤u.length):nat (u.drop j)=nat ((u.drop j).take n)+4294967296^n*nat (u.drop (j+n)):=by
 have:=fI (u.drop j) n (by simp;omega)
 rw[List.drop_drop] at this
 exact this
theorem DD(U:Words)(n:Nat)(h:U.length=n+3){a b c:UInt32}(ha:U[n]? = some a)(hb:U[n+1]? = some b)(hc:U[n+2]? = some c) :
  nat U=((c.toNat*4294967296+b.toNat)*4294967296+a.toNat)*4294967296^n+nat (U.take n):=by
 have h1:=aZ hc
 have h2:=aZ hb
 have h3:=aZ ha
 rw[aC (by omega)] at h1
 rw[h1,h2,h3]
 have e1:(4294967296:Nat)^(n+1)=4294967296^n*4294967296:=Nat.pow_succ ..
 have e2:(4294967296:Nat)^(n+2)=4294967296^n*4294967296*4294967296:=by rw[Nat.pow_succ,e1]
 rw[e1,e2]
 generalize (4294967296:Nat)^n=P
 grind
theorem DE(U:Words)(n:Nat)(h:U.length=n+2){a b:UInt32}(ha:U[n]? = some a)(hb:U[n+1]? = some b) :
  nat U=(b.toNat*4294967296+a.toNat)*4294967296^n+nat (U.take n):=by
 have h2:=aZ hb
 have h3:=aZ ha
 rw[aC (by omega)] at h2
 rw[h2,h3]
 have e1:(4294967296:Nat)^(n+1)=4294967296^n*4294967296:=Nat.pow_succ ..
 rw[e1]
 generalize (4294967296:Nat)^n=P
 grind
structure Dv (a b zb v:Words) (v1 v2:UInt32) (s n m V N:Nat):Prop where
 hv:v=zb.take b.length
 wS:s<32
 Fa:a.length≤2199023255551
 hm:a.length+1=m+(n+2)
 s6:v.length=n+2
 Fw:nat v=V
 si:V<4294967296^(n+2)
 Fx:0<V
 wR:v[n+1]? = some v1
 Fy:v[n]? = some v2
 AZ:V=(v1.toNat*4294967296+v2.toNat)*4294967296^n+nat (v.take n)
 Ez:nat (v.take n)<4294967296^n
 yb:0<v1.toNat
 res:∀q r:Nat,N=q*V+r→r<V→nat a/nat b=q∧r/2^s=nat a%nat b
structure Pt (u U A C:Words) (n j R Q V:Nat):Prop where
 Ck:U.length=n+3
 Fz:A.length=j
 hu:u=A++(U++C)
 sj:R=nat U
 hQ:R/V=Q
 HP:nat C=0
 hR:R=nat (u.drop j)
 hj:j+(n+3)≤u.length
 qx:u.length≤2199023255552
theorem Jw{g Q V R r P x:Nat}(yH:Q*V+r=R)(hx:x<P)(h2:x+g*V=R+P)(Ke:Q≤g)(Kf:g≤Q+1):g=Q+1∧x+V=r+P:=by
 rcases Nat.lt_or_ge Q g with h5|h5
 ·have h6:g=Q+1:=by omega
  rw[h6,Nat.add_mul,Nat.one_mul] at h2
  exact⟨h6,by omega⟩
 ·have h6:g=Q:=by omega
  rw[h6] at h2
  omega
theorem Jx{ca V r P x y:Nat}(h:y+P*ca=x+V)(hy:y<P)(h2:x+V=r+P)(hc:ca≤1):y=r:=by
 have Gj:ca=0∨ca=1:=by omega
 rcases Gj with rfl|rfl
 ·omega
 ·omega
theorem FA {a b zb v u U A C : Words} {v1 v2 : UInt32} {s n m V N j R Q : Nat} (dv : Dv a b zb v v1 v2 s n m V N) (pt : Pt u U A C n j R Q V) :
    ∀ bc : Nat, bc < 4294967296 → Q ≤ bc → bc ≤ Q + 1 → ∃ (U1 : Words) (bo : Bool) (U2 : Words), U1.length = n + 3 ∧
          aq bh 117 [.row 100000 (0 + j * 1) (j + (n + 3) - j) 1, .pv (aa (zb.take b.length)), .pv (vU bc)] [(100000, .pure ((u : List UInt32).map ab).flatten)] (.pv (vB bo)) [(100000, .pure (((A ++ (U1 ++ C) : List UInt32)).map ab).flatten)] ∧
          (bo = false → bc = Q ∧ nat U1 = R % V) ∧
          (bo = true → bc = Q + 1 ∧ 0 < bc ∧ U2.length = n + 3 ∧ nat U2 = R % V ∧
            aq bh 118 [.row 100000 (0 + j * 1) (j + (n + 3) - j) 1, .pv (aa (zb.take b.length))] [(100000, .pure (((A ++ (U1 ++ C) : List UInt32)).map ab).flatten)] (.pv (.aY [])) [(100000, .pure (((A ++ (U2 ++ C) : List UInt32)).map ab).flatten)]) := by
  obtain ⟨hv, wS, Fa, hm, s6, Fw, si, Fx, wR, Fy, AZ, Ez, yb, res⟩ := dv
  obtain ⟨Ck, Fz, hu, sj, hQ, HP, hR, hj, qx⟩ := pt
  have A0 : (4294967296 : Nat) ^ (n + 3) = 4294967296 ^ (n + 2) * 4294967296 := Nat.pow_succ ..
  intro bc M5 Ke Kf
  have yH := Nat.div_add_mod R V
  rw [hQ] at yH
  have LQ := Nat.mod_lt R Fx
  rw [Nat.mul_comm] at yH
  rw [← hv]
  obtain ⟨U1, bo, r1, ⟨M6, Kg⟩, r3⟩ := remove A U C v bc (0 + j * 1) (j + (n + 3) - j) (by omega) (by omega) (by omega) M5 (by
    rw [Fw, Ck, A0]
    have h5 := Nat.mul_lt_mul_of_pos_left si (show 0 < 4294967296 by omega)
    have h6 := Nat.mul_le_mul_right V (Nat.le_of_lt M5)
    rw [Nat.mul_comm (4294967296 ^ (n + 2))]; omega) (by omega)
  rw [Fw, ← sj] at M6 Kg
  rw [Ck] at Kg
  have LR := cr U1
  rw [r1, Ck] at LR
  obtain ⟨U2, ca, b1, b2, b3, b4⟩ := back A U1 C v (0 + j * 1) (j + (n + 3) - j) (by omega) (by omega) (by omega) (by omega)
  rw [Fw, r1, Ck] at b3
  have LS := cr U2
  rw [b1, r1, Ck] at LS
  have OL : V < 4294967296 ^ (n + 3) := by
    have := Nat.pow_le_pow_right (n := 4294967296) (by omega) (show n + 2 ≤ n + 3 by omega)
    exact Nat.lt_of_lt_of_le si this
  clear A0 si Ez AZ res
  generalize (4294967296 : Nat) ^ (n + 3) = P3 at Kg LR b3 LS OL
  refine ⟨U1, bo, U2, by omega, by rw [show DB A U C = .pure ((u : List UInt32).map ab).flatten from by rw [hu]] at r3; exact r3, fun Jv => ?_, fun Jv => ?_⟩
  · have r2 := M6 Jv
    have : bc = Q := by
      rcases Nat.lt_or_ge (Q) bc with h5 | h5
      · have h6 : bc = Q + 1 := by omega
        rw [h6, Nat.add_mul, Nat.one_mul] at r2
        omega
      · omega
    rw [this] at r2
    exact ⟨this, by omega⟩
  · have r2 := Kg Jv
    obtain ⟨g1, g2⟩ := Jw yH LR r2 Ke Kf
    exact ⟨g1, by rw [g1]; exact Nat.succ_pos _, b1.trans (r1.trans Ck), Jx b3 LS g2 b2, b4⟩
theorem DF{a b zb v u q U A C:Words}{v1 v2:UInt32}{s n m V N j R Q:Nat}(dv:Dv a b zb v v1 v2 s n m V N)(pt:Pt u U A C n j R Q V)(JW:j+1≤m)(qx:u.length=a.length+1)(xc:q.length=m)(hA:nat u=nat A+4294967296^j*R)
  (hinv:N=nat (q.drop (j+1))*4294967296^(j+1)*V+nat u)
  (ih:∀(u q:Words),u.length=a.length+1→q.length=m→nat (u.drop j)<V→N=nat (q.drop j)*4294967296^j*V+nat u →
   aQ.ag (s:Int) zb b (a.length+1) m v1 v2 ((j:Int)-1) u q (.aY [aa (words (nat a/nat b)),aa (words (nat a%nat b))])) (U2:Words) (w:UInt32) (IE:U2.length=n+3) (Ga:nat U2=R%V) (hw:w.toNat=Q) :
  aQ.ag (s:Int) zb b (a.length+1) m v1 v2 ((j:Int)-1) (A++(U2++C)) (q.set j w) (.aY [aa (words (nat a/nat b)),aa (words (nat a%nat b))]):=by
 have Fx:=dv.Fx
 obtain⟨Ck,Fz,hu,sj,hQ,HP,hR,hj,_⟩:=pt
 have Er:(A++(U2++C)).drop j=U2++C:=by rw[←Fz];exact List.drop_left
 have M7:nat (U2++C)=R%V:=by rw[iJ,HP,Ga];simp
 refine ih _ _ ?_ (by simpa using xc) (by rw[Er,M7];exact Nat.mod_lt _ Fx) ?_
 ·have h5:u.length=(A++(U++C)).length:=by rw[←hu]
  simp only[List.length_append] at h5 ⊢
  omega
 ·have h5:nat (A++(U2++C))=nat A+4294967296^j*(R%V):=by rw[iJ,M7,Fz]
  have h7:nat ((q.set j w).drop j)=Q+4294967296*nat (q.drop (j+1)):=by
   rw[lB (v:=w) (by rw[List.getElem?_set_self (by omega)]),List.drop_set_of_lt (by omega),hw]
  rw[h5,h7,hinv,hA]
  have h8:=Nat.div_add_mod R V
  rw[hQ] at h8
  have e1:(4294967296:Nat)^(j+1)=4294967296^j*4294967296:=Nat.pow_succ ..
  rw[e1]
  generalize (4294967296:Nat)^j=P at *
  generalize nat (q.drop (j+1))=X at *
  generalize R%V=r at *
  rw[←h8]
  clear h8 hj hu sj hR hinv hA h5 h7 e1
  grind
theorem BM{a b zb v u q U A C:Words}{v1 v2 lo:UInt32}{s n m V N j R Q head r0:Nat}(dv:Dv a b zb v v1 v2 s n m V N)(pt:Pt u U A C n j R Q V)(kn:Kn V R (4294967296^n) v1.toNat v2.toNat head lo.toNat r0)(JW:j+1≤m)(qx:u.length=a.length+1)(xc:q.length=m)(CT:U[n]? = some lo)
  (next:∀(U2:Words) (w:UInt32),U2.length=n+3→nat U2=R%V→w.toNat=Q →
   aQ.ag (s:Int) zb b (a.length+1) m v1 v2 ((j:Int)-1) (A++(U2++C)) (q.set j w) (.aY [aa (words (nat a/nat b)),aa (words (nat a%nat b))])) :
  ∀(k bc rest:Nat),4294967296-rest≤k→rest<18446744073709551616-4294967296→bc*v1.toNat+rest=head→Q≤bc→bc<18446744073709551616 →
   aQ.aM (s:Int) zb b (a.length+1) m v1 v2 (((j+1:Nat):Int)-1) j (j+(n+3)) bc rest u q (.aY [aa (words (nat a/nat b)),aa (words (nat a%nat b))]):=by
 have fin:=FA dv pt
 obtain⟨hv,wS,Fa,hm,s6,Fw,si,Fx,wR,Fy,AZ,Ez,yb,res⟩:=dv
 obtain⟨Ck,Fz,hu,sj,hQ,HP,hR,hj,_⟩:=pt
 have HO:=eM lo
 have LU:=eM v1
 have LV:=eM v2
 have qP:(zb.take b.length).length=n+2:=by rw[←hv];exact s6
 have DG:(2:Nat)^min 32 64=4294967296:=by decide
 have ky:∀(k:Nat) (w:UInt32),U[k]? = some w→u[(0+j*1)+k]? = some w:=fun k w hk=>by
  rw[hu,Nat.zero_add,Nat.mul_one,←Fz];exact dP A U C k w hk
 have DH:=kn.small
 rw[hQ] at DH
 have Jy:∀{g r:Nat},g*v1.toNat+r=head→r*4294967296+lo.toNat<g*v2.toNat→Q<g:=fun h1 h2=>by rw[←hQ];exact kn.less h1 h2
 have DI:∀{g r:Nat},g*v1.toNat+r=head→g<4294967296→(4294967296≤r∨g*v2.toNat≤r*4294967296+lo.toNat)→g≤Q+1:=fun h1 h2 h3=>by rw[←hQ];exact kn.LP h1 h2 h3
 clear si Ez AZ res sj hR
 intro k
 induction k with
 |zero =>
  intro bc rest hk Jz hg hq Ke
  have hr:4294967296≤rest:=by omega
  have uY:=kn.fits hg hr
  obtain⟨U1,bo,U2,f1,f2,f3,f4⟩:=fin bc uY hq (DI hg uY (.inl hr))
  cases bo with
  |false =>
   obtain⟨g1,g2⟩:=f3 rfl
   obtain⟨w,hw⟩:=dX bc uY
   refine aQ.MW (s:Int) zb b (a.length+1) m v1 v2 _ j (j+(n+3)) bc rest u q _ false w j hr f2 rfl (by omega) (by omega) (by omega) (by omega) (by unfold ar;omega) ?_
   rw[show (((j+1:Nat):Int)-1-1)=(j:Int)-1 from by omega]
   exact next U1 w f1 g2 (by omega)
  |true =>
   obtain⟨g1,g0,g2,g3,g4⟩:=f4 rfl
   obtain⟨w,hw⟩:=dX (bc-1) (by omega)
   refine aQ.MV (s:Int) zb b (a.length+1) m v1 v2 _ j (j+(n+3)) bc rest u q _ true (bc-1) _ w j hr f2 rfl (by omega) g4 (by omega) (by omega) (by omega) (by omega) (by unfold ar;omega) ?_
   rw[show (((j+1:Nat):Int)-1-1)=(j:Int)-1 from by omega]
   exact next U2 w g2 g3 (by omega)
 |succ k ihk =>
  intro bc rest hk Jz hg hq Ke
  by_cases hr:4294967296≤rest
  ·have uY:=kn.fits hg hr
   obtain⟨U1,bo,U2,f1,f2,f3,f4⟩:=fin bc uY hq (DI hg uY (.inl hr))
   cases bo with
   |false =>
    obtain⟨g1,g2⟩:=f3 rfl
    obtain⟨w,hw⟩:=dX bc uY
    refine aQ.MW (s:Int) zb b (a.length+1) m v1 v2 _ j (j+(n+3)) bc rest u q _ false w j hr f2 rfl (by omega) (by omega) (by omega) (by omega) (by unfold ar;omega) ?_
    rw[show (((j+1:Nat):Int)-1-1)=(j:Int)-1 from by omega]
    exact next U1 w f1 g2 (by omega)
   |true =>
    obtain⟨g1,g0,g2,g3,g4⟩:=f4 rfl
    obtain⟨w,hw⟩:=dX (bc-1) (by omega)
    refine aQ.MV (s:Int) zb b (a.length+1) m v1 v2 _ j (j+(n+3)) bc rest u q _ true (bc-1) _ w j hr f2 rfl (by omega) g4 (by omega) (by omega) (by omega) (by omega) (by unfold ar;omega) ?_
    rw[show (((j+1:Nat):Int)-1-1)=(j:Int)-1 from by omega]
    exact next U2 w g2 g3 (by omega)
  have J1:=DH
  have step:∀(HQ:Q<bc),(bc-1)*v1.toNat+(rest+v1.toNat)=head:=by
   intro HQ
   have:bc=(bc-1)+1:=by omega
   rw[this,Nat.add_mul,Nat.one_mul] at hg
   omega
  by_cases Kf:4294967296≤bc
  ·refine aQ.tY (s:Int) zb b (a.length+1) m v1 v2 _ j (j+(n+3)) bc rest u q (bc-1) (rest+v1.toNat) (by omega) Kf (by omega) (by omega) ?_
   exact ihk (bc-1) (rest+v1.toNat) (by omega) (by omega) (step (by omega)) (by omega) (by omega)
  ·have CV:bc*v2.toNat<18446744073709551616:=by have:=pW (show bc<4294967296 by omega) LV;omega
   have DA:rest*2^min 32 64%18446744073709551616%18446744073709551616 ||| lo.toNat%18446744073709551616=rest*4294967296+lo.toNat:=by
    rw[DG,Nat.mod_mod];exact wP (by omega) HO
   by_cases hc:rest*4294967296+lo.toNat<bc*v2.toNat
   ·have HQ:=Jy hg hc
    refine aQ.sf (s:Int) zb b (a.length+1) m v1 v2 _ j (j+(n+3)) bc rest u q (bc*v2.toNat) _ n lo (rest*4294967296+lo.toNat) (bc-1) (rest+v1.toNat) (by omega) (by omega) (Nat.mod_eq_of_lt CV) rfl (by rw[qP];unfold ar;omega) (by rw[qP];omega) (by omega) (ky n lo CT) DA hc (by omega) (by omega) ?_
    exact ihk (bc-1) (rest+v1.toNat) (by omega) (by omega) (step HQ) (by omega) (by omega)
   ·obtain⟨U1,bo,U2,f1,f2,f3,f4⟩:=fin bc (by omega) hq (DI hg (by omega) (.inr (by omega)))
    cases bo with
    |false =>
     obtain⟨g1,g2⟩:=f3 rfl
     obtain⟨w,hw⟩:=dX bc (by omega)
     refine aQ.Ov (s:Int) zb b (a.length+1) m v1 v2 _ j (j+(n+3)) bc rest u q (bc*v2.toNat) _ n lo (rest*4294967296+lo.toNat) _ false w j (by omega) (by omega) (Nat.mod_eq_of_lt CV) rfl (by rw[qP];unfold ar;omega) (by rw[qP];omega) (by omega) (ky n lo CT) DA (by omega) f2 rfl (by omega) (by omega) (by omega) (by omega) (by unfold ar;omega) ?_
     rw[show (((j+1:Nat):Int)-1-1)=(j:Int)-1 from by omega]
     exact next U1 w f1 g2 (by omega)
    |true =>
     obtain⟨g1,g0,g2,g3,g4⟩:=f4 rfl
     obtain⟨w,hw⟩:=dX (bc-1) (by omega)
     refine aQ.BI (s:Int) zb b (a.length+1) m v1 v2 _ j (j+(n+3)) bc rest u q (bc*v2.toNat) _ n lo (rest*4294967296+lo.toNat) _ true (bc-1) _ w j (by omega) (by omega) (Nat.mod_eq_of_lt CV) rfl (by rw[qP];unfold ar;omega) (by rw[qP];omega) (by omega) (ky n lo CT) DA (by omega) f2 rfl (by omega) g4 (by omega) (by omega) (by omega) (by omega) (by unfold ar;omega) ?_
     rw[show (((j+1:Nat):Int)-1-1)=(j:Int)-1 from by omega]
     exact next U2 w g2 g3 (by omega)
set_option maxHeartbeats 1000000 in
theorem DJ{a b zb v u q:Words}{v1 v2:UInt32}{s n m V N j:Nat}(dv:Dv a b zb v v1 v2 s n m V N)(hj:j+1≤m)(qx:u.length=a.length+1)(xc:q.length=m)(wT:nat (u.drop (j+1))<V)(hinv:N=nat (q.drop (j+1))*4294967296^(j+1)*V+nat u)
  (ih:∀(u q:Words),u.length=a.length+1→q.length=m→nat (u.drop j)<V→N=nat (q.drop j)*4294967296^j*V+nat u →
   aQ.ag (s:Int) zb b (a.length+1) m v1 v2 ((j:Int)-1) u q (.aY [aa (words (nat a/nat b)),aa (words (nat a%nat b))])) :
  aQ.ag (s:Int) zb b (a.length+1) m v1 v2 (((j+1:Nat):Int)-1) u q (.aY [aa (words (nat a/nat b)),aa (words (nat a%nat b))]):=by
 have wS:=dv.wS
 have Fa:=dv.Fa
 have hm:=dv.hm
 have s6:=dv.s6
 have si:=dv.si
 have AZ:=dv.AZ
 have Ez:=dv.Ez
 have yb:=dv.yb
 have hv:=dv.hv
 obtain⟨U,hU⟩:∃U,U=(u.drop j).take (n+3):=⟨_,rfl⟩
 obtain⟨A,hA⟩:∃A,A=u.take j:=⟨_,rfl⟩
 obtain⟨C,hC⟩:∃C,C=u.drop (j+(n+3)):=⟨_,rfl⟩
 have Ck:U.length=n+3:=by rw[hU];simp;omega
 have Fz:A.length=j:=by rw[hA];simp;omega
 have hu:u=A++(U++C):=by
  rw[hA,hU,hC,show j+(n+3)=j+(n+3) from rfl,←List.drop_drop,List.take_append_drop,List.take_append_drop]
 obtain⟨R,hR⟩:∃R,R=nat (u.drop j):=⟨_,rfl⟩
 obtain⟨x,hx⟩:∃x,u[j]? = some x:=⟨_,List.getElem?_eq_getElem (by omega)⟩
 have JA:R<V*4294967296:=by
  rw[hR,lB hx]
  have h2:=eM x
  omega
 have sj:=Fv u j (n+3) (by omega)
 rw[←hU,←hC,←hR] at sj
 have A0:(4294967296:Nat)^(n+3)=4294967296^(n+2)*4294967296:=Nat.pow_succ ..
 have HP:nat C=0:=by
  refine Nat.eq_zero_of_not_pos fun hp => ?_
  have h2:=Nat.mul_le_mul_left (4294967296^(n+3)) hp
  omega
 rw[HP,Nat.mul_zero,Nat.add_zero] at sj
 obtain⟨hi,M8⟩:∃x,U[n+2]? = some x:=⟨_,List.getElem?_eq_getElem (by omega)⟩
 obtain⟨mi,M9⟩:∃x,U[n+1]? = some x:=⟨_,List.getElem?_eq_getElem (by omega)⟩
 obtain⟨lo,CT⟩:∃x,U[n]? = some x:=⟨_,List.getElem?_eq_getElem (by omega)⟩
 have h3:=DD U n Ck CT M9 M8
 have LW:=cr (U.take n)
 rw[List.length_take,Nat.min_eq_left (by omega)] at LW
 obtain⟨head,Gk⟩:∃h,h=hi.toNat*4294967296+mi.toNat:=⟨_,rfl⟩
 rw[←Gk,←sj] at h3
 have kn:Kn V R (4294967296^n) v1.toNat v2.toNat head lo.toNat (nat (U.take n)) :=
  ⟨by rw[AZ];omega,by rw[AZ,Nat.add_mul _ 1,Nat.one_mul];omega,h3,LW,eM lo,eM v2,yb,JA⟩
 obtain⟨Q,hQ⟩:∃Q,R/V=Q:=⟨_,rfl⟩
 have DK:=kn.start
 rw[hQ] at DK
 have pt:Pt u U A C n j R Q V:=⟨Ck,Fz,hu,sj,hQ,HP,hR,by omega,by omega⟩
 have Na:nat u=nat A+4294967296^j*R:=by
  have:=fI u j (by omega)
  rw[←hA,←hR] at this;exact this
 have LY:=eM hi
 have LZ:=eM mi
 have HO:=eM lo
 have LU:=eM v1
 have qP:(zb.take b.length).length=n+2:=by rw[←hv];exact s6
 have DG:(2:Nat)^min 32 64=4294967296:=by decide
 have ky:∀(k:Nat) (w:UInt32),U[k]? = some w→u[(0+j*1)+k]? = some w:=fun k w hk=>by
  rw[hu,Nat.zero_add,Nat.mul_one,←Fz];exact dP A U C k w hk
 have inner:=BM dv pt kn hj qx xc CT (DF dv pt hj qx xc Na hinv ih)
 clear si Ez AZ sj A0 h3 LW JA wT hinv Na ih
 have Pp:head<18446744073709551616:=by omega
 have Pq:head/v1.toNat≤head:=Nat.div_le_self _ _
 have LQ:=Nat.mod_lt head yb
 have hz:(hi.toNat*2^min 32 64)%18446744073709551616%18446744073709551616 ||| mi.toNat%18446744073709551616=head:=by
  rw[DG,Nat.mod_mod,Gk];exact wP LY LZ
 refine aQ.l10 (s:Int) zb b (a.length+1) m v1 v2 _ u q j (j+(n+3)) hi _ (n+1) mi head (head/v1.toNat) (head%v1.toNat) (by omega) (by rw[qP];unfold ar;omega) (by rw[qP];unfold ar;omega) (by omega) (by rw[qP];omega) (by omega) (by omega) (by omega) (by rw[qP];omega)
  (by rw[qP];exact ky (n+2) hi M8) rfl (by rw[qP];unfold ar;omega) (by rw[qP];omega) (by omega) (ky (n+1) mi M9) hz (by omega) (by rw[Nat.mod_eq_of_lt (by omega)]) rfl ?_
 refine inner 4294967296 _ _ (by omega) (by omega) ?_ DK (by omega)
 have:=Nat.div_add_mod head v1.toNat
 rw[Nat.mul_comm] at this;exact this
set_option maxHeartbeats 1000000 in
theorem nv(a b:Words)(ha:cn a=true)(hb:cn b=true)(fP:b≠[])(Fa:a.length≤2199023255551)(Du:b.length≤2199023255552) :
  Cp 89 [aa a,aa b] (.aY [aa (words (nat a/nat b)),aa (words (nat a%nat b))]):=by
 have Gl:0<nat b:=k9 hb fP
 have yc:=compare a b ha hb (by omega)
 by_cases cS:nat a<nat b
 ·rw[kR (by omega)] at yc
  rw[Nat.div_eq_of_lt cS,Nat.mod_eq_of_lt cS]
  exact aQ.e0 a b (-1) _ yc (by omega) (trim a (by omega))
 have HT:0≤bX (nat a) (nat b):=by unfold bX;split<;>(try split)<;>omega
 by_cases h1:b.length=1
 ·obtain⟨v,rfl⟩:∃v,b=[v]:=List.length_eq_one_iff.1 h1
  have hn:nat [v]=v.toNat:=by simp[nat]
  rw[hn] at Gl HT yc ⊢
  have hs:=short a v (by omega) (by omega)
  have ht:=trim [UInt32.ofNat (nat a%v.toNat)] (by simp)
  have Ga:nat [UInt32.ofNat (nat a%v.toNat)]=nat a%v.toNat:=by
   have:=Nat.mod_lt (nat a) Gl
   have:=eM v
   simp only[nat,nL];omega
  rw[Ga] at ht
  exact aQ.e1 a [v] _ v _ _ _ yc HT rfl rfl hs ht
 obtain⟨n,hn⟩:∃n,b.length=n+2:=⟨b.length-2,by have:=List.length_pos_iff.2 fP;omega⟩
 obtain⟨bt,L0⟩:∃v,b[n+1]? = some v:=⟨_,List.getElem?_eq_getElem (by omega)⟩
 have L1:bt.toNat≠0:=(iO (by rw[hn];exact L0)).1 hb
 have OM:=mn (n:=bt.toNat) (k:=32) (eM bt)
 obtain⟨kb,Pr,ON,OO⟩:=nO L1
 obtain⟨s,hs⟩:∃s,s=32-blen bt.toNat:=⟨_,rfl⟩
 have wS:s<32:=by omega
 obtain⟨zb,OP,L2,L4,_⟩:=up b s Du wS
 obtain⟨za,L6,JB,_,L7⟩:=up a s (by omega) wS
 have hP:=Nat.two_pow_pos s
 have JC:nat b<4294967296^(n+1)*2^(kb+1):=by
  have h2:=aZ L0
  rw[aC (by omega)] at h2
  have h3:=cr (b.take (n+1))
  rw[List.length_take,Nat.min_eq_left (by omega)] at h3
  have h4:=Nat.mul_le_mul_left (4294967296^(n+1)) (show bt.toNat+1≤2^(kb+1) by omega)
  rw[Nat.mul_add] at h4;omega
 have si:nat b*2^s<4294967296^(n+2):=by
  have h2:=Nat.mul_lt_mul_of_pos_right JC hP
  have h3:2^(kb+1)*2^s=4294967296:=by rw[←Nat.pow_add,show kb+1+s=32 from by omega]
  rw[Nat.mul_assoc,h3,←Nat.pow_succ] at h2
  exact h2
 obtain⟨v,hv⟩:∃v,v=zb.take b.length:=⟨_,rfl⟩
 have s6:v.length=n+2:=by rw[hv];simp;omega
 have Fw:nat v=nat b*2^s:=by
  rw[←L2,hv]
  have h2:=fI zb b.length (by omega)
  have h3:nat (zb.drop b.length)=0:=by
   refine Nat.eq_zero_of_not_pos fun hp => ?_
   have:=Nat.mul_le_mul_left (4294967296^b.length) hp
   rw[hn] at this h2
   omega
  rw[h3] at h2;omega
 obtain⟨V,hV⟩:∃V,V=nat b*2^s:=⟨_,rfl⟩
 rw[←hV] at Fw si
 have L8:4294967296^(n+1)≤nat b:=by
  have:=ya hb fP
  rwa[hn] at this
 have L9:4294967296^(n+1)≤V:=by
  have:=Nat.mul_le_mul_left (nat b) hP
  omega
 have Fx:0<V:=Nat.lt_of_lt_of_le (Nat.pow_pos (by omega)) L9
 obtain⟨v1,wR⟩:∃x,v[n+1]? = some x:=⟨_,List.getElem?_eq_getElem (by omega)⟩
 obtain⟨v2,Fy⟩:∃x,v[n]? = some x:=⟨_,List.getElem?_eq_getElem (by omega)⟩
 have AZ:=DE v n s6 Fy wR
 rw[Fw] at AZ
 have Ez:=cr (v.take n)
 rw[List.length_take,Nat.min_eq_left (by omega)] at Ez
 have yb:0<v1.toNat:=by
  refine Nat.pos_of_ne_zero fun h0 => ?_
  rw[h0] at AZ
  have h2:=eM v2
  have h3:(v2.toNat+1)*4294967296^n≤4294967296*4294967296^n:=Nat.mul_le_mul_right _ h2
  have h4:(4294967296:Nat)^(n+1)=4294967296*4294967296^n:=by rw[Nat.pow_succ,Nat.mul_comm]
  rw[Nat.add_mul] at h3
  simp at AZ
  omega
 have FZ:b.length≤a.length:=by
  refine Nat.le_of_not_lt fun h => ?_
  have h2:=cr a
  have h3:=il (show a.length≤n+1 by omega)
  omega
 obtain⟨m,hm⟩:∃m,a.length+1=m+(n+2):=⟨a.length+1-(n+2),by omega⟩
 obtain⟨N,hN⟩:∃N,N=nat a*2^s:=⟨_,rfl⟩
 rw[←hN] at JB
 have res:∀q r:Nat,N=q*V+r→r<V→nat a/nat b=q∧r/2^s=nat a%nat b:=by
  intro q r h2 h3
  have h4:N/V=nat a/nat b:=by rw[hN,hV];exact Nat.mul_div_mul_right _ _ hP
  have h5:N%V=nat a%nat b*2^s:=by rw[hN,hV];exact Nat.mul_mod_mul_right _ _ _
  have h6:N/V=q:=by rw[h2,Nat.mul_comm,Nat.mul_add_div Fx,Nat.div_eq_of_lt h3,Nat.add_zero]
  have h7:N%V=r:=by rw[h2,Nat.mul_comm,Nat.mul_add_mod,Nat.mod_eq_of_lt h3]
  refine⟨by rw[←h4,h6],?_⟩
  rw[←h7,h5,Nat.mul_div_cancel _ hP]
 have dv:Dv a b zb v v1 v2 s n m V N:=⟨hv,wS,Fa,hm,s6,Fw,si,Fx,wR,Fy,AZ,Ez,yb,res⟩
 have loop:∀(jj:Nat) (u q:Words),jj≤m→u.length=a.length+1→q.length=m→nat (u.drop jj)<V→N=nat (q.drop jj)*4294967296^jj*V+nat u →
   aQ.ag (s:Int) zb b (a.length+1) m v1 v2 ((jj:Int)-1) u q (.aY [aa (words (nat a/nat b)),aa (words (nat a%nat b))]):=by
  intro jj
  induction jj with
  |zero =>
   intro u q _ qx xc wT hinv
   simp only[List.drop_zero,Nat.pow_zero,Nat.mul_one] at hinv wT
   obtain⟨e1,e2⟩:=res _ _ hinv wT
   rw[e1,←e2]
   exact aQ.cW (s:Int) zb b (a.length+1) m v1 v2 _ u q _ _ (by omega) xc.symm qx.symm (trim q (by omega)) (down u s (by omega) wS)
  |succ j ih =>
   intro u q hj qx xc wT hinv
   exact DJ dv hj qx xc wT hinv (fun u q=>ih u q (by omega))
 have qP:(zb.take b.length).length=n+2:=by rw[←hv];exact s6
 refine aQ.e2 a b _ (n+1) bt (s:Int) zb za (a.length+1) m (n+1) v1 n v2 yc HT h1 (by unfold ar;omega) (by omega) L0 (by rw[hs];exact Gi.ug bt) L4 (by omega) L7 (by rw[qP];unfold ar;omega) (by rw[qP];omega) (by omega) (by rw[qP];unfold ar;omega) (by rw[qP];omega) (by rw[←hv];exact wR) (by rw[qP];unfold ar;omega) (by rw[qP];omega) (by rw[←hv];exact Fy) (by unfold ar;omega) ?_
 refine loop m za _ (Nat.le_refl _) L6 (by simp) ?_ ?_
 ·
  have h2:=fI za m (by omega)
  refine Nat.lt_of_not_le fun h => ?_
  have h3:=Nat.mul_le_mul_left (4294967296^m) h
  have h4:4294967296^m*V≤N:=by omega
  have h5:nat a*2^s<4294967296^a.length*2^s:=Nat.mul_lt_mul_of_pos_right (cr a) hP
  have h6:4294967296^m*V=4294967296^m*nat b*2^s:=by rw[hV,Nat.mul_assoc]
  have h7:4294967296^a.length≤4294967296^m*nat b:=by
   have:=Nat.mul_le_mul_left (4294967296^m) L8
   rw[←Nat.pow_add,show m+(n+1)=a.length from by omega] at this
   exact this
  have h8:=Nat.mul_le_mul_right (2^s) h7
  omega
 ·rw[List.drop_of_length_le (by simp),JB];simp[nat]
end ct
end Go.Proofs.YtnjhplhbmapclaaGreatDoor.Sym
namespace Go.Proofs.YtnjhplhbmapclaaGreatDoor.Sym
open Go Path
set_option linter.unusedVariables false
abbrev wl(i:Int):Nat:=(words i.natAbs).length
theorem gB(i:Int):wl (-i)=wl i:=by unfold wl;rw[Int.natAbs_neg]
theorem uh{i:Int}{k:Nat}(h:i.natAbs<4294967296^k):wl i≤k:=cx h
theorem A1(i:Int):i.natAbs<4294967296^wl i:=fJ _
theorem ui(i j:Int):wl (i+j)≤max (wl i) (wl j)+1:=by
 refine uh ?_
 have h1:=A1 i
 have h2:=A1 j
 have h3:=il (Nat.le_max_left (wl i) (wl j))
 have h4:=il (Nat.le_max_right (wl i) (wl j))
 have h5:=Int.natAbs_add_le i j
 rw[Nat.pow_succ]
 omega
theorem cK(i j:Int):wl (i*j)≤wl i+wl j:=by
 refine uh ?_
 rw[Int.natAbs_mul,Nat.pow_add]
 exact Nat.mul_lt_mul'' (A1 i) (A1 j)
theorem aJ(a:aj):wl a.val≤a.bw.length:=by
 unfold wl
 rw[ct.wO]
 cases a.valid<;>simp
namespace ct
def kq(i:Int):Int:=bX i 0
theorem A2{i:Int}(h:i<0):kq i = -1:=kR h
theorem A3{i:Int}(h:0<i):kq i=1:=mm h
theorem yd:kq 0=0:=rfl
theorem Sign(a:aj)(h:Fit a.bw):Cp 47 [a.pv] (vI (kq a.val)):=by
 have hm:=bw a h
 by_cases h0:a.val=0
 ·rw[h0,yd]
  exact jL.e0 a _ hm (by rw[h0];rfl)
 ·have hl:(words a.val.natAbs).length≠0:=by rw[Ne,bO];omega
  have hv:a.valid=true:=by
   cases hv:a.valid with
   |true=>rfl
   |false=>exact absurd (by unfold aj.val;rw[hv];rfl) h0
  by_cases hn:a.val<0
  ·rw[A2 hn]
   have:=sE a
   rw[hv,decide_eq_true hn] at this
   exact jL.e1 a _ hm hl (by simpa using this.symm)
  ·rw[A3 (by omega)]
   have:=sE a
   rw[hv,decide_eq_false hn] at this
   exact jL.e2 a _ hm hl (by simpa using this.symm)
theorem FB(a b:aj)(ha:Fit a.bw)(hb:Fit b.bw):Cp 48 [a.pv,b.pv] (vI (bX a.val b.val)):=by
 have h1:=Sign a ha
 have h2:=Sign b hb
 have h3:=bw a ha
 have h4:=bw b hb
 have h5:=neg a ha
 have la:=aJ a
 by_cases he:kq a.val=kq b.val
 ·have hc:=compare (words a.val.natAbs) (words b.val.natAbs) (dY _) (dY _) (by have:(words a.val.natAbs).length≤a.bw.length:=la;omega)
  rw[au,au] at hc
  unfold kq bX at he
  by_cases hn:a.val<0
  ·have FX:b.val<0:=by
    rw[if_pos hn] at he
    split at he
    ·assumption
    ·split at he<;>omega
   have e:bX a.val b.val = -(bX (a.val.natAbs:Int) (b.val.natAbs:Int)):=by
    unfold bX
    split<;>split<;>(try split)<;>(try split)<;>omega
   rw[e]
   refine iX.e2 a b _ _ _ _ _ _ h1 h2 (by unfold kq bX;exact he) h3 h4 hc h5 (decide_eq_true hn) ?_
   unfold ar bX;split<;>(try split)<;>omega
  ·have FX:¬b.val<0:=by
    intro cQ
    rw[if_neg hn,if_pos cQ] at he
    split at he<;>omega
   have e:bX a.val b.val=bX (a.val.natAbs:Int) (b.val.natAbs:Int):=by
    unfold bX
    split<;>split<;>(try split)<;>(try split)<;>omega
   rw[e]
   exact iX.e3 a b _ _ _ _ _ _ h1 h2 (by unfold kq bX;exact he) h3 h4 hc h5 (decide_eq_false hn)
 ·by_cases cS:kq a.val<kq b.val
  ·rw[kR (by
    unfold kq bX at cS
    split at cS<;>split at cS<;>(try split at cS)<;>(try split at cS)<;>omega)]
   exact iX.e0 a b _ _ h1 h2 he cS
  ·rw[mm (by
    unfold kq bX at cS he
    split at cS<;>split at cS<;>(try split at cS)<;>(try split at cS)<;>(simp_all;try omega))]
   exact iX.e1 a b _ _ h1 h2 he (by omega)
theorem Neg(a:aj)(h:Fit a.bw):Cp 76 [a.pv] (Sym.whole (-a.val)).pv:=by
 have h3:=bw a h
 have h5:=neg a h
 have la:=aJ a
 have hw:=whole (!decide (a.val<0)) (words a.val.natAbs) (by have:(words a.val.natAbs).length≤a.bw.length:=la;omega)
 have e:(bif !decide (a.val<0) then -(nat (words a.val.natAbs):Int) else (nat (words a.val.natAbs):Int)) = -a.val:=by
  rw[au]
  by_cases h:a.val<0
  ·simp[h];omega
  ·simp[h];omega
 rw[e] at hw
 exact rG.e0 a _ _ _ h5 h3 hw
theorem Add(a b:aj)(ha:Fit a.bw)(hb:Fit b.bw):Cp 66 [a.pv,b.pv] (Sym.whole (a.val+b.val)).pv:=by
 have h1:=bw a ha
 have h2:=bw b hb
 have h3:=neg a ha
 have h4:=neg b hb
 have la:(words a.val.natAbs).length≤a.bw.length:=aJ a
 have lb:(words b.val.natAbs).length≤b.bw.length:=aJ b
 by_cases hs:decide (a.val<0)=decide (b.val<0)
 ·have hp:=plus (words a.val.natAbs) (words b.val.natAbs) (by omega) (by omega)
  rw[au,au] at hp
  have hl:=cx (n:=a.val.natAbs+b.val.natAbs) (k:=max (words a.val.natAbs).length (words b.val.natAbs).length+1) (by
   have g1:=fJ a.val.natAbs
   have g2:=fJ b.val.natAbs
   have g3:=il (Nat.le_max_left (words a.val.natAbs).length (words b.val.natAbs).length)
   have g4:=il (Nat.le_max_right (words a.val.natAbs).length (words b.val.natAbs).length)
   rw[Nat.pow_succ];omega)
  have hw:=whole (decide (a.val<0)) (words (a.val.natAbs+b.val.natAbs)) (by omega)
  rw[au] at hw
  have e:(bif decide (a.val<0) then -((a.val.natAbs+b.val.natAbs:Nat):Int) else ((a.val.natAbs+b.val.natAbs:Nat):Int))=a.val+b.val:=by
   by_cases h:a.val<0
   ·have:b.val<0:=by simpa[h] using hs.symm
    simp[h];omega
   ·have:¬b.val<0:=by simpa[h] using hs.symm
    simp[h];omega
  rw[e] at hw
  exact kG.e0 a b _ _ _ _ _ _ _ h1 h2 h3 h4 hs h3 hp hw
 ·have hc:=compare (words a.val.natAbs) (words b.val.natAbs) (dY _) (dY _) (by omega)
  rw[au,au] at hc
  by_cases uM:b.val.natAbs≤a.val.natAbs
  ·have hl:=less (words a.val.natAbs) (words b.val.natAbs) (by omega) (by rw[au,au];exact uM)
   rw[au,au] at hl
   have hlen:=cd (show a.val.natAbs-b.val.natAbs≤a.val.natAbs by omega)
   have hw:=whole (decide (a.val<0)) (words (a.val.natAbs-b.val.natAbs)) (by omega)
   rw[au] at hw
   have e:(bif decide (a.val<0) then -((a.val.natAbs-b.val.natAbs:Nat):Int) else ((a.val.natAbs-b.val.natAbs:Nat):Int))=a.val+b.val:=by
    by_cases h:a.val<0
    ·have:¬b.val<0:=by simpa[h] using hs
     simp[h];omega
    ·have:b.val<0:=by simpa[h] using hs
     simp[h];omega
   rw[e] at hw
   exact kG.e1 a b _ _ _ _ _ _ _ _ h1 h2 h3 h4 hs hc (by unfold bX;split<;>(try split)<;>omega) h3 hl hw
  ·have hl:=less (words b.val.natAbs) (words a.val.natAbs) (by omega) (by rw[au,au];omega)
   rw[au,au] at hl
   have hlen:=cd (show b.val.natAbs-a.val.natAbs≤b.val.natAbs by omega)
   have hw:=whole (decide (b.val<0)) (words (b.val.natAbs-a.val.natAbs)) (by omega)
   rw[au] at hw
   have e:(bif decide (b.val<0) then -((b.val.natAbs-a.val.natAbs:Nat):Int) else ((b.val.natAbs-a.val.natAbs:Nat):Int))=a.val+b.val:=by
    by_cases h:b.val<0
    ·have:¬a.val<0:=by intro h';simp[h,h'] at hs
     simp[h];omega
    ·have:a.val<0:=by
      refine Classical.byContradiction fun h' => ?_
      simp[h,h'] at hs
     simp[h];omega
   rw[e] at hw
   exact kG.e2 a b _ _ _ _ _ _ _ _ h1 h2 h3 h4 hs hc (by unfold bX;split<;>(try split)<;>omega) h4 hl hw
theorem Mul(a b:aj)(ha:Fit a.bw)(hb:Fit b.bw):Cp 67 [a.pv,b.pv] (Sym.whole (a.val*b.val)).pv:=by
 have h1:=bw a ha
 have h2:=bw b hb
 have h3:=neg a ha
 have h4:=neg b hb
 have la:(words a.val.natAbs).length≤a.bw.length:=aJ a
 have lb:(words b.val.natAbs).length≤b.bw.length:=aJ b
 have ht:=times (words a.val.natAbs) (words b.val.natAbs) (by omega) (by omega)
 rw[au,au] at ht
 have hl:(words (a.val.natAbs*b.val.natAbs)).length≤(words a.val.natAbs).length+(words b.val.natAbs).length:=by
  have:=cK a.val b.val
  unfold wl at this
  rw[Int.natAbs_mul] at this;exact this
 have hw:=whole (!(decide (a.val<0)==decide (b.val<0))) (words (a.val.natAbs*b.val.natAbs)) (by omega)
 rw[au] at hw
 have e:(bif !(decide (a.val<0)==decide (b.val<0)) then -((a.val.natAbs*b.val.natAbs:Nat):Int) else ((a.val.natAbs*b.val.natAbs:Nat):Int))=a.val*b.val:=by
  by_cases h:a.val<0<;>by_cases h':b.val<0<;>simp only[h,h',decide_true,decide_false,beq_self_eq_true,Bool.not_true,cond_false,Bool.not_false,cond_true,show(true==false)=false from rfl,show(false==true)=false from rfl]
  ·rw[←Int.natAbs_mul,Int.natAbs_of_nonneg (Int.mul_nonneg_of_nonpos_of_nonpos (by omega) (by omega))]
  ·rw[←Int.natAbs_mul,Int.ofNat_natAbs_of_nonpos (Int.mul_nonpos_of_nonpos_of_nonneg (by omega) (by omega))];omega
  ·rw[←Int.natAbs_mul,Int.ofNat_natAbs_of_nonpos (Int.mul_nonpos_of_nonneg_of_nonpos (by omega) (by omega))];omega
  ·rw[←Int.natAbs_mul,Int.natAbs_of_nonneg (Int.mul_nonneg (by omega) (by omega))]
 rw[e] at hw
 exact rF.e0 a b _ _ _ _ _ _ h3 h4 h1 h2 ht hw
theorem Of(n:Int)(h:ar n):Cp 73 [vI n] (Sym.whole n).pv:=by
 obtain⟨g1,g2⟩:=h
 have DG:(2:Nat)^min 32 64=4294967296:=by decide
 have key:∀m:Nat,m=n.natAbs→∃w w1:UInt32,m%4294967296=w.toNat∧m/4294967296%4294967296=w1.toNat∧Cp 90 [(vB (decide (n<0))),(aa [w,w1])] (Sym.whole n).pv:=by
  intro m hm
  obtain⟨w,hw⟩:=dX (m%4294967296) (by omega)
  obtain⟨w1,F7⟩:=dX (m/4294967296%4294967296) (by omega)
  refine⟨w,w1,hw.symm,F7.symm,?_⟩
  have:=whole (decide (n<0)) [w,w1] (by simp)
  have e:nat [w,w1]=m:=by simp only[nat,hw,F7];omega
  rw[e,hm] at this
  have e2:(bif decide (n<0) then -(n.natAbs:Int) else (n.natAbs:Int))=n:=by
   by_cases h:n<0
   ·simp[h];omega
   ·simp[h];omega
  rw[e2] at this;exact this
 by_cases hn:n<0
 ·obtain⟨w,w1,q1,q2,q3⟩:=key n.natAbs rfl
  exact oP.e0 n (n%18446744073709551616).toNat n.natAbs w _ w1 _ (by omega) hn (by omega) q1 (by rw[DG]) q2 q3
 ·obtain⟨w,w1,q1,q2,q3⟩:=key n.natAbs rfl
  exact oP.e1 n n.natAbs w _ w1 _ (by omega) (by omega) q1 (by rw[DG]) q2 q3
theorem Div(a b:aj)(ha:Fit a.bw)(hb:Fit b.bw)(h0:b.val≠0) :
  Cp 94 [a.pv,b.pv] (.aY [(Sym.whole (a.val/b.val)).pv,(Sym.whole (a.val%b.val)).pv,.bD]):=by
 have h1:=bw a ha
 have h2:=bw b hb
 have h3:=neg a ha
 have h4:=neg b hb
 have la:(words a.val.natAbs).length≤a.bw.length:=aJ a
 have lb:(words b.val.natAbs).length≤b.bw.length:=aJ b
 have AX:(words b.val.natAbs).length≠0:=by rw[Ne,bO];omega
 have Gl:0<b.val.natAbs:=by omega
 have hd:=nv (words a.val.natAbs) (words b.val.natAbs) (dY _) (dY _) (by intro e;rw[e] at AX;simp at AX) (by omega) (by omega)
 rw[au,au] at hd
 have hq:=cd (Nat.div_le_self a.val.natAbs b.val.natAbs)
 have hr:=cd (Nat.le_of_lt (Nat.mod_lt a.val.natAbs Gl))
 have yH:=Nat.div_add_mod a.val.natAbs b.val.natAbs
 have LQ:=Nat.mod_lt a.val.natAbs Gl
 generalize hQ:a.val.natAbs/b.val.natAbs=q at *
 generalize hR:a.val.natAbs%b.val.natAbs=r at *
 have sb:b.val=if b.val<0 then -(b.val.natAbs:Int) else (b.val.natAbs:Int):=by split<;>omega
 have uniq:∀x y:Int,a.val=b.val*x+y→0≤y→y<b.val.natAbs→a.val/b.val=x∧a.val%b.val=y:=by
  intro x y e1 e2 e3
  rcases Int.lt_or_gt_of_ne h0 with cQ|cQ
  ·exact(Int.ediv_emod_unique' cQ).2 ⟨by omega,e2,by omega⟩
  ·exact(Int.ediv_emod_unique cQ).2 ⟨by omega,e2,by omega⟩
 by_cases hn:a.val<0
 ·by_cases B5:r=0
  ·have hw:=whole (!(decide (a.val<0)==decide (b.val<0))) (words q) (by omega)
   have vk:=whole false (words r) (by omega)
   rw[au] at hw vk
   subst B5
   have e:a.val/b.val=(bif !(decide (a.val<0)==decide (b.val<0)) then -(q:Int) else (q:Int))∧a.val%b.val=0:=by
    refine uniq _ 0 ?_ (by omega) (by omega)
    have og:(a.val.natAbs:Int)=(b.val.natAbs:Int)*q:=by rw[←yH];simp
    by_cases h':b.val<0
    ·simp only[hn,h',decide_true,beq_self_eq_true,Bool.not_true,cond_false]
     have:(b.val.natAbs:Int) = -b.val:=by omega
     rw[this] at og
     have:(a.val.natAbs:Int) = -a.val:=by omega
     rw[this,Int.neg_mul] at og
     omega
    ·simp only[hn,h',decide_true,decide_false,show(true==false)=false from rfl,Bool.not_false,cond_true]
     have:(b.val.natAbs:Int)=b.val:=by omega
     rw[this] at og
     have:(a.val.natAbs:Int) = -a.val:=by omega
     rw[this] at og
     rw[Int.mul_neg];omega
   rw[e.1,e.2]
   exact kH.e2 a b _ _ _ _ _ _ _ _ _ h2 AX h1 hd h3 (decide_eq_true hn) (by rw[cJ];simp) h3 h4 hw vk
  ·have hp:=plus (words q) [1] (by omega) (by simp)
   have hl:=less (words b.val.natAbs) (words r) (by omega) (by rw[au,au];omega)
   rw[au] at hp
   rw[au,au] at hl
   have e1:nat [1]=1:=rfl
   rw[e1] at hp
   have El:=cx (n:=q+1) (k:=(words q).length+1) (by have:=fJ q;rw[Nat.pow_succ];omega)
   have IE:=cd (show b.val.natAbs-r≤b.val.natAbs by omega)
   have hw:=whole (!(decide (a.val<0)==decide (b.val<0))) (words (q+1)) (by omega)
   have vk:=whole false (words (b.val.natAbs-r)) (by omega)
   rw[au] at hw vk
   have e:a.val/b.val=(bif !(decide (a.val<0)==decide (b.val<0)) then -((q+1:Nat):Int) else ((q+1:Nat):Int))∧a.val%b.val=((b.val.natAbs-r:Nat):Int):=by
    refine uniq _ _ ?_ (by omega) (by omega)
    have og:(a.val.natAbs:Int)=(b.val.natAbs:Int)*q+r:=by rw[←yH];simp
    by_cases h':b.val<0
    ·simp only[hn,h',decide_true,beq_self_eq_true,Bool.not_true,cond_false]
     have e5:(b.val.natAbs:Int) = -b.val:=by omega
     rw[e5] at og
     have:(a.val.natAbs:Int) = -a.val:=by omega
     rw[this,Int.neg_mul] at og
     rw[show ((q+1:Nat):Int)=(q:Int)+1 from by omega,Int.mul_add]
     omega
    ·simp only[hn,h',decide_true,decide_false,show(true==false)=false from rfl,Bool.not_false,cond_true]
     have:(b.val.natAbs:Int)=b.val:=by omega
     rw[this] at og
     have:(a.val.natAbs:Int) = -a.val:=by omega
     rw[this] at og
     rw[show ((q+1:Nat):Int)=(q:Int)+1 from by omega,Int.mul_neg,Int.mul_add];omega
   rw[e.1,e.2]
   exact kH.e1 a b _ _ _ _ _ _ _ _ _ _ _ h2 AX h1 hd h3 (decide_eq_true hn) (by have:=(bO (n:=r)).1;omega) hp hl h3 h4 hw vk
 ·have hw:=whole (!(decide (a.val<0)==decide (b.val<0))) (words q) (by omega)
  have vk:=whole false (words r) (by omega)
  rw[au] at hw vk
  have e:a.val/b.val=(bif !(decide (a.val<0)==decide (b.val<0)) then -(q:Int) else (q:Int))∧a.val%b.val=(r:Int):=by
   refine uniq _ _ ?_ (by omega) (by omega)
   have og:(a.val.natAbs:Int)=(b.val.natAbs:Int)*q+r:=by rw[←yH];simp
   by_cases h':b.val<0
   ·simp only[hn,h',decide_true,decide_false,show(false==true)=false from rfl,Bool.not_false,cond_true]
    have e5:(b.val.natAbs:Int) = -b.val:=by omega
    rw[e5] at og
    have:(a.val.natAbs:Int)=a.val:=by omega
    rw[this,Int.neg_mul] at og
    rw[Int.mul_neg];omega
   ·simp only[hn,h',decide_false,beq_self_eq_true,Bool.not_true,cond_false]
    have:(b.val.natAbs:Int)=b.val:=by omega
    rw[this] at og
    have:(a.val.natAbs:Int)=a.val:=by omega
    rw[this] at og
    omega
  rw[e.1,e.2]
  exact kH.e3 a b _ _ _ _ _ _ _ _ _ h2 AX h1 hd h3 (decide_eq_false hn) h3 h4 hw vk
theorem Gcd(a b:aj)(ha:Fit a.bw)(hb:Fit b.bw):Cp 61 [a.pv,b.pv] (Sym.whole (Nat.gcd a.val.natAbs b.val.natAbs)).pv:=by
 have h1:=bw a ha
 have h2:=bw b hb
 have la:(words a.val.natAbs).length≤a.bw.length:=aJ a
 have lb:(words b.val.natAbs).length≤b.bw.length:=aJ b
 have loop:∀(k x y:Nat),y≤k→(words x).length≤1099511627776→(words y).length≤1099511627776→gJ.ag (words x) (words y) (Sym.whole (Nat.gcd x y)).pv:=by
  intro k
  induction k with
  |zero =>
   intro x y hy hx _
   have:y=0:=by omega
   subst this
   have hw:=whole false (words x) (by omega)
   rw[au] at hw
   rw[Nat.gcd_zero_right]
   exact gJ.cW _ _ _ (by rw[cJ];simp) hw
  |succ k ih =>
   intro x y hy hx Nb
   by_cases h0:y=0
   ·subst h0
    have hw:=whole false (words x) (by omega)
    rw[au] at hw
    rw[Nat.gcd_zero_right]
    exact gJ.cW _ _ _ (by rw[cJ];simp) hw
   ·have Nc:(words y).length≠0:=by rw[Ne,bO];exact h0
    have hd:=nv (words x) (words y) (dY _) (dY _) (by intro e;rw[e] at Nc;simp at Nc) (by omega) (by omega)
    rw[au,au] at hd
    have hm:=Nat.mod_lt x (show 0<y by omega)
    refine gJ.l10 _ _ _ _ (by omega) hd ?_
    rw[Nat.gcd_comm,Nat.gcd_rec,Nat.gcd_comm]
    exact ih y (x%y) (by omega) Nb (Nat.le_trans (cd (Nat.le_of_lt hm)) Nb)
 exact gJ.e0 a b _ _ h1 h2 (loop _ _ _ (Nat.le_refl _) (by omega) (by omega))
end ct
abbrev ws(a:Words):SC := .pure ((a:List UInt32).map ab).flatten
namespace qn
open ct
theorem Valid(a:aj)(h:Fit a.bw):Cp 114 [a.pv] (vB a.valid):=by
 unfold aj.valid
 rw[bP]
 by_cases h0:a.bw.length=0
 ·simp only[h0,decide_true,cond_true]
  exact fU.e0 a h0
 ·simp only[h0,decide_false,cond_false]
  obtain⟨v,hv⟩:∃v,a.bw[a.bw.length-1]? = some v:=⟨_,List.getElem?_eq_getElem (by omega)⟩
  have:=fU.e1 a (a.bw.length-1) v h0 (by unfold ar;omega) (by omega) hv
  have e:cn a.bw=((v.toNat:Int) != 0):=by
   have h1:=iO hv
   by_cases h2:v.toNat=0
   ·have h3:((v.toNat:Int) != 0)=false:=by simp[h2]
    rw[h3]
    cases hc:cn a.bw with
    |true=>exact absurd h2 (h1.1 hc)
    |false=>rfl
   ·have h3:((v.toNat:Int) != 0)=true:=by simp;omega
    rw[h3];exact h1.2 h2
  rw[e];exact this
theorem bw(a:aj)(h:Fit a.bw):Cp 85 [a.pv] (aa (words a.val.natAbs)):=by
 rw[wO]
 cases hv:a.valid with
 |false=>exact ic.e0 a a.valid (Valid a h) hv
 |true=>exact ic.e1 a a.valid (Valid a h) hv
theorem neg(a:aj)(h:Fit a.bw):Cp 86 [a.pv] (vB (decide (a.val<0))):=by
 rw[sE]
 cases hv:a.valid with
 |false=>exact ie.e1 a a.valid (Valid a h) hv
 |true=>rw[Bool.true_and];exact ie.e0 a a.valid (Valid a h) hv
theorem trimmed{l:Words}{n:Nat}{v:UInt32}(hv:l[n]? = some v)(h0:v.toNat=0)(hn:n+1=l.length):nat (l.take n)=nat l:=by
 have:=aZ hv
 rw[aC (by omega),h0] at this
 omega
theorem trim(a:Words)(h:a.length≤35184372088832):Cp 88 [aa a] (aa (words (nat a))):=by
 have loop:∀(n:Nat) (l:Words),l.length=n→n≤35184372088832→cG.ag l (aa (words (nat l))):=by
  intro n
  induction n with
  |zero =>
   intro l hl _
   have:l=[]:=List.eq_nil_of_length_eq_zero hl
   subst this
   exact cG.mD [] (by simp)
  |succ n ih =>
   intro l hl hb
   obtain⟨v,hv⟩:∃v,l[n]? = some v:=⟨_,List.getElem?_eq_getElem (by omega)⟩
   by_cases h0:v.toNat=0
   ·refine cG.l10 l n v n (by omega) (by unfold ar;omega) (by omega) (by omega) hv h0 (by omega) (by omega) ?_
    have:=ih (l.take n) (by simp;omega) (by omega)
    rwa[trimmed hv h0 hl.symm] at this
   ·rw[nr ((iO (v:=v) (by rw[hl];exact hv)).2 h0) rfl]
    exact cG.cW l n v (by omega) (by unfold ar;omega) (by omega) (by omega) hv h0
 exact cG.e0 a (by simp;omega) (loop _ a rfl h)
theorem Gm(a:Words)(h:a.length≤35184372088832):aq bh 88 [.pv (aa a)] [] (.row 0 0 (words (nat a)).length 1) [(0,ws (words (nat a)))]:=by
 have loop:∀(n:Nat) (l:Words),l.length=n→n≤35184372088832→cw.ag l [] (.row 0 0 (words (nat l)).length 1) [(0,ws (words (nat l)))]:=by
  intro n
  induction n with
  |zero =>
   intro l hl _
   have:l=[]:=List.eq_nil_of_length_eq_zero hl
   subst this
   exact cw.mD [] rfl rfl (by simp)
  |succ n ih =>
   intro l hl hb
   obtain⟨v,hv⟩:∃v,l[n]? = some v:=⟨_,List.getElem?_eq_getElem (by omega)⟩
   by_cases h0:v.toNat=0
   ·refine cw.l10 l n v n rfl (by omega) (by unfold ar;omega) (by omega) (by omega) hv h0 (by omega) (by omega) ?_
    have:=ih (l.take n) (by simp;omega) (by omega)
    rwa[trimmed hv h0 hl.symm] at this
   ·rw[nr ((iO (v:=v) (by rw[hl];exact hv)).2 h0) rfl]
    exact cw.cW l n v rfl rfl (by omega) (by unfold ar;omega) (by omega) (by omega) hv h0
 exact cw.e0 a (by simp;omega) (loop _ a rfl h)
theorem cut(a:Words)(h:a.length≤35184372088832):aq bh 122 [.row 100000 0 a.length 1] [(100000,ws a)] (.row 100000 0 (words (nat a)).length 1) [(100000,ws (words (nat a)))]:=by
 have loop:∀n:Nat,n≤a.length→nat (a.take n)=nat a→cU.ag n a [(100000,ws a)] (.row 100000 0 (words (nat a)).length 1) [(100000,ws (words (nat a)))]:=by
  intro n
  induction n with
  |zero =>
   intro _ h2
   have:nat a=0:=by rw[←h2];rfl
   rw[this,cJ]
   have:=cU.mD 0 a (sin:=[(100000,ws a)]) rfl rfl (Nat.le_refl 0)
   exact this
  |succ n ih =>
   intro h1 h2
   obtain⟨v,hv⟩:∃v,a[n]? = some v:=⟨_,List.getElem?_eq_getElem (by omega)⟩
   by_cases h0:v.toNat=0
   ·refine cU.l10 _ a n v n rfl (by omega) (by unfold ar;omega) (by omega) (by omega) hv h0 (by omega) (by omega) (ih (by omega) ?_)
    rw[aZ hv,h0] at h2
    omega
   ·have e:words (nat a)=a.take (n+1):=by
     refine nr ?_ h2
     refine(iO (v:=v) ?_).2 h0
     rw[List.length_take,Nat.min_eq_left h1,Nat.add_sub_cancel,List.getElem?_take,if_pos (by omega)]
     exact hv
    have:=cU.cW (n+1) a n v (sin:=[(100000,ws a)]) rfl rfl (by omega) (by unfold ar;omega) (by omega) (by omega) hv h0
    rw[e,List.length_take,Nat.min_eq_left h1]
    exact this
 exact cU.e0 a a.length (loop a.length (Nat.le_refl _) (aC (Nat.le_refl _)))
theorem form(neg:Bool)(m:Words)(h:m.length≤35184372088832):Cp 91 [vB neg,aa m] (Sym.whole (bif neg then -(nat m:Int) else (nat m:Int))).pv:=by
 have ht:=trim m h
 by_cases h0:nat m=0
 ·have:=gy.e0 neg m _ ht (by rw[h0,cJ];rfl)
  rw[h0]
  cases neg<;>exact this
 ·have hl:(words (nat m)).length≠0:=by rw[Ne,bO];exact h0
  have:=gy.e1 neg m _ ht hl
  cases neg with
  |false =>
   have e:decide ((nat m:Int)<0)=false:=by simp
   simp only[Sym.whole,cond_false,e,Int.natAbs_natCast]
   exact this
  |true =>
   have e:decide (-(nat m:Int)<0)=true:=by simp;omega
   simp only[Sym.whole,cond_true,e,Int.natAbs_neg,Int.natAbs_natCast]
   exact this
theorem at'(a:Words)(i:Nat):Cp 125 [aa a,vI (i:Int)] (vU (wd a i)):=by
 unfold wd
 cases h:a[i]? with
 |none =>
  have:=List.getElem?_eq_none_iff.1 h
  exact iF.e1 a i (by omega)
 |some v =>
  have:=(List.getElem?_eq_some_iff.1 h).1
  exact iF.e0 a i i v (by omega) rfl h
theorem atR(a:Words)(i:Nat)(len:Nat)(hl:len=a.length):aq bh 125 [.row 100000 0 len 1,.pv (vI (i:Int))] [(100000,ws a)] (.pv (vU (wd a i))) [(100000,ws a)]:=by
 subst hl
 unfold wd
 cases h:a[i]? with
 |none =>
  have:=List.getElem?_eq_none_iff.1 h
  exact ig.e1 a a.length i (by omega)
 |some v =>
  have:=(List.getElem?_eq_some_iff.1 h).1
  exact ig.e0 a a.length i i v (by omega) rfl this h
def Alike(a b:Words)(n:Nat):Prop:=∀q,n≤q→wd a q=wd b q
theorem DL:∀(n:Nat) (a b:Words),a.length≤n→b.length≤n→(∀q,wd a q=wd b q)→nat a=nat b
 |0,a,b,ha,hb,_=>by
  have h1:a=[]:=List.eq_nil_of_length_eq_zero (by omega)
  have h2:b=[]:=List.eq_nil_of_length_eq_zero (by omega)
  rw[h1,h2]
 |n+1,a,b,ha,hb,h=>by
  have h1:=fk a 0
  have h2:=fk b 0
  have hw:∀(c:Words) (q:Nat),wd (c.drop 1) q=wd c (q+1):=fun c q=>by unfold wd;rw[List.getElem?_drop,Nat.add_comm]
  have:=DL n (a.drop 1) (b.drop 1) (by simp;omega) (by simp;omega) (fun q=>by rw[hw,hw];exact h (q+1))
  simp only[List.drop_zero,Nat.zero_add] at h1 h2
  rw[h1,h2,this,h 0]
theorem uj{a b:Words}{n:Nat}(h:Alike a b n):nat (a.drop n)=nat (b.drop n):=by
 refine DL (max (a.drop n).length (b.drop n).length) _ _ (Nat.le_max_left _ _) (Nat.le_max_right _ _) (fun q => ?_)
 have:=h (n+q) (by omega)
 unfold wd at this ⊢
 rw[List.getElem?_drop,List.getElem?_drop];exact this
theorem A4(a:Words)(k:Nat):nat a=nat (a.take k)+4294967296^k*wd a k+4294967296^(k+1)*nat (a.drop (k+1)):=by
 by_cases h:k<a.length
 ·have hv:=List.getElem?_eq_getElem h
  rw[eZ hv];exact qW a k hv
 ·rw[aC (by omega),pU (by omega),List.drop_of_length_le (by omega),show nat []=0 from rfl,Nat.mul_zero,Nat.mul_zero,Nat.add_zero]
theorem qX{a b:Words}{k:Nat}(h:Alike a b (k+1))(cS:wd a k<wd b k):nat a<nat b:=by
 rw[A4 a k,A4 b k,uj h]
 have h1:=cr (a.take k)
 have h2:=il (show (a.take k).length≤k by simp;omega)
 have h3:4294967296^k*(wd a k+1)≤4294967296^k*wd b k:=Nat.mul_le_mul_left _ cS
 rw[Nat.mul_add] at h3
 omega
theorem qY{a b:Words}{n:Nat}(ha:a.length≤n)(hb:b.length≤n):Alike a b n:=fun q hq=>by rw[pU (by omega),pU (by omega)]
theorem qZ{a b:Words}(h:Alike a b 0):nat a=nat b:=by
 have:=uj h
 simpa using this
theorem oW{a b:Words}{n:Nat}(h:Alike a b (n+1))(he:wd a n=wd b n):Alike a b n:=fun q hq=>by
 by_cases Gn:q=n
 ·rw[Gn];exact he
 ·exact h q (by omega)
theorem compare(a b:Words)(ha:a.length<4611686018427387904)(hb:b.length<4611686018427387904):Cp 101 [aa a,aa b] (vI (bX (nat a) (nat b))):=by
 have loop:∀n:Nat,n<4611686018427387904→Alike a b n→bH.ag a b ((n:Int)-1) (vI (bX (nat a) (nat b))):=by
  intro n
  induction n with
  |zero =>
   intro _ hd
   rw[sF (by rw[qZ hd])]
   exact bH.zE a b _ (by omega)
  |succ n ih =>
   intro hn hd
   have e:((n+1:Nat):Int)-1=(n:Int):=by omega
   have h1:=at' a n
   have h2:=at' b n
   rw[e]
   by_cases he:wd a n=wd b n
   ·exact bH.mD a b _ _ _ (by omega) h1 h2 he (by unfold ar;omega) (ih (by omega) (oW hd he))
   ·by_cases cS:wd a n<wd b n
    ·rw[kR (by have:=qX hd cS;omega)]
     exact bH.l10 a b _ _ _ _ _ (by omega) h1 h2 he h1 h2 cS
    ·rw[mm (by have:=qX (a:=b) (b:=a) (fun q hq=>(hd q hq).symm) (show wd b n<wd a n by omega);omega)]
     exact bH.cW a b _ _ _ _ _ (by omega) h1 h2 he h1 h2 (by omega)
 exact bH.e0 a b (by unfold ar;omega) (loop _ (by omega) (qY (Nat.le_max_left _ _) (Nat.le_max_right _ _)))
theorem DM(a b:Words)(len:Nat)(hl:len=a.length)(ha:a.length<4611686018427387904)(hb:b.length<4611686018427387904) :
  aq bh 101 [.row 100000 0 len 1,.pv (aa b)] [(100000,ws a)] (.pv (vI (bX (nat a) (nat b)))) [(100000,ws a)]:=by
 have loop:∀n:Nat,n<4611686018427387904→Alike a b n→bB.ag len b ((n:Int)-1) a [(100000,ws a)] (.pv (vI (bX (nat a) (nat b)))) [(100000,ws a)]:=by
  intro n
  induction n with
  |zero =>
   intro _ hd
   rw[sF (by rw[qZ hd])]
   exact bB.zE len b _ a rfl rfl (by omega)
  |succ n ih =>
   intro hn hd
   have e:((n+1:Nat):Int)-1=(n:Int):=by omega
   have h1:=atR a n len hl
   have h2:=at' b n
   rw[e]
   by_cases he:wd a n=wd b n
   ·exact bB.mD len b _ a a _ _ rfl (by omega) h1 h2 he (by unfold ar;omega) (ih (by omega) (oW hd he))
   ·by_cases cS:wd a n<wd b n
    ·rw[kR (by have:=qX hd cS;omega)]
     exact bB.l10 len b _ a a _ _ a _ _ rfl rfl (by omega) h1 h2 he h1 h2 cS
    ·rw[mm (by have:=qX (a:=b) (b:=a) (fun q hq=>(hd q hq).symm) (show wd b n<wd a n by omega);omega)]
     exact bB.cW len b _ a a _ _ a _ _ rfl rfl (by omega) h1 h2 he h1 h2 (by omega)
 exact bB.e0 a len b (by unfold ar;omega) (loop _ (by omega) (qY (by omega) (Nat.le_max_right _ _)))
theorem BN(a b:Words)(len kd:Nat)(hl:len=a.length)(El:kd=b.length)(ha:a.length<4611686018427387904)(hb:b.length<4611686018427387904) :
  aq bh 101 [.row 100000 0 len 1,.row 100001 0 kd 1] [(100000,ws a),(100001,ws b)] (.pv (vI (bX (nat a) (nat b)))) [(100000,ws a),(100001,ws b)]:=by
 have loop:∀n:Nat,n<4611686018427387904→Alike a b n→bx.ag len kd ((n:Int)-1) a b [(100000,ws a),(100001,ws b)] (.pv (vI (bX (nat a) (nat b)))) [(100000,ws a),(100001,ws b)]:=by
  intro n
  induction n with
  |zero =>
   intro _ hd
   rw[sF (by rw[qZ hd])]
   exact bx.zE len kd _ a b rfl rfl (by omega)
  |succ n ih =>
   intro hn hd
   have e:((n+1:Nat):Int)-1=(n:Int):=by omega
   have h1:=atR a n len hl
   have h2:=atR b n kd El
   rw[e]
   by_cases he:wd a n=wd b n
   ·exact bx.mD len kd _ a b a _ b _ rfl (by omega) h1 h2 he (by unfold ar;omega) (ih (by omega) (oW hd he))
   ·by_cases cS:wd a n<wd b n
    ·rw[kR (by have:=qX hd cS;omega)]
     exact bx.l10 len kd _ a b a _ b _ a _ b _ rfl rfl (by omega) h1 h2 he h1 h2 cS
    ·rw[mm (by have:=qX (a:=b) (b:=a) (fun q hq=>(hd q hq).symm) (show wd b n<wd a n by omega);omega)]
     exact bx.cW len kd _ a b a _ b _ a _ b _ rfl rfl (by omega) h1 h2 he h1 h2 (by omega)
 exact bx.e0 a len b kd (by unfold ar;omega) (loop _ (by omega) (qY (by omega) (by omega)))
theorem ye(l:Words)(w:UInt32):nat (l++[w])=nat l+4294967296^l.length*w.toNat:=by
 rw[iJ];simp[nat]
theorem plus(a b:Words)(ha:a.length≤2199023255552)(hb:b.length≤2199023255552):Cp 100 [aa a,aa b] (aa (words (nat a+nat b))):=by
 have loop:∀(j t carry:Nat) (site:Words),max a.length b.length+1-t=j→t≤max a.length b.length+1→site.length=t→carry≤1 →
   nat site+4294967296^t*carry=nat (a.take t)+nat (b.take t)→dk.ag a b site carry t (aa (words (nat a+nat b))):=by
  intro j
  induction j with
  |zero =>
   intro t carry site hj ht hs hc hinv
   have pG:t=max a.length b.length+1:=by omega
   have z7:nat site=nat a+nat b:=by
    rw[aC (by omega),aC (by omega)] at hinv
    have h1:=cr a
    have h2:=cr b
    have h3:=il (show a.length≤t-1 by omega)
    have h4:=il (show b.length≤t-1 by omega)
    have h5:(4294967296:Nat)^t=4294967296^(t-1)*4294967296:=by rw[←Nat.pow_succ];congr 1;omega
    have Cj:carry=0:=by
     cases carry with
     |zero=>rfl
     |succ c =>
      have h6:4294967296^t*1≤4294967296^t*(c+1):=Nat.mul_le_mul_left _ (by omega)
      omega
    subst Cj;simpa using hinv
   have:=dk.cW a b site carry t (words (nat site)) (by omega) (trim site (by omega))
   rwa[z7] at this
  |succ j ih =>
   intro t carry site hj ht hs hc hinv
   have h1:=jb a t
   have h2:=jb b t
   obtain⟨w,hw⟩:=dX ((wd a t+wd b t+carry)%4294967296) (by omega)
   have DG:(2:Nat)^min 32 64=4294967296:=by decide
   refine dk.l10 a b site carry t _ _ (wd a t+wd b t) (wd a t+wd b t+carry) w ((wd a t+wd b t+carry)/4294967296) (by omega) (at' a t) (at' b t) (by omega) (by omega) hw.symm (by simp;omega) (by rw[DG]) (by omega) ?_
   refine ih (t+1) _ (site++[w]) (by omega) (by omega) (by simpa using hs) (by omega) ?_
   rw[ye,hs,cf a t,cf b t,hw,Nat.pow_succ,Nat.mul_assoc]
   have h6:4294967296^t*((wd a t+wd b t+carry)%4294967296)+4294967296^t*(4294967296*((wd a t+wd b t+carry)/4294967296))=4294967296^t*carry+4294967296^t*wd a t+4294967296^t*wd b t:=by
    rw[←Nat.mul_add,←Nat.mul_add,←Nat.mul_add]
    congr 1
    omega
   omega
 exact dk.e0 a b (by omega) (loop _ 0 0 _ rfl (by omega) rfl (by omega) (by simp[nat]))
theorem oX{p q borrow:Nat}(hp:p<4294967296)(hq:q<4294967296)(hb:borrow≤1) :
  ∃s d d1 x z nb:Nat,(4294967296+p)%18446744073709551616=s∧((s:Nat)-(q:Nat):Int)%18446744073709551616=(d:Int)∧((d:Nat)-(borrow:Nat):Int)%18446744073709551616=(d1:Int)∧d1%4294967296=x∧d1/2^min 32 64=z ∧
   ((1:Nat)-(z:Nat):Int)%18446744073709551616=(nb:Int)∧nb≤1∧x<4294967296∧x+q+borrow=p+4294967296*nb:=by
 have e:(2:Nat)^min 32 64=4294967296:=by decide
 rw[e]
 refine⟨4294967296+p,4294967296+p-q,4294967296+p-q-borrow,_,_,1-(4294967296+p-q-borrow)/4294967296,by omega,by omega,by omega,rfl,rfl,?_,?_,?_,?_⟩
 ·have h1:(4294967296+p-q-borrow)/4294967296≤1:=by omega
  generalize (4294967296+p-q-borrow)/4294967296=u at h1 ⊢
  omega
 ·omega
 ·omega
 ·by_cases h:q+borrow≤p
  ·have h1:(4294967296+p-q-borrow)/4294967296=1:=by omega
   rw[h1];omega
  ·have h1:(4294967296+p-q-borrow)/4294967296=0:=by omega
   rw[h1];omega
theorem minus(a b:Words)(ha:a.length≤2199023255552)(pV:nat b≤nat a):Cp 102 [aa a,aa b] (aa (words (nat a-nat b))):=by
 have loop:∀(j t borrow:Nat) (site:Words),a.length-t=j→t≤a.length→site.length=t→borrow≤1 →
   nat site+nat (b.take t)=nat (a.take t)+4294967296^t*borrow→cZ.ag a b site borrow t (aa (words (nat a-nat b))):=by
  intro j
  induction j with
  |zero =>
   intro t borrow site hj ht hs hc hinv
   have pG:t=a.length:=by omega
   have z7:nat site=nat a-nat b:=by
    subst pG
    rw[aC (l:=a) (by omega)] at hinv
    have h1:=cr a
    have h2:=cr site
    rw[hs] at h2
    have h3:nat (b.take a.length)=nat b:=by
     by_cases hl:b.length≤a.length
     ·exact aC hl
     ·have h4:=fI b a.length (by omega)
      have h5:nat (b.drop a.length)=0:=by
       refine Nat.eq_zero_of_not_pos fun hp => ?_
       have:=Nat.mul_le_mul_left (4294967296^a.length) hp
       omega
      rw[h5] at h4;omega
    have AX:borrow=0:=by
     refine Nat.eq_zero_of_not_pos fun hp => ?_
     have:=Nat.mul_le_mul_left (4294967296^a.length) hp
     omega
    subst AX
    omega
   have:=cZ.cW a b site borrow t (words (nat site)) (by omega) (trim site (by omega))
   rwa[z7] at this
  |succ j ih =>
   intro t borrow site hj ht hs hc hinv
   obtain⟨s,d,d1,x,z,nb,g1,g2,g3,g4,g5,g6,g7,g8,g9⟩:=oX (jb a t) (jb b t) hc
   obtain⟨w,hw⟩:=dX x g8
   refine cZ.l10 a b site borrow t _ s _ d d1 w z nb (by omega) (at' a t) g1 (at' b t) g2 g3 (by omega) (by simp;omega) g5 g6 (by omega) ?_
   refine ih (t+1) nb (site++[w]) (by omega) (by omega) (by simpa using hs) g7 ?_
   rw[ye,hs,cf a t,cf b t,hw,Nat.pow_succ,Nat.mul_assoc]
   have h6:4294967296^t*x+4294967296^t*wd b t+4294967296^t*borrow=4294967296^t*wd a t+4294967296^t*(4294967296*nb):=by
    rw[←Nat.mul_add,←Nat.mul_add,←Nat.mul_add,g9]
   omega
 exact cZ.e0 a b (loop _ 0 0 _ rfl (by omega) rfl (by omega) (by simp[nat]))
theorem yf{a b U:Words}{borrow:Nat}(hl:U.length=a.length)(pV:nat b≤nat a)(hinv:nat (U.take a.length)+nat (b.take a.length)=nat (a.take a.length)+4294967296^a.length*borrow):nat U=nat a-nat b:=by
 rw[aC (by omega),aC (l:=a) (by omega)] at hinv
 have h1:=cr a
 have h2:=cr U
 rw[hl] at h2
 have h3:nat (b.take a.length)=nat b:=by
  by_cases hl:b.length≤a.length
  ·exact aC hl
  ·have h4:=fI b a.length (by omega)
   have h5:nat (b.drop a.length)=0:=by
    refine Nat.eq_zero_of_not_pos fun hp => ?_
    have:=Nat.mul_le_mul_left (4294967296^a.length) hp
    omega
   rw[h5] at h4;omega
 have AX:borrow=0:=by
  refine Nat.eq_zero_of_not_pos fun hp => ?_
  have:=Nat.mul_le_mul_left (4294967296^a.length) hp
  omega
 subst AX
 omega
theorem vx{a b U:Words}{borrow nb t:Nat}{w:UInt32}(ht:t<a.length)(hl:U.length=a.length)(hinv:nat (U.take t)+nat (b.take t)=nat (a.take t)+4294967296^t*borrow)(h:w.toNat+wd b t+borrow=wd a t+4294967296*nb) :
  nat ((U.set t w).take (t+1))+nat (b.take (t+1))=nat (a.take (t+1))+4294967296^(t+1)*nb:=by
 rw[dF (by omega),cf a t,cf b t,Nat.pow_succ,Nat.mul_assoc]
 have h6:4294967296^t*w.toNat+4294967296^t*wd b t+4294967296^t*borrow=4294967296^t*wd a t+4294967296^t*(4294967296*nb):=by
  rw[←Nat.mul_add,←Nat.mul_add,←Nat.mul_add,h]
 omega
theorem nP{l:Words}{t q:Nat}{w:UInt32}(h:q≠t):wd (l.set t w) q=wd l q:=by
 unfold wd
 rw[List.getElem?_set_ne (by omega)]
theorem take(a b:Words)(len:Nat)(hlen:len=a.length)(ha:a.length≤2199023255553)(pV:nat b≤nat a) :
  ∃U:Words,U.length=a.length∧nat U=nat a-nat b∧aq bh 121 [.row 100000 0 len 1,.pv (aa b)] [(100000,ws a)] (.pv (.aY [])) [(100000,ws U)]:=by
 subst hlen
 have loop:∀(j t borrow:Nat) (U:Words),a.length-t=j→t≤a.length→U.length=a.length→borrow≤1→(∀q,t≤q→wd U q=wd a q) →
   nat (U.take t)+nat (b.take t)=nat (a.take t)+4294967296^t*borrow →
   ∃V:Words,V.length=a.length∧nat V=nat a-nat b∧dm.ag a.length b borrow t U [(100000,ws a)] (.pv (.aY [])) [(100000,ws V)]:=by
  intro j
  induction j with
  |zero =>
   intro t borrow U hj ht hl hb dy hinv
   have pG:t=a.length:=by omega
   subst pG
   exact⟨U,hl,yf hl pV hinv,dm.cW _ b borrow _ U (sin:=[(100000,ws a)]) rfl rfl (Nat.le_refl _)⟩
  |succ j ih =>
   intro t borrow U hj ht hl hb dy hinv
   obtain⟨s,d,d1,x,z,nb,g1,g2,g3,g4,g5,g6,g7,g8,g9⟩:=oX (jb a t) (jb b t) hb
   obtain⟨w,hw⟩:=dX x g8
   obtain⟨V,h1,h2,h3⟩:=ih (t+1) nb (U.set t w) (by omega) (by omega) (by simpa using hl) g7 (fun q hq=>by rw[nP (by omega)];exact dy q (by omega)) (vx (by omega) hl hinv (by rw[hw];exact g9))
   refine⟨V,h1,h2,dm.l10 _ b borrow t U U _ s _ d d1 w z nb rfl (by omega) (atR U t a.length hl.symm) (by rw[dy t (Nat.le_refl t)];exact g1) (at' b t) g2 g3 (by omega) g5 g6 (by omega) (by omega) h3⟩
 obtain⟨V,h1,h2,h3⟩:=loop _ 0 0 a rfl (by omega) rfl (by omega) (fun _ _=>rfl) (by simp[nat])
 exact⟨V,h1,h2,dm.e0 a a.length b h3⟩
theorem JD(a b:Words)(len kd:Nat)(hlen:len=a.length)(JE:kd=b.length)(ha:a.length≤2199023255553)(pV:nat b≤nat a) :
  ∃U:Words,U.length=a.length∧nat U=nat a-nat b∧aq bh 121 [.row 100000 0 len 1,.row 100001 0 kd 1] [(100000,ws a),(100001,ws b)] (.pv (.aY [])) [(100000,ws U),(100001,ws b)]:=by
 subst hlen
 have loop:∀(j t borrow:Nat) (U:Words),a.length-t=j→t≤a.length→U.length=a.length→borrow≤1→(∀q,t≤q→wd U q=wd a q) →
   nat (U.take t)+nat (b.take t)=nat (a.take t)+4294967296^t*borrow →
   ∃V:Words,V.length=a.length∧nat V=nat a-nat b∧da.ag a.length kd borrow t U b [(100000,ws a),(100001,ws b)] (.pv (.aY [])) [(100000,ws V),(100001,ws b)]:=by
  intro j
  induction j with
  |zero =>
   intro t borrow U hj ht hl hb dy hinv
   have pG:t=a.length:=by omega
   subst pG
   exact⟨U,hl,yf hl pV hinv,da.cW _ _ borrow _ U b (sin:=[(100000,ws a),(100001,ws b)]) rfl rfl (Nat.le_refl _)⟩
  |succ j ih =>
   intro t borrow U hj ht hl hb dy hinv
   obtain⟨s,d,d1,x,z,nb,g1,g2,g3,g4,g5,g6,g7,g8,g9⟩:=oX (jb a t) (jb b t) hb
   obtain⟨w,hw⟩:=dX x g8
   obtain⟨V,h1,h2,h3⟩:=ih (t+1) nb (U.set t w) (by omega) (by omega) (by simpa using hl) g7 (fun q hq=>by rw[nP (by omega)];exact dy q (by omega)) (vx (by omega) hl hinv (by rw[hw];exact g9))
   refine⟨V,h1,h2,da.l10 _ _ borrow t U b U _ s b _ d d1 w z nb rfl (by omega) (atR U t a.length hl.symm) (by rw[dy t (Nat.le_refl t)];exact g1) (atR b t kd JE) g2 g3 (by omega) g5 g6 (by omega) (by omega) h3⟩
 obtain⟨V,h1,h2,h3⟩:=loop _ 0 0 a rfl (by omega) rfl (by omega) (fun _ _=>rfl) (by simp[nat])
 exact⟨V,h1,h2,da.e0 a a.length b kd h3⟩
theorem BO{x y:Nat}(hx:x<4294967296)(hy:y<4294967296):((x/2)%18446744073709551616) ||| ((y*2^min 31 64)%18446744073709551616%18446744073709551616)=(y*4294967296+x)/2:=by
 have e:(2:Nat)^min 31 64=2147483648:=by decide
 rw[e,Nat.mod_mod,Nat.mod_eq_of_lt (show x/2<18446744073709551616 by omega),Nat.mod_eq_of_lt (show y*2147483648<18446744073709551616 by omega),Nat.or_comm,Nat.mul_comm y]
 have:=Nat.two_pow_add_eq_or_of_lt (i:=31) (show x/2<2^31 by omega) y
 rw[show (2:Nat)^31=2147483648 from rfl] at this
 rw[←this]
 omega
theorem BP{a U:Words}{t:Nat}{w:UInt32}(ht:t<a.length)(hl:U.length=a.length)(hinv:nat (U.take t)=(nat a/2)%4294967296^t)(hw:w.toNat=(wd a (t+1)*4294967296+wd a t)/2%4294967296) :
  nat ((U.set t w).take (t+1))=(nat a/2)%4294967296^(t+1):=by
 rw[dF (by omega),hinv,hw]
 have g1:nat a/2/4294967296^t=nat (a.drop t)/2:=by
  rw[Nat.div_div_eq_div_mul,Nat.mul_comm,←Nat.div_div_eq_div_mul,nu a t (by omega)]
 have g2:nat (a.drop t)/2%4294967296=(wd a (t+1)*4294967296+wd a t)/2%4294967296:=by
  rw[fk a t,fk a (t+1)]
  generalize nat (a.drop (t+1+1))=r
  generalize wd a (t+1)=y
  generalize wd a t=x
  omega
 have g3:=Nat.mod_mul (a:=4294967296^t) (b:=4294967296) (x:=nat a/2)
 rw[Nat.pow_succ,g3,g1,g2]
theorem JF(a:Words)(len:Nat)(hlen:len=a.length)(ha:a.length≤2199023255553) :
  aq bh 120 [.row 100000 0 len 1] [(100000,ws a)] (.row 100000 0 (words (nat a/2)).length 1) [(100000,ws (words (nat a/2)))]:=by
 subst hlen
 have e1:(2:Nat)^min 1 64=2:=by decide
 have loop:∀(j t:Nat) (U:Words),a.length-t=j→t≤a.length→U.length=a.length→(∀q,t≤q→wd U q=wd a q)→nat (U.take t)=(nat a/2)%4294967296^t →
   c9.ag a.length t U [(100000,ws a)] (.row 100000 0 (words (nat a/2)).length 1) [(100000,ws (words (nat a/2)))]:=by
  intro j
  induction j with
  |zero =>
   intro t U hj ht hl dy hinv
   have pG:t=a.length:=by omega
   subst pG
   rw[aC (by omega),Nat.mod_eq_of_lt (Nat.lt_of_le_of_lt (Nat.div_le_self _ _) (cr a))] at hinv
   have hc:=cut U (by omega)
   rw[hinv,hl] at hc
   have:=c9.cW a.length a.length U (words (nat a/2)) (words (nat a/2)).length (sin:=[(100000,ws a)]) rfl rfl (Nat.le_refl _) hc
   rw[List.take_of_length_le (Nat.le_refl _)] at this
   exact this
  |succ j ih =>
   intro t U hj ht hl dy hinv
   have h1:=jb a t
   have h2:=jb a (t+1)
   obtain⟨w,hw⟩:=dX ((wd a (t+1)*4294967296+wd a t)/2%4294967296) (Nat.mod_lt _ (by omega))
   have hA:=atR U t a.length hl.symm
   have hB:=atR U (t+1) a.length hl.symm
   rw[dy t (Nat.le_refl t)] at hA
   rw[dy (t+1) (by omega)] at hB
   refine c9.l10 a.length t U U _ _ U _ _ ((wd a (t+1)*4294967296+wd a t)/2) w rfl (by omega) hA (by rw[e1]) (by omega) hB rfl (BO h1 h2) hw.symm (by omega) ?_
   exact ih (t+1) (U.set t w) (by omega) (by omega) (by simpa using hl) (fun q hq=>by rw[nP (by omega)];exact dy q (by omega)) (BP (by omega) hl hinv hw)
 exact c9.e0 a a.length (loop _ 0 a rfl (by omega) rfl (fun _ _=>rfl) (by simp[nat,Nat.mod_one]))
end qn
end Go.Proofs.YtnjhplhbmapclaaGreatDoor.Sym
