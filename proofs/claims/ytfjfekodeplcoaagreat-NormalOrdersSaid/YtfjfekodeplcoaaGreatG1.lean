/- Lemmas for the statements of this seat. -/
import Derived.Test.YtfjfekodeplcoaaGreatG0
import Derived.Test.YtfjfekodeplcoaaGreatP1
namespace Go.Proofs.YtfjfekodeplcoaaGreat.Sym
open Go Path
set_option linter.unusedVariables false
section
variable {V R W top next hi lo head r0 bT rest:Nat}
structure Kn (V R W top next head lo r0:Nat):Prop where
 v1:(top*4294967296+next)*W≤V
 v2:V<(top*4294967296+next+1)*W
 r:R=(head*4294967296+lo)*W+r0
 r0:r0<W
 lo:lo<4294967296
 next:next<4294967296
 top:0<top
 rv:R<V*4294967296
theorem Kn.SM(h:Kn V R W top next head lo r0):R<(head*4294967296+lo+1)*W:=by
 have h1:=h.r;have h2:=h.r0
 rw[Nat.add_mul _ 1,Nat.one_mul];omega
theorem Kn.Iq(h:Kn V R W top next head lo r0):0<V∧4294967296*W≤V:=by
 have h1:=h.v1
 have h2:=h.r0
 have h3:4294967296*W≤(top*4294967296+next)*W:=Nat.mul_le_mul_right _ (by have:=h.top;omega)
 omega
theorem Kn.start(h:Kn V R W top next head lo r0):R/V≤head/top:=by
 have hv:=h.Iq.1
 rw[←Nat.lt_succ_iff,Nat.div_lt_iff_lt_mul hv]
 have h1:head+1≤(head/top+1)*top:=by
  have:=Nat.lt_div_mul_add (a:=head) h.top
  rw[Nat.add_mul,Nat.one_mul];omega
 have h2:(head/top+1)*((top*4294967296+next)*W)≤(head/top+1)*V:=Nat.mul_le_mul_left _ h.v1
 have h3:(head*4294967296+lo+1)*W≤(head/top+1)*((top*4294967296+next)*W):=by
  rw[←Nat.mul_assoc]
  refine Nat.mul_le_mul_right _ ?_
  rw[Nat.mul_add,←Nat.mul_assoc]
  have:=Nat.mul_le_mul_right 4294967296 h1
  have:=h.lo
  omega
 have:=h.SM
 show R<(head/top+1)*V
 omega
theorem Kn.small(h:Kn V R W top next head lo r0):R/V<4294967296:=by
 rw[Nat.div_lt_iff_lt_mul h.Iq.1,Nat.mul_comm];exact h.rv
theorem Kn.less(h:Kn V R W top next head lo r0)(hg:bT*top+rest=head)(hc:rest*4294967296+lo<bT*next):R/V<bT:=by
 rw[Nat.div_lt_iff_lt_mul h.Iq.1]
 have h2:bT*((top*4294967296+next)*W)≤bT*V:=Nat.mul_le_mul_left _ h.v1
 have h3:(head*4294967296+lo+1)*W≤bT*((top*4294967296+next)*W):=by
  rw[←Nat.mul_assoc]
  refine Nat.mul_le_mul_right _ ?_
  rw[Nat.mul_add,←Nat.mul_assoc,←hg,Nat.add_mul]
  omega
 have:=h.SM
 omega
theorem Kn.fits(h:Kn V R W top next head lo r0)(hg:bT*top+rest=head)(hr:4294967296≤rest):bT<4294967296:=by
 refine Nat.lt_of_not_le fun vb => ?_
 have h1:4294967296*top≤bT*top:=Nat.mul_le_mul_right _ vb
 have h2:(head*4294967296)*W≤R:=by
  rw[h.r,Nat.add_mul];omega
 have h3:(4294967296*top+4294967296)*4294967296*W≤head*4294967296*W:=Nat.mul_le_mul_right _ (Nat.mul_le_mul_right _ (by omega))
 have h4:V*4294967296<(top*4294967296+next+1)*W*4294967296:=Nat.mul_lt_mul_of_pos_right h.v2 (by omega)
 have h5:(top*4294967296+next+1)*W*4294967296≤(4294967296*top+4294967296)*W*4294967296:=Nat.mul_le_mul_right _ (Nat.mul_le_mul_right _ (by have:=h.next;omega))
 have h6:(4294967296*top+4294967296)*W*4294967296=(4294967296*top+4294967296)*4294967296*W:=by rw[Nat.mul_right_comm]
 have:=h.rv
 omega
theorem Kn.Ro(h:Kn V R W top next head lo r0)(hg:bT*top+rest=head)(hl:bT<4294967296)(hc:4294967296≤rest∨bT*next≤rest*4294967296+lo):bT≤R/V+1:=by
 have hv:=h.Iq.1
 cases bT with
 |zero=>exact Nat.zero_le _
 |succ g =>
  refine Nat.succ_le_succ ?_
  rw[Nat.le_div_iff_mul_le hv]
  have h0:(g+1)*V≤(g+1)*((top*4294967296+next+1)*W):=Nat.mul_le_mul_left _ (Nat.le_of_lt h.v2)
  have h1:(g+1)*((top*4294967296+next+1)*W)=((g+1)*top*4294967296+(g+1)*next+(g+1))*W:=by
   rw[←Nat.mul_assoc,Nat.mul_add,Nat.mul_add,Nat.mul_one,Nat.mul_assoc (g+1) top]
  have h2:=h.Iq.2
  have h3:(g+1)*V=g*V+V:=by rw[Nat.add_mul,Nat.one_mul]
  have hr:(head*4294967296+lo)*W≤R:=by rw[h.r];omega
  rcases hc with hc|hc
  ·have h4:((g+1)*top*4294967296+(g+1)*next+(g+1))*W≤(head*4294967296+lo)*W:=by
    refine Nat.mul_le_mul_right _ ?_
    have h5:(g+1)*next+(g+1)≤(g+1)*4294967296:=by
     have:=Nat.mul_le_mul_left (g+1) (show next+1≤4294967296 by have:=h.next;omega)
     rw[Nat.mul_add,Nat.mul_one] at this;exact this
    rw[←hg,Nat.add_mul]
    omega
   omega
  ·have h4:((g+1)*top*4294967296+(g+1)*next+(g+1))*W≤(head*4294967296+lo+4294967296)*W:=by
    refine Nat.mul_le_mul_right _ ?_
    rw[←hg,Nat.add_mul];omega
   rw[Nat.add_mul _ 4294967296] at h4
   omega
end
namespace fi
theorem Kt(u:Words)(j n:Nat)(h:j+n≤u.length):nat (u.drop j)=nat ((u.drop j).take n)+4294967296^n*nat (u.drop (j+n)):=by
 have:=jA (u.drop j) n (by simp;omega)
 rw[List.drop_drop] at this
 exact this
theorem Ir(U:Words)(n:Nat)(h:U.length=n+3){a b c:UInt32}(ha:U[n]? = some a)(hb:U[n+1]? = some b)(hc:U[n+2]? = some c) :
  nat U=((c.toNat*4294967296+b.toNat)*4294967296+a.toNat)*4294967296^n+nat (U.take n):=by
 have h1:=bO hc
 have h2:=bO hb
 have h3:=bO ha
 rw[aY (by omega)] at h1
 rw[h1,h2,h3]
 have e1:(4294967296:Nat)^(n+1)=4294967296^n*4294967296:=Nat.pow_succ ..
 have e2:(4294967296:Nat)^(n+2)=4294967296^n*4294967296*4294967296:=by rw[Nat.pow_succ,e1]
 rw[e1,e2]
 generalize (4294967296:Nat)^n=P
 grind
theorem Is(U:Words)(n:Nat)(h:U.length=n+2){a b:UInt32}(ha:U[n]? = some a)(hb:U[n+1]? = some b) :
  nat U=(b.toNat*4294967296+a.toNat)*4294967296^n+nat (U.take n):=by
 have h2:=bO hb
 have h3:=bO ha
 rw[aY (by omega)] at h2
 rw[h2,h3]
 have e1:(4294967296:Nat)^(n+1)=4294967296^n*4294967296:=Nat.pow_succ ..
 rw[e1]
 generalize (4294967296:Nat)^n=P
 grind
structure Dv (a b zb v:Words) (v1 v2:UInt32) (s n m V N:Nat):Prop where
 hv:v=zb.take b.length
 Bv:s<32
 J3:a.length≤2199023255551
 hm:a.length+1=m+(n+2)
 xI:v.length=n+2
 Ku:nat v=V
 wP:V<4294967296^(n+2)
 Kv:0<V
 vC:v[n+1]? = some v1
 Kw:v[n]? = some v2
 Fk:V=(v1.toNat*4294967296+v2.toNat)*4294967296^n+nat (v.take n)
 Jo:nat (v.take n)<4294967296^n
 CT:0<v1.toNat
 res:∀q r:Nat,N=q*V+r→r<V→nat a/nat b=q∧r/2^s=nat a%nat b
structure Pt (u U A C:Words) (n j R Q V:Nat):Prop where
 GN:U.length=n+3
 Kx:A.length=j
 hu:u=A++(U++C)
 wQ:R=nat U
 hQ:R/V=Q
 MK:nat C=0
 hR:R=nat (u.drop j)
 hj:j+(n+3)≤u.length
 u5:u.length≤2199023255552
theorem OG{g Q V R r P x:Nat}(Dz:Q*V+r=R)(hx:x<P)(h2:x+g*V=R+P)(PD:Q≤g)(PE:g≤Q+1):g=Q+1∧x+V=r+P:=by
 rcases Nat.lt_or_ge Q g with h5|h5
 ·have h6:g=Q+1:=by omega
  rw[h6,Nat.add_mul,Nat.one_mul] at h2
  exact⟨h6,by omega⟩
 ·have h6:g=Q:=by omega
  rw[h6] at h2
  omega
theorem OH{ca V r P x y:Nat}(h:y+P*ca=x+V)(hy:y<P)(h2:x+V=r+P)(hc:ca≤1):y=r:=by
 have Le:ca=0∨ca=1:=by omega
 rcases Le with rfl|rfl
 ·omega
 ·omega
theorem Ky {a b zb v u U A C : Words} {v1 v2 : UInt32} {s n m V N j R Q : Nat} (dv : Dv a b zb v v1 v2 s n m V N) (pt : Pt u U A C n j R Q V) :
    ∀ bT : Nat, bT < 4294967296 → Q ≤ bT → bT ≤ Q + 1 → ∃ (U1 : Words) (bo : Bool) (U2 : Words), U1.length = n + 3 ∧
          aw a7 150 [.row 100000 (0 + j * 1) (j + (n + 3) - j) 1, .pv (ae (zb.take b.length)), .pv (vU bT)] [(100000, .pure ((u : List UInt32).map ai).flatten)] (.pv (vB bo)) [(100000, .pure (((A ++ (U1 ++ C) : List UInt32)).map ai).flatten)] ∧
          (bo = false → bT = Q ∧ nat U1 = R % V) ∧
          (bo = true → bT = Q + 1 ∧ 0 < bT ∧ U2.length = n + 3 ∧ nat U2 = R % V ∧
            aw a7 151 [.row 100000 (0 + j * 1) (j + (n + 3) - j) 1, .pv (ae (zb.take b.length))] [(100000, .pure (((A ++ (U1 ++ C) : List UInt32)).map ai).flatten)] (.pv (.bh [])) [(100000, .pure (((A ++ (U2 ++ C) : List UInt32)).map ai).flatten)]) := by
  obtain ⟨hv, Bv, J3, hm, xI, Ku, wP, Kv, vC, Kw, Fk, Jo, CT, res⟩ := dv
  obtain ⟨GN, Kx, hu, wQ, hQ, MK, hR, hj, u5⟩ := pt
  have Fl : (4294967296 : Nat) ^ (n + 3) = 4294967296 ^ (n + 2) * 4294967296 := Nat.pow_succ ..
  intro bT SN PD PE
  have Dz := Nat.div_add_mod R V
  rw [hQ] at Dz
  have Rp := Nat.mod_lt R Kv
  rw [Nat.mul_comm] at Dz
  rw [← hv]
  obtain ⟨U1, bo, r1, ⟨SO, PF⟩, r3⟩ := remove A U C v bT (0 + j * 1) (j + (n + 3) - j) (by omega) (by omega) (by omega) SN (by
    rw [Ku, GN, Fl]
    have h5 := Nat.mul_lt_mul_of_pos_left wP (show 0 < 4294967296 by omega)
    have h6 := Nat.mul_le_mul_right V (Nat.le_of_lt SN)
    rw [Nat.mul_comm (4294967296 ^ (n + 2))]; omega) (by omega)
  rw [Ku, ← wQ] at SO PF
  rw [GN] at PF
  have Rq := ej U1
  rw [r1, GN] at Rq
  obtain ⟨U2, ca, b1, b2, b3, b4⟩ := back A U1 C v (0 + j * 1) (j + (n + 3) - j) (by omega) (by omega) (by omega) (by omega)
  rw [Ku, r1, GN] at b3
  have Rr := ej U2
  rw [b1, r1, GN] at Rr
  have Uz : V < 4294967296 ^ (n + 3) := by
    have := Nat.pow_le_pow_right (n := 4294967296) (by omega) (show n + 2 ≤ n + 3 by omega)
    exact Nat.lt_of_lt_of_le wP this
  clear Fl wP Jo Fk res
  generalize (4294967296 : Nat) ^ (n + 3) = P3 at PF Rq b3 Rr Uz
  refine ⟨U1, bo, U2, by omega, by rw [show Ip A U C = .pure ((u : List UInt32).map ai).flatten from by rw [hu]] at r3; exact r3, fun OF => ?_, fun OF => ?_⟩
  · have r2 := SO OF
    have : bT = Q := by
      rcases Nat.lt_or_ge (Q) bT with h5 | h5
      · have h6 : bT = Q + 1 := by omega
        rw [h6, Nat.add_mul, Nat.one_mul] at r2
        omega
      · omega
    rw [this] at r2
    exact ⟨this, by omega⟩
  · have r2 := PF OF
    obtain ⟨g1, g2⟩ := OG Dz Rq r2 PD PE
    exact ⟨g1, by rw [g1]; exact Nat.succ_pos _, b1.trans (r1.trans GN), OH b3 Rr g2 b2, b4⟩
theorem It{a b zb v u q U A C:Words}{v1 v2:UInt32}{s n m V N j R Q:Nat}(dv:Dv a b zb v v1 v2 s n m V N)(pt:Pt u U A C n j R Q V)(Pc:j+1≤m)(u5:u.length=a.length+1)(z8:q.length=m)(hA:nat u=nat A+4294967296^j*R)
  (hinv:N=nat (q.drop (j+1))*4294967296^(j+1)*V+nat u)
  (ih:∀(u q:Words),u.length=a.length+1→q.length=m→nat (u.drop j)<V→N=nat (q.drop j)*4294967296^j*V+nat u →
   bx.ar (s:Int) zb b (a.length+1) m v1 v2 ((j:Int)-1) u q (.bh [ae (words (nat a/nat b)),ae (words (nat a%nat b))])) (U2:Words) (w:UInt32) (NK:U2.length=n+3) (zp:nat U2=R%V) (hw:w.toNat=Q) :
  bx.ar (s:Int) zb b (a.length+1) m v1 v2 ((j:Int)-1) (A++(U2++C)) (q.set j w) (.bh [ae (words (nat a/nat b)),ae (words (nat a%nat b))]):=by
 have Kv:=dv.Kv
 obtain⟨GN,Kx,hu,wQ,hQ,MK,hR,hj,_⟩:=pt
 have GL:(A++(U2++C)).drop j=U2++C:=by rw[←Kx];exact List.drop_left
 have SP:nat (U2++C)=R%V:=by rw[mf,MK,zp];simp
 refine ih _ _ ?_ (by simpa using z8) (by rw[GL,SP];exact Nat.mod_lt _ Kv) ?_
 ·have h5:u.length=(A++(U++C)).length:=by rw[←hu]
  simp only[List.length_append] at h5 ⊢
  omega
 ·have h5:nat (A++(U2++C))=nat A+4294967296^j*(R%V):=by rw[mf,SP,Kx]
  have h7:nat ((q.set j w).drop j)=Q+4294967296*nat (q.drop (j+1)):=by
   rw[qa (v:=w) (by rw[List.getElem?_set_self (by omega)]),List.drop_set_of_lt (by omega),hw]
  rw[h5,h7,hinv,hA]
  have h8:=Nat.div_add_mod R V
  rw[hQ] at h8
  have e1:(4294967296:Nat)^(j+1)=4294967296^j*4294967296:=Nat.pow_succ ..
  rw[e1]
  generalize (4294967296:Nat)^j=P at *
  generalize nat (q.drop (j+1))=X at *
  generalize R%V=r at *
  rw[←h8]
  clear h8 hj hu wQ hR hinv hA h5 h7 e1
  grind
theorem Gc{a b zb v u q U A C:Words}{v1 v2 lo:UInt32}{s n m V N j R Q head r0:Nat}(dv:Dv a b zb v v1 v2 s n m V N)(pt:Pt u U A C n j R Q V)(kn:Kn V R (4294967296^n) v1.toNat v2.toNat head lo.toNat r0)(Pc:j+1≤m)(u5:u.length=a.length+1)(z8:q.length=m)(Hn:U[n]? = some lo)
  (next:∀(U2:Words) (w:UInt32),U2.length=n+3→nat U2=R%V→w.toNat=Q →
   bx.ar (s:Int) zb b (a.length+1) m v1 v2 ((j:Int)-1) (A++(U2++C)) (q.set j w) (.bh [ae (words (nat a/nat b)),ae (words (nat a%nat b))])) :
  ∀(k bT rest:Nat),4294967296-rest≤k→rest<18446744073709551616-4294967296→bT*v1.toNat+rest=head→Q≤bT→bT<18446744073709551616 →
   bx.aJ (s:Int) zb b (a.length+1) m v1 v2 (((j+1:Nat):Int)-1) j (j+(n+3)) bT rest u q (.bh [ae (words (nat a/nat b)),ae (words (nat a%nat b))]):=by
 have fin:=Ky dv pt
 obtain⟨hv,Bv,J3,hm,xI,Ku,wP,Kv,vC,Kw,Fk,Jo,CT,res⟩:=dv
 obtain⟨GN,Kx,hu,wQ,hQ,MK,hR,hj,_⟩:=pt
 have MJ:=iv lo
 have Rt:=iv v1
 have Ru:=iv v2
 have vn:(zb.take b.length).length=n+2:=by rw[←hv];exact xI
 have Iu:(2:Nat)^min 32 64=4294967296:=by decide
 have oD:∀(k:Nat) (w:UInt32),U[k]? = some w→u[(0+j*1)+k]? = some w:=fun k w hk=>by
  rw[hu,Nat.zero_add,Nat.mul_one,←Kx];exact eY A U C k w hk
 have Iv:=kn.small
 rw[hQ] at Iv
 have OI:∀{g r:Nat},g*v1.toNat+r=head→r*4294967296+lo.toNat<g*v2.toNat→Q<g:=fun h1 h2=>by rw[←hQ];exact kn.less h1 h2
 have Iw:∀{g r:Nat},g*v1.toNat+r=head→g<4294967296→(4294967296≤r∨g*v2.toNat≤r*4294967296+lo.toNat)→g≤Q+1:=fun h1 h2 h3=>by rw[←hQ];exact kn.Ro h1 h2 h3
 clear wP Jo Fk res wQ hR
 intro k
 induction k with
 |zero =>
  intro bT rest hk OJ hg hq PD
  have hr:4294967296≤rest:=by omega
  have zq:=kn.fits hg hr
  obtain⟨U1,bo,U2,f1,f2,f3,f4⟩:=fin bT zq hq (Iw hg zq (.inl hr))
  cases bo with
  |false =>
   obtain⟨g1,g2⟩:=f3 rfl
   obtain⟨w,hw⟩:=gJ bT zq
   refine bx.SG (s:Int) zb b (a.length+1) m v1 v2 _ j (j+(n+3)) bT rest u q _ false w j hr f2 rfl (by omega) (by omega) (by omega) (by omega) (by unfold aK;omega) ?_
   rw[show (((j+1:Nat):Int)-1-1)=(j:Int)-1 from by omega]
   exact next U1 w f1 g2 (by omega)
  |true =>
   obtain⟨g1,g0,g2,g3,g4⟩:=f4 rfl
   obtain⟨w,hw⟩:=gJ (bT-1) (by omega)
   refine bx.NB (s:Int) zb b (a.length+1) m v1 v2 _ j (j+(n+3)) bT rest u q _ true (bT-1) _ w j hr f2 rfl (by omega) g4 (by omega) (by omega) (by omega) (by omega) (by unfold aK;omega) ?_
   rw[show (((j+1:Nat):Int)-1-1)=(j:Int)-1 from by omega]
   exact next U2 w g2 g3 (by omega)
 |succ k ihk =>
  intro bT rest hk OJ hg hq PD
  by_cases hr:4294967296≤rest
  ·have zq:=kn.fits hg hr
   obtain⟨U1,bo,U2,f1,f2,f3,f4⟩:=fin bT zq hq (Iw hg zq (.inl hr))
   cases bo with
   |false =>
    obtain⟨g1,g2⟩:=f3 rfl
    obtain⟨w,hw⟩:=gJ bT zq
    refine bx.SG (s:Int) zb b (a.length+1) m v1 v2 _ j (j+(n+3)) bT rest u q _ false w j hr f2 rfl (by omega) (by omega) (by omega) (by omega) (by unfold aK;omega) ?_
    rw[show (((j+1:Nat):Int)-1-1)=(j:Int)-1 from by omega]
    exact next U1 w f1 g2 (by omega)
   |true =>
    obtain⟨g1,g0,g2,g3,g4⟩:=f4 rfl
    obtain⟨w,hw⟩:=gJ (bT-1) (by omega)
    refine bx.NB (s:Int) zb b (a.length+1) m v1 v2 _ j (j+(n+3)) bT rest u q _ true (bT-1) _ w j hr f2 rfl (by omega) g4 (by omega) (by omega) (by omega) (by omega) (by unfold aK;omega) ?_
    rw[show (((j+1:Nat):Int)-1-1)=(j:Int)-1 from by omega]
    exact next U2 w g2 g3 (by omega)
  have Ph:=Iv
  have step:∀(ML:Q<bT),(bT-1)*v1.toNat+(rest+v1.toNat)=head:=by
   intro ML
   have:bT=(bT-1)+1:=by omega
   rw[this,Nat.add_mul,Nat.one_mul] at hg
   omega
  by_cases PE:4294967296≤bT
  ·refine bx.nK (s:Int) zb b (a.length+1) m v1 v2 _ j (j+(n+3)) bT rest u q (bT-1) (rest+v1.toNat) (by omega) PE (by omega) (by omega) ?_
   exact ihk (bT-1) (rest+v1.toNat) (by omega) (by omega) (step (by omega)) (by omega) (by omega)
  ·have Hp:bT*v2.toNat<18446744073709551616:=by have:=uI (show bT<4294967296 by omega) Ru;omega
   have EB:rest*2^min 32 64%18446744073709551616%18446744073709551616 ||| lo.toNat%18446744073709551616=rest*4294967296+lo.toNat:=by
    rw[Iu,Nat.mod_mod];exact Bu (by omega) MJ
   by_cases hc:rest*4294967296+lo.toNat<bT*v2.toNat
   ·have ML:=OI hg hc
    refine bx.nL (s:Int) zb b (a.length+1) m v1 v2 _ j (j+(n+3)) bT rest u q (bT*v2.toNat) _ n lo (rest*4294967296+lo.toNat) (bT-1) (rest+v1.toNat) (by omega) (by omega) (Nat.mod_eq_of_lt Hp) rfl (by rw[vn];unfold aK;omega) (by rw[vn];omega) (by omega) (oD n lo Hn) EB hc (by omega) (by omega) ?_
    exact ihk (bT-1) (rest+v1.toNat) (by omega) (by omega) (step ML) (by omega) (by omega)
   ·obtain⟨U1,bo,U2,f1,f2,f3,f4⟩:=fin bT (by omega) hq (Iw hg (by omega) (.inr (by omega)))
    cases bo with
    |false =>
     obtain⟨g1,g2⟩:=f3 rfl
     obtain⟨w,hw⟩:=gJ bT (by omega)
     refine bx.HY (s:Int) zb b (a.length+1) m v1 v2 _ j (j+(n+3)) bT rest u q (bT*v2.toNat) _ n lo (rest*4294967296+lo.toNat) _ false w j (by omega) (by omega) (Nat.mod_eq_of_lt Hp) rfl (by rw[vn];unfold aK;omega) (by rw[vn];omega) (by omega) (oD n lo Hn) EB (by omega) f2 rfl (by omega) (by omega) (by omega) (by omega) (by unfold aK;omega) ?_
     rw[show (((j+1:Nat):Int)-1-1)=(j:Int)-1 from by omega]
     exact next U1 w f1 g2 (by omega)
    |true =>
     obtain⟨g1,g0,g2,g3,g4⟩:=f4 rfl
     obtain⟨w,hw⟩:=gJ (bT-1) (by omega)
     refine bx.vv (s:Int) zb b (a.length+1) m v1 v2 _ j (j+(n+3)) bT rest u q (bT*v2.toNat) _ n lo (rest*4294967296+lo.toNat) _ true (bT-1) _ w j (by omega) (by omega) (Nat.mod_eq_of_lt Hp) rfl (by rw[vn];unfold aK;omega) (by rw[vn];omega) (by omega) (oD n lo Hn) EB (by omega) f2 rfl (by omega) g4 (by omega) (by omega) (by omega) (by omega) (by unfold aK;omega) ?_
     rw[show (((j+1:Nat):Int)-1-1)=(j:Int)-1 from by omega]
     exact next U2 w g2 g3 (by omega)
set_option maxHeartbeats 1000000 in
theorem Ix{a b zb v u q:Words}{v1 v2:UInt32}{s n m V N j:Nat}(dv:Dv a b zb v v1 v2 s n m V N)(hj:j+1≤m)(u5:u.length=a.length+1)(z8:q.length=m)(Bw:nat (u.drop (j+1))<V)(hinv:N=nat (q.drop (j+1))*4294967296^(j+1)*V+nat u)
  (ih:∀(u q:Words),u.length=a.length+1→q.length=m→nat (u.drop j)<V→N=nat (q.drop j)*4294967296^j*V+nat u →
   bx.ar (s:Int) zb b (a.length+1) m v1 v2 ((j:Int)-1) u q (.bh [ae (words (nat a/nat b)),ae (words (nat a%nat b))])) :
  bx.ar (s:Int) zb b (a.length+1) m v1 v2 (((j+1:Nat):Int)-1) u q (.bh [ae (words (nat a/nat b)),ae (words (nat a%nat b))]):=by
 have Bv:=dv.Bv
 have J3:=dv.J3
 have hm:=dv.hm
 have xI:=dv.xI
 have wP:=dv.wP
 have Fk:=dv.Fk
 have Jo:=dv.Jo
 have CT:=dv.CT
 have hv:=dv.hv
 obtain⟨U,hU⟩:∃U,U=(u.drop j).take (n+3):=⟨_,rfl⟩
 obtain⟨A,hA⟩:∃A,A=u.take j:=⟨_,rfl⟩
 obtain⟨C,hC⟩:∃C,C=u.drop (j+(n+3)):=⟨_,rfl⟩
 have GN:U.length=n+3:=by rw[hU];simp;omega
 have Kx:A.length=j:=by rw[hA];simp;omega
 have hu:u=A++(U++C):=by
  rw[hA,hU,hC,show j+(n+3)=j+(n+3) from rfl,←List.drop_drop,List.take_append_drop,List.take_append_drop]
 obtain⟨R,hR⟩:∃R,R=nat (u.drop j):=⟨_,rfl⟩
 obtain⟨x,hx⟩:∃x,u[j]? = some x:=⟨_,List.getElem?_eq_getElem (by omega)⟩
 have OK:R<V*4294967296:=by
  rw[hR,qa hx]
  have h2:=iv x
  omega
 have wQ:=Kt u j (n+3) (by omega)
 rw[←hU,←hC,←hR] at wQ
 have Fl:(4294967296:Nat)^(n+3)=4294967296^(n+2)*4294967296:=Nat.pow_succ ..
 have MK:nat C=0:=by
  refine Nat.eq_zero_of_not_pos fun hp => ?_
  have h2:=Nat.mul_le_mul_left (4294967296^(n+3)) hp
  omega
 rw[MK,Nat.mul_zero,Nat.add_zero] at wQ
 obtain⟨hi,SQ⟩:∃x,U[n+2]? = some x:=⟨_,List.getElem?_eq_getElem (by omega)⟩
 obtain⟨mi,SR⟩:∃x,U[n+1]? = some x:=⟨_,List.getElem?_eq_getElem (by omega)⟩
 obtain⟨lo,Hn⟩:∃x,U[n]? = some x:=⟨_,List.getElem?_eq_getElem (by omega)⟩
 have h3:=Ir U n GN Hn SR SQ
 have Rv:=ej (U.take n)
 rw[List.length_take,Nat.min_eq_left (by omega)] at Rv
 obtain⟨head,Lf⟩:∃h,h=hi.toNat*4294967296+mi.toNat:=⟨_,rfl⟩
 rw[←Lf,←wQ] at h3
 have kn:Kn V R (4294967296^n) v1.toNat v2.toNat head lo.toNat (nat (U.take n)) :=
  ⟨by rw[Fk];omega,by rw[Fk,Nat.add_mul _ 1,Nat.one_mul];omega,h3,Rv,iv lo,iv v2,CT,OK⟩
 obtain⟨Q,hQ⟩:∃Q,R/V=Q:=⟨_,rfl⟩
 have Iy:=kn.start
 rw[hQ] at Iy
 have pt:Pt u U A C n j R Q V:=⟨GN,Kx,hu,wQ,hQ,MK,hR,by omega,by omega⟩
 have SS:nat u=nat A+4294967296^j*R:=by
  have:=jA u j (by omega)
  rw[←hA,←hR] at this;exact this
 have Rw:=iv hi
 have Rx:=iv mi
 have MJ:=iv lo
 have Rt:=iv v1
 have vn:(zb.take b.length).length=n+2:=by rw[←hv];exact xI
 have Iu:(2:Nat)^min 32 64=4294967296:=by decide
 have oD:∀(k:Nat) (w:UInt32),U[k]? = some w→u[(0+j*1)+k]? = some w:=fun k w hk=>by
  rw[hu,Nat.zero_add,Nat.mul_one,←Kx];exact eY A U C k w hk
 have inner:=Gc dv pt kn hj u5 z8 Hn (It dv pt hj u5 z8 SS hinv ih)
 clear wP Jo Fk wQ Fl h3 Rv OK Bw hinv SS ih
 have VA:head<18446744073709551616:=by omega
 have VB:head/v1.toNat≤head:=Nat.div_le_self _ _
 have Rp:=Nat.mod_lt head CT
 have hz:(hi.toNat*2^min 32 64)%18446744073709551616%18446744073709551616 ||| mi.toNat%18446744073709551616=head:=by
  rw[Iu,Nat.mod_mod,Lf];exact Bu Rw Rx
 refine bx.dC (s:Int) zb b (a.length+1) m v1 v2 _ u q j (j+(n+3)) hi _ (n+1) mi head (head/v1.toNat) (head%v1.toNat) (by omega) (by rw[vn];unfold aK;omega) (by rw[vn];unfold aK;omega) (by omega) (by rw[vn];omega) (by omega) (by omega) (by omega) (by rw[vn];omega)
  (by rw[vn];exact oD (n+2) hi SQ) rfl (by rw[vn];unfold aK;omega) (by rw[vn];omega) (by omega) (oD (n+1) mi SR) hz (by omega) (by rw[Nat.mod_eq_of_lt (by omega)]) rfl ?_
 refine inner 4294967296 _ _ (by omega) (by omega) ?_ Iy (by omega)
 have:=Nat.div_add_mod head v1.toNat
 rw[Nat.mul_comm] at this;exact this
set_option maxHeartbeats 1000000 in
theorem Bx(a b:Words)(ha:cn a=true)(hb:cn b=true)(iN:b≠[])(J3:a.length≤2199023255551)(Jn:b.length≤2199023255552) :
  Cp 118 [ae a,ae b] (.bh [ae (words (nat a/nat b)),ae (words (nat a%nat b))]):=by
 have Lg:0<nat b:=py hb iN
 have vD:=compare a b ha hb (by omega)
 by_cases cN:nat a<nat b
 ·rw[o6 (by omega)] at vD
  rw[Nat.div_eq_of_lt cN,Nat.mod_eq_of_lt cN]
  exact bx.e0 a b (-1) _ vD (by omega) (trim a (by omega))
 have MM:0≤ea (nat a) (nat b):=by unfold ea;split<;>(try split)<;>omega
 by_cases h1:b.length=1
 ·obtain⟨v,rfl⟩:∃v,b=[v]:=List.length_eq_one_iff.1 h1
  have hn:nat [v]=v.toNat:=by simp[nat]
  rw[hn] at Lg MM vD ⊢
  have hs:=short a v (by omega) (by omega)
  have ht:=trim [UInt32.ofNat (nat a%v.toNat)] (by simp)
  have zp:nat [UInt32.ofNat (nat a%v.toNat)]=nat a%v.toNat:=by
   have:=Nat.mod_lt (nat a) Lg
   have:=iv v
   simp only[nat,uF];omega
  rw[zp] at ht
  exact bx.e1 a [v] _ v _ _ _ vD MM rfl rfl hs ht
 obtain⟨n,hn⟩:∃n,b.length=n+2:=⟨b.length-2,by have:=List.length_pos_iff.2 iN;omega⟩
 obtain⟨bt,Ry⟩:∃v,b[n+1]? = some v:=⟨_,List.getElem?_eq_getElem (by omega)⟩
 have Rz:bt.toNat≠0:=(mo (by rw[hn];exact Ry)).1 hb
 have UA:=nD (n:=bt.toNat) (k:=32) (iv bt)
 obtain⟨kb,VC,UB,UC⟩:=sk Rz
 obtain⟨s,hs⟩:∃s,s=32-blen bt.toNat:=⟨_,rfl⟩
 have Bv:s<32:=by omega
 obtain⟨zb,UD,RA,RC,_⟩:=up b s Jn Bv
 obtain⟨za,RD,OL,_,RF⟩:=up a s (by omega) Bv
 have hP:=Nat.two_pow_pos s
 have OM:nat b<4294967296^(n+1)*2^(kb+1):=by
  have h2:=bO Ry
  rw[aY (by omega)] at h2
  have h3:=ej (b.take (n+1))
  rw[List.length_take,Nat.min_eq_left (by omega)] at h3
  have h4:=Nat.mul_le_mul_left (4294967296^(n+1)) (show bt.toNat+1≤2^(kb+1) by omega)
  rw[Nat.mul_add] at h4;omega
 have wP:nat b*2^s<4294967296^(n+2):=by
  have h2:=Nat.mul_lt_mul_of_pos_right OM hP
  have h3:2^(kb+1)*2^s=4294967296:=by rw[←Nat.pow_add,show kb+1+s=32 from by omega]
  rw[Nat.mul_assoc,h3,←Nat.pow_succ] at h2
  exact h2
 obtain⟨v,hv⟩:∃v,v=zb.take b.length:=⟨_,rfl⟩
 have xI:v.length=n+2:=by rw[hv];simp;omega
 have Ku:nat v=nat b*2^s:=by
  rw[←RA,hv]
  have h2:=jA zb b.length (by omega)
  have h3:nat (zb.drop b.length)=0:=by
   refine Nat.eq_zero_of_not_pos fun hp => ?_
   have:=Nat.mul_le_mul_left (4294967296^b.length) hp
   rw[hn] at this h2
   omega
  rw[h3] at h2;omega
 obtain⟨V,hV⟩:∃V,V=nat b*2^s:=⟨_,rfl⟩
 rw[←hV] at Ku wP
 have RG:4294967296^(n+1)≤nat b:=by
  have:=CL hb iN
  rwa[hn] at this
 have RH:4294967296^(n+1)≤V:=by
  have:=Nat.mul_le_mul_left (nat b) hP
  omega
 have Kv:0<V:=Nat.lt_of_lt_of_le (Nat.pow_pos (by omega)) RH
 obtain⟨v1,vC⟩:∃x,v[n+1]? = some x:=⟨_,List.getElem?_eq_getElem (by omega)⟩
 obtain⟨v2,Kw⟩:∃x,v[n]? = some x:=⟨_,List.getElem?_eq_getElem (by omega)⟩
 have Fk:=Is v n xI Kw vC
 rw[Ku] at Fk
 have Jo:=ej (v.take n)
 rw[List.length_take,Nat.min_eq_left (by omega)] at Jo
 have CT:0<v1.toNat:=by
  refine Nat.pos_of_ne_zero fun h0 => ?_
  rw[h0] at Fk
  have h2:=iv v2
  have h3:(v2.toNat+1)*4294967296^n≤4294967296*4294967296^n:=Nat.mul_le_mul_right _ h2
  have h4:(4294967296:Nat)^(n+1)=4294967296*4294967296^n:=by rw[Nat.pow_succ,Nat.mul_comm]
  rw[Nat.add_mul] at h3
  simp at Fk
  omega
 have KU:b.length≤a.length:=by
  refine Nat.le_of_not_lt fun h => ?_
  have h2:=ej a
  have h3:=lJ (show a.length≤n+1 by omega)
  omega
 obtain⟨m,hm⟩:∃m,a.length+1=m+(n+2):=⟨a.length+1-(n+2),by omega⟩
 obtain⟨N,hN⟩:∃N,N=nat a*2^s:=⟨_,rfl⟩
 rw[←hN] at OL
 have res:∀q r:Nat,N=q*V+r→r<V→nat a/nat b=q∧r/2^s=nat a%nat b:=by
  intro q r h2 h3
  have h4:N/V=nat a/nat b:=by rw[hN,hV];exact Nat.mul_div_mul_right _ _ hP
  have h5:N%V=nat a%nat b*2^s:=by rw[hN,hV];exact Nat.mul_mod_mul_right _ _ _
  have h6:N/V=q:=by rw[h2,Nat.mul_comm,Nat.mul_add_div Kv,Nat.div_eq_of_lt h3,Nat.add_zero]
  have h7:N%V=r:=by rw[h2,Nat.mul_comm,Nat.mul_add_mod,Nat.mod_eq_of_lt h3]
  refine⟨by rw[←h4,h6],?_⟩
  rw[←h7,h5,Nat.mul_div_cancel _ hP]
 have dv:Dv a b zb v v1 v2 s n m V N:=⟨hv,Bv,J3,hm,xI,Ku,wP,Kv,vC,Kw,Fk,Jo,CT,res⟩
 have loop:∀(jj:Nat) (u q:Words),jj≤m→u.length=a.length+1→q.length=m→nat (u.drop jj)<V→N=nat (q.drop jj)*4294967296^jj*V+nat u →
   bx.ar (s:Int) zb b (a.length+1) m v1 v2 ((jj:Int)-1) u q (.bh [ae (words (nat a/nat b)),ae (words (nat a%nat b))]):=by
  intro jj
  induction jj with
  |zero =>
   intro u q _ u5 z8 Bw hinv
   simp only[List.drop_zero,Nat.pow_zero,Nat.mul_one] at hinv Bw
   obtain⟨e1,e2⟩:=res _ _ hinv Bw
   rw[e1,←e2]
   exact bx.dD (s:Int) zb b (a.length+1) m v1 v2 _ u q _ _ (by omega) z8.symm u5.symm (trim q (by omega)) (down u s (by omega) Bv)
  |succ j ih =>
   intro u q hj u5 z8 Bw hinv
   exact Ix dv hj u5 z8 Bw hinv (fun u q=>ih u q (by omega))
 have vn:(zb.take b.length).length=n+2:=by rw[←hv];exact xI
 refine bx.e2 a b _ (n+1) bt (s:Int) zb za (a.length+1) m (n+1) v1 n v2 vD MM h1 (by unfold aK;omega) (by omega) Ry (by rw[hs];exact Io.yO bt) RC (by omega) RF (by rw[vn];unfold aK;omega) (by rw[vn];omega) (by omega) (by rw[vn];unfold aK;omega) (by rw[vn];omega) (by rw[←hv];exact vC) (by rw[vn];unfold aK;omega) (by rw[vn];omega) (by rw[←hv];exact Kw) (by unfold aK;omega) ?_
 refine loop m za _ (Nat.le_refl _) RD (by simp) ?_ ?_
 ·
  have h2:=jA za m (by omega)
  refine Nat.lt_of_not_le fun h => ?_
  have h3:=Nat.mul_le_mul_left (4294967296^m) h
  have h4:4294967296^m*V≤N:=by omega
  have h5:nat a*2^s<4294967296^a.length*2^s:=Nat.mul_lt_mul_of_pos_right (ej a) hP
  have h6:4294967296^m*V=4294967296^m*nat b*2^s:=by rw[hV,Nat.mul_assoc]
  have h7:4294967296^a.length≤4294967296^m*nat b:=by
   have:=Nat.mul_le_mul_left (4294967296^m) RG
   rw[←Nat.pow_add,show m+(n+1)=a.length from by omega] at this
   exact this
  have h8:=Nat.mul_le_mul_right (2^s) h7
  omega
 ·rw[List.drop_of_length_le (by simp),OL];simp[nat]
end fi
end Go.Proofs.YtfjfekodeplcoaaGreat.Sym
namespace Go.Proofs.YtfjfekodeplcoaaGreat.Sym
open Go Path
set_option linter.unusedVariables false
abbrev wl(i:Int):Nat:=(words i.natAbs).length
theorem kp(i:Int):wl (-i)=wl i:=by unfold wl;rw[Int.natAbs_neg]
theorem Fm{i:Int}{k:Nat}(h:i.natAbs<4294967296^k):wl i≤k:=kz h
theorem Fo(i:Int):i.natAbs<4294967296^wl i:=jB _
theorem By(i j:Int):wl (i+j)≤max (wl i) (wl j)+1:=by
 refine Fm ?_
 have h1:=Fo i
 have h2:=Fo j
 have h3:=lJ (Nat.le_max_left (wl i) (wl j))
 have h4:=lJ (Nat.le_max_right (wl i) (wl j))
 have h5:=Int.natAbs_add_le i j
 rw[Nat.pow_succ]
 omega
theorem jg(i j:Int):wl (i*j)≤wl i+wl j:=by
 refine Fm ?_
 rw[Int.natAbs_mul,Nat.pow_add]
 exact Nat.mul_lt_mul'' (Fo i) (Fo j)
theorem bg(a:aB):wl a.val≤a.cM.length:=by
 unfold wl
 rw[fi.Bt]
 cases a.valid<;>simp
namespace fi
def o7(i:Int):Int:=ea i 0
theorem Fp{i:Int}(h:i<0):o7 i = -1:=o6 h
theorem Fq{i:Int}(h:0<i):o7 i=1:=qO h
theorem CU:o7 0=0:=rfl
theorem Sign(a:aB)(h:Fit a.cM):Cp 79 [a.pv] (vI (o7 a.val)):=by
 have hm:=cM a h
 by_cases h0:a.val=0
 ·rw[h0,CU]
  exact nt.e0 a _ hm (by rw[h0];rfl)
 ·have hl:(words a.val.natAbs).length≠0:=by rw[Ne,dP];omega
  have hv:a.valid=true:=by
   cases hv:a.valid with
   |true=>rfl
   |false=>exact absurd (by unfold aB.val;rw[hv];rfl) h0
  by_cases hn:a.val<0
  ·rw[Fp hn]
   have:=xi a
   rw[hv,decide_eq_true hn] at this
   exact nt.e1 a _ hm hl (by simpa using this.symm)
  ·rw[Fq (by omega)]
   have:=xi a
   rw[hv,decide_eq_false hn] at this
   exact nt.e2 a _ hm hl (by simpa using this.symm)
theorem EC(a b:aB)(ha:Fit a.cM)(hb:Fit b.cM):Cp 76 [a.pv,b.pv] (vI (ea a.val b.val)):=by
 have h1:=Sign a ha
 have h2:=Sign b hb
 have h3:=cM a ha
 have h4:=cM b hb
 have h5:=neg a ha
 have la:=bg a
 by_cases he:o7 a.val=o7 b.val
 ·have hc:=compare (words a.val.natAbs) (words b.val.natAbs) (gK _) (gK _) (by have:(words a.val.natAbs).length≤a.cM.length:=la;omega)
  rw[aF,aF] at hc
  unfold o7 ea at he
  by_cases hn:a.val<0
  ·have Jf:b.val<0:=by
    rw[if_pos hn] at he
    split at he
    ·assumption
    ·split at he<;>omega
   have e:ea a.val b.val = -(ea (a.val.natAbs:Int) (b.val.natAbs:Int)):=by
    unfold ea
    split<;>split<;>(try split)<;>(try split)<;>omega
   rw[e]
   refine mC.e2 a b _ _ _ _ _ _ h1 h2 (by unfold o7 ea;exact he) h3 h4 hc h5 (decide_eq_true hn) ?_
   unfold aK ea;split<;>(try split)<;>omega
  ·have Jf:¬b.val<0:=by
    intro cX
    rw[if_neg hn,if_pos cX] at he
    split at he<;>omega
   have e:ea a.val b.val=ea (a.val.natAbs:Int) (b.val.natAbs:Int):=by
    unfold ea
    split<;>split<;>(try split)<;>(try split)<;>omega
   rw[e]
   exact mC.e3 a b _ _ _ _ _ _ h1 h2 (by unfold o7 ea;exact he) h3 h4 hc h5 (decide_eq_false hn)
 ·by_cases cN:o7 a.val<o7 b.val
  ·rw[o6 (by
    unfold o7 ea at cN
    split at cN<;>split at cN<;>(try split at cN)<;>(try split at cN)<;>omega)]
   exact mC.e0 a b _ _ h1 h2 he cN
  ·rw[qO (by
    unfold o7 ea at cN he
    split at cN<;>split at cN<;>(try split at cN)<;>(try split at cN)<;>(simp_all;try omega))]
   exact mC.e1 a b _ _ h1 h2 he (by omega)
theorem Neg(a:aB)(h:Fit a.cM):Cp 99 [a.pv] (Sym.whole (-a.val)).pv:=by
 have h3:=cM a h
 have h5:=neg a h
 have la:=bg a
 have hw:=whole (!decide (a.val<0)) (words a.val.natAbs) (by have:(words a.val.natAbs).length≤a.cM.length:=la;omega)
 have e:(bif !decide (a.val<0) then -(nat (words a.val.natAbs):Int) else (nat (words a.val.natAbs):Int)) = -a.val:=by
  rw[aF]
  by_cases h:a.val<0
  ·simp[h];omega
  ·simp[h];omega
 rw[e] at hw
 exact wk.e0 a _ _ _ h5 h3 hw
theorem Add(a b:aB)(ha:Fit a.cM)(hb:Fit b.cM):Cp 83 [a.pv,b.pv] (Sym.whole (a.val+b.val)).pv:=by
 have h1:=cM a ha
 have h2:=cM b hb
 have h3:=neg a ha
 have h4:=neg b hb
 have la:(words a.val.natAbs).length≤a.cM.length:=bg a
 have lb:(words b.val.natAbs).length≤b.cM.length:=bg b
 by_cases hs:decide (a.val<0)=decide (b.val<0)
 ·have hp:=plus (words a.val.natAbs) (words b.val.natAbs) (by omega) (by omega)
  rw[aF,aF] at hp
  have hl:=kz (n:=a.val.natAbs+b.val.natAbs) (k:=max (words a.val.natAbs).length (words b.val.natAbs).length+1) (by
   have g1:=jB a.val.natAbs
   have g2:=jB b.val.natAbs
   have g3:=lJ (Nat.le_max_left (words a.val.natAbs).length (words b.val.natAbs).length)
   have g4:=lJ (Nat.le_max_right (words a.val.natAbs).length (words b.val.natAbs).length)
   rw[Nat.pow_succ];omega)
  have hw:=whole (decide (a.val<0)) (words (a.val.natAbs+b.val.natAbs)) (by omega)
  rw[aF] at hw
  have e:(bif decide (a.val<0) then -((a.val.natAbs+b.val.natAbs:Nat):Int) else ((a.val.natAbs+b.val.natAbs:Nat):Int))=a.val+b.val:=by
   by_cases h:a.val<0
   ·have:b.val<0:=by simpa[h] using hs.symm
    simp[h];omega
   ·have:¬b.val<0:=by simpa[h] using hs.symm
    simp[h];omega
  rw[e] at hw
  exact oO.e0 a b _ _ _ _ _ _ _ h1 h2 h3 h4 hs h3 hp hw
 ·have hc:=compare (words a.val.natAbs) (words b.val.natAbs) (gK _) (gK _) (by omega)
  rw[aF,aF] at hc
  by_cases vb:b.val.natAbs≤a.val.natAbs
  ·have hl:=less (words a.val.natAbs) (words b.val.natAbs) (by omega) (by rw[aF,aF];exact vb)
   rw[aF,aF] at hl
   have hlen:=dR (show a.val.natAbs-b.val.natAbs≤a.val.natAbs by omega)
   have hw:=whole (decide (a.val<0)) (words (a.val.natAbs-b.val.natAbs)) (by omega)
   rw[aF] at hw
   have e:(bif decide (a.val<0) then -((a.val.natAbs-b.val.natAbs:Nat):Int) else ((a.val.natAbs-b.val.natAbs:Nat):Int))=a.val+b.val:=by
    by_cases h:a.val<0
    ·have:¬b.val<0:=by simpa[h] using hs
     simp[h];omega
    ·have:b.val<0:=by simpa[h] using hs
     simp[h];omega
   rw[e] at hw
   exact oO.e1 a b _ _ _ _ _ _ _ _ h1 h2 h3 h4 hs hc (by unfold ea;split<;>(try split)<;>omega) h3 hl hw
  ·have hl:=less (words b.val.natAbs) (words a.val.natAbs) (by omega) (by rw[aF,aF];omega)
   rw[aF,aF] at hl
   have hlen:=dR (show b.val.natAbs-a.val.natAbs≤b.val.natAbs by omega)
   have hw:=whole (decide (b.val<0)) (words (b.val.natAbs-a.val.natAbs)) (by omega)
   rw[aF] at hw
   have e:(bif decide (b.val<0) then -((b.val.natAbs-a.val.natAbs:Nat):Int) else ((b.val.natAbs-a.val.natAbs:Nat):Int))=a.val+b.val:=by
    by_cases h:b.val<0
    ·have:¬a.val<0:=by intro h';simp[h,h'] at hs
     simp[h];omega
    ·have:a.val<0:=by
      refine Classical.byContradiction fun h' => ?_
      simp[h,h'] at hs
     simp[h];omega
   rw[e] at hw
   exact oO.e2 a b _ _ _ _ _ _ _ _ h1 h2 h3 h4 hs hc (by unfold ea;split<;>(try split)<;>omega) h4 hl hw
theorem Mul(a b:aB)(ha:Fit a.cM)(hb:Fit b.cM):Cp 59 [a.pv,b.pv] (Sym.whole (a.val*b.val)).pv:=by
 have h1:=cM a ha
 have h2:=cM b hb
 have h3:=neg a ha
 have h4:=neg b hb
 have la:(words a.val.natAbs).length≤a.cM.length:=bg a
 have lb:(words b.val.natAbs).length≤b.cM.length:=bg b
 have ht:=times (words a.val.natAbs) (words b.val.natAbs) (by omega) (by omega)
 rw[aF,aF] at ht
 have hl:(words (a.val.natAbs*b.val.natAbs)).length≤(words a.val.natAbs).length+(words b.val.natAbs).length:=by
  have:=jg a.val b.val
  unfold wl at this
  rw[Int.natAbs_mul] at this;exact this
 have hw:=whole (!(decide (a.val<0)==decide (b.val<0))) (words (a.val.natAbs*b.val.natAbs)) (by omega)
 rw[aF] at hw
 have e:(bif !(decide (a.val<0)==decide (b.val<0)) then -((a.val.natAbs*b.val.natAbs:Nat):Int) else ((a.val.natAbs*b.val.natAbs:Nat):Int))=a.val*b.val:=by
  by_cases h:a.val<0<;>by_cases h':b.val<0<;>simp only[h,h',decide_true,decide_false,beq_self_eq_true,Bool.not_true,cond_false,Bool.not_false,cond_true,show(true==false)=false from rfl,show(false==true)=false from rfl]
  ·rw[←Int.natAbs_mul,Int.natAbs_of_nonneg (Int.mul_nonneg_of_nonpos_of_nonpos (by omega) (by omega))]
  ·rw[←Int.natAbs_mul,Int.ofNat_natAbs_of_nonpos (Int.mul_nonpos_of_nonpos_of_nonneg (by omega) (by omega))];omega
  ·rw[←Int.natAbs_mul,Int.ofNat_natAbs_of_nonpos (Int.mul_nonpos_of_nonneg_of_nonpos (by omega) (by omega))];omega
  ·rw[←Int.natAbs_mul,Int.natAbs_of_nonneg (Int.mul_nonneg (by omega) (by omega))]
 rw[e] at hw
 exact wj.e0 a b _ _ _ _ _ _ h3 h4 h1 h2 ht hw
theorem Of(n:Int)(h:aK n):Cp 119 [vI n] (Sym.whole n).pv:=by
 obtain⟨g1,g2⟩:=h
 have Iu:(2:Nat)^min 32 64=4294967296:=by decide
 have key:∀m:Nat,m=n.natAbs→∃w w1:UInt32,m%4294967296=w.toNat∧m/4294967296%4294967296=w1.toNat∧Cp 101 [(vB (decide (n<0))),(ae [w,w1])] (Sym.whole n).pv:=by
  intro m hm
  obtain⟨w,hw⟩:=gJ (m%4294967296) (by omega)
  obtain⟨w1,Dw⟩:=gJ (m/4294967296%4294967296) (by omega)
  refine⟨w,w1,hw.symm,Dw.symm,?_⟩
  have:=whole (decide (n<0)) [w,w1] (by simp)
  have e:nat [w,w1]=m:=by simp only[nat,hw,Dw];omega
  rw[e,hm] at this
  have e2:(bif decide (n<0) then -(n.natAbs:Int) else (n.natAbs:Int))=n:=by
   by_cases h:n<0
   ·simp[h];omega
   ·simp[h];omega
  rw[e2] at this;exact this
 by_cases hn:n<0
 ·obtain⟨w,w1,q1,q2,q3⟩:=key n.natAbs rfl
  exact tD.e0 n (n%18446744073709551616).toNat n.natAbs w _ w1 _ (by omega) hn (by omega) q1 (by rw[Iu]) q2 q3
 ·obtain⟨w,w1,q1,q2,q3⟩:=key n.natAbs rfl
  exact tD.e1 n n.natAbs w _ w1 _ (by omega) (by omega) q1 (by rw[Iu]) q2 q3
theorem Div(a b:aB)(ha:Fit a.cM)(hb:Fit b.cM)(h0:b.val≠0) :
  Cp 100 [a.pv,b.pv] (.bh [(Sym.whole (a.val/b.val)).pv,(Sym.whole (a.val%b.val)).pv,.bK]):=by
 have h1:=cM a ha
 have h2:=cM b hb
 have h3:=neg a ha
 have h4:=neg b hb
 have la:(words a.val.natAbs).length≤a.cM.length:=bg a
 have lb:(words b.val.natAbs).length≤b.cM.length:=bg b
 have Dy:(words b.val.natAbs).length≠0:=by rw[Ne,dP];omega
 have Lg:0<b.val.natAbs:=by omega
 have hd:=Bx (words a.val.natAbs) (words b.val.natAbs) (gK _) (gK _) (by intro e;rw[e] at Dy;simp at Dy) (by omega) (by omega)
 rw[aF,aF] at hd
 have hq:=dR (Nat.div_le_self a.val.natAbs b.val.natAbs)
 have hr:=dR (Nat.le_of_lt (Nat.mod_lt a.val.natAbs Lg))
 have Dz:=Nat.div_add_mod a.val.natAbs b.val.natAbs
 have Rp:=Nat.mod_lt a.val.natAbs Lg
 generalize hQ:a.val.natAbs/b.val.natAbs=q at *
 generalize hR:a.val.natAbs%b.val.natAbs=r at *
 have sb:b.val=if b.val<0 then -(b.val.natAbs:Int) else (b.val.natAbs:Int):=by split<;>omega
 have uniq:∀x y:Int,a.val=b.val*x+y→0≤y→y<b.val.natAbs→a.val/b.val=x∧a.val%b.val=y:=by
  intro x y e1 e2 e3
  rcases Int.lt_or_gt_of_ne h0 with cX|cX
  ·exact(Int.ediv_emod_unique' cX).2 ⟨by omega,e2,by omega⟩
  ·exact(Int.ediv_emod_unique cX).2 ⟨by omega,e2,by omega⟩
 by_cases hn:a.val<0
 ·by_cases Jd:r=0
  ·have hw:=whole (!(decide (a.val<0)==decide (b.val<0))) (words q) (by omega)
   have w7:=whole false (words r) (by omega)
   rw[aF] at hw w7
   subst Jd
   have e:a.val/b.val=(bif !(decide (a.val<0)==decide (b.val<0)) then -(q:Int) else (q:Int))∧a.val%b.val=0:=by
    refine uniq _ 0 ?_ (by omega) (by omega)
    have sQ:(a.val.natAbs:Int)=(b.val.natAbs:Int)*q:=by rw[←Dz];simp
    by_cases h':b.val<0
    ·simp only[hn,h',decide_true,beq_self_eq_true,Bool.not_true,cond_false]
     have:(b.val.natAbs:Int) = -b.val:=by omega
     rw[this] at sQ
     have:(a.val.natAbs:Int) = -a.val:=by omega
     rw[this,Int.neg_mul] at sQ
     omega
    ·simp only[hn,h',decide_true,decide_false,show(true==false)=false from rfl,Bool.not_false,cond_true]
     have:(b.val.natAbs:Int)=b.val:=by omega
     rw[this] at sQ
     have:(a.val.natAbs:Int) = -a.val:=by omega
     rw[this] at sQ
     rw[Int.mul_neg];omega
   rw[e.1,e.2]
   exact oP.e2 a b _ _ _ _ _ _ _ _ _ h2 Dy h1 hd h3 (decide_eq_true hn) (by rw[fX];simp) h3 h4 hw w7
  ·have hp:=plus (words q) [1] (by omega) (by simp)
   have hl:=less (words b.val.natAbs) (words r) (by omega) (by rw[aF,aF];omega)
   rw[aF] at hp
   rw[aF,aF] at hl
   have e1:nat [1]=1:=rfl
   rw[e1] at hp
   have G2:=kz (n:=q+1) (k:=(words q).length+1) (by have:=jB q;rw[Nat.pow_succ];omega)
   have NK:=dR (show b.val.natAbs-r≤b.val.natAbs by omega)
   have hw:=whole (!(decide (a.val<0)==decide (b.val<0))) (words (q+1)) (by omega)
   have w7:=whole false (words (b.val.natAbs-r)) (by omega)
   rw[aF] at hw w7
   have e:a.val/b.val=(bif !(decide (a.val<0)==decide (b.val<0)) then -((q+1:Nat):Int) else ((q+1:Nat):Int))∧a.val%b.val=((b.val.natAbs-r:Nat):Int):=by
    refine uniq _ _ ?_ (by omega) (by omega)
    have sQ:(a.val.natAbs:Int)=(b.val.natAbs:Int)*q+r:=by rw[←Dz];simp
    by_cases h':b.val<0
    ·simp only[hn,h',decide_true,beq_self_eq_true,Bool.not_true,cond_false]
     have e5:(b.val.natAbs:Int) = -b.val:=by omega
     rw[e5] at sQ
     have:(a.val.natAbs:Int) = -a.val:=by omega
     rw[this,Int.neg_mul] at sQ
     rw[show ((q+1:Nat):Int)=(q:Int)+1 from by omega,Int.mul_add]
     omega
    ·simp only[hn,h',decide_true,decide_false,show(true==false)=false from rfl,Bool.not_false,cond_true]
     have:(b.val.natAbs:Int)=b.val:=by omega
     rw[this] at sQ
     have:(a.val.natAbs:Int) = -a.val:=by omega
     rw[this] at sQ
     rw[show ((q+1:Nat):Int)=(q:Int)+1 from by omega,Int.mul_neg,Int.mul_add];omega
   rw[e.1,e.2]
   exact oP.e1 a b _ _ _ _ _ _ _ _ _ _ _ h2 Dy h1 hd h3 (decide_eq_true hn) (by have:=(dP (n:=r)).1;omega) hp hl h3 h4 hw w7
 ·have hw:=whole (!(decide (a.val<0)==decide (b.val<0))) (words q) (by omega)
  have w7:=whole false (words r) (by omega)
  rw[aF] at hw w7
  have e:a.val/b.val=(bif !(decide (a.val<0)==decide (b.val<0)) then -(q:Int) else (q:Int))∧a.val%b.val=(r:Int):=by
   refine uniq _ _ ?_ (by omega) (by omega)
   have sQ:(a.val.natAbs:Int)=(b.val.natAbs:Int)*q+r:=by rw[←Dz];simp
   by_cases h':b.val<0
   ·simp only[hn,h',decide_true,decide_false,show(false==true)=false from rfl,Bool.not_false,cond_true]
    have e5:(b.val.natAbs:Int) = -b.val:=by omega
    rw[e5] at sQ
    have:(a.val.natAbs:Int)=a.val:=by omega
    rw[this,Int.neg_mul] at sQ
    rw[Int.mul_neg];omega
   ·simp only[hn,h',decide_false,beq_self_eq_true,Bool.not_true,cond_false]
    have:(b.val.natAbs:Int)=b.val:=by omega
    rw[this] at sQ
    have:(a.val.natAbs:Int)=a.val:=by omega
    rw[this] at sQ
    omega
  rw[e.1,e.2]
  exact oP.e3 a b _ _ _ _ _ _ _ _ _ h2 Dy h1 hd h3 (decide_eq_false hn) h3 h4 hw w7
theorem Gcd(a b:aB)(ha:Fit a.cM)(hb:Fit b.cM):Cp 77 [a.pv,b.pv] (Sym.whole (Nat.gcd a.val.natAbs b.val.natAbs)).pv:=by
 have h1:=cM a ha
 have h2:=cM b hb
 have la:(words a.val.natAbs).length≤a.cM.length:=bg a
 have lb:(words b.val.natAbs).length≤b.cM.length:=bg b
 have loop:∀(k x y:Nat),y≤k→(words x).length≤1099511627776→(words y).length≤1099511627776→kr.ar (words x) (words y) (Sym.whole (Nat.gcd x y)).pv:=by
  intro k
  induction k with
  |zero =>
   intro x y hy hx _
   have:y=0:=by omega
   subst this
   have hw:=whole false (words x) (by omega)
   rw[aF] at hw
   rw[Nat.gcd_zero_right]
   exact kr.dD _ _ _ (by rw[fX];simp) hw
  |succ k ih =>
   intro x y hy hx SU
   by_cases h0:y=0
   ·subst h0
    have hw:=whole false (words x) (by omega)
    rw[aF] at hw
    rw[Nat.gcd_zero_right]
    exact kr.dD _ _ _ (by rw[fX];simp) hw
   ·have SV:(words y).length≠0:=by rw[Ne,dP];exact h0
    have hd:=Bx (words x) (words y) (gK _) (gK _) (by intro e;rw[e] at SV;simp at SV) (by omega) (by omega)
    rw[aF,aF] at hd
    have hm:=Nat.mod_lt x (show 0<y by omega)
    refine kr.dC _ _ _ _ (by omega) hd ?_
    rw[Nat.gcd_comm,Nat.gcd_rec,Nat.gcd_comm]
    exact ih y (x%y) (by omega) SU (Nat.le_trans (dR (Nat.le_of_lt hm)) SU)
 exact kr.e0 a b _ _ h1 h2 (loop _ _ _ (Nat.le_refl _) (by omega) (by omega))
end fi
abbrev ws(a:Words):SC := .pure ((a:List UInt32).map ai).flatten
namespace wR
open fi
theorem Valid(a:aB)(h:Fit a.cM):Cp 133 [a.pv] (vB a.valid):=by
 unfold aB.valid
 rw[df]
 by_cases h0:a.cM.length=0
 ·simp only[h0,decide_true,cond_true]
  exact jT.e0 a h0
 ·simp only[h0,decide_false,cond_false]
  obtain⟨v,hv⟩:∃v,a.cM[a.cM.length-1]? = some v:=⟨_,List.getElem?_eq_getElem (by omega)⟩
  have:=jT.e1 a (a.cM.length-1) v h0 (by unfold aK;omega) (by omega) hv
  have e:cn a.cM=((v.toNat:Int) != 0):=by
   have h1:=mo hv
   by_cases h2:v.toNat=0
   ·have h3:((v.toNat:Int) != 0)=false:=by simp[h2]
    rw[h3]
    cases hc:cn a.cM with
    |true=>exact absurd h2 (h1.1 hc)
    |false=>rfl
   ·have h3:((v.toNat:Int) != 0)=true:=by simp;omega
    rw[h3];exact h1.2 h2
  rw[e];exact this
theorem cM(a:aB)(h:Fit a.cM):Cp 91 [a.pv] (ae (words a.val.natAbs)):=by
 rw[Bt]
 cases hv:a.valid with
 |false=>exact lu.e0 a a.valid (Valid a h) hv
 |true=>exact lu.e1 a a.valid (Valid a h) hv
theorem neg(a:aB)(h:Fit a.cM):Cp 92 [a.pv] (vB (decide (a.val<0))):=by
 rw[xi]
 cases hv:a.valid with
 |false=>exact lv.e1 a a.valid (Valid a h) hv
 |true=>rw[Bool.true_and];exact lv.e0 a a.valid (Valid a h) hv
theorem trimmed{l:Words}{n:Nat}{v:UInt32}(hv:l[n]? = some v)(h0:v.toNat=0)(hn:n+1=l.length):nat (l.take n)=nat l:=by
 have:=bO hv
 rw[aY (by omega),h0] at this
 omega
theorem trim(a:Words)(h:a.length≤35184372088832):Cp 127 [ae a] (ae (words (nat a))):=by
 have loop:∀(n:Nat) (l:Words),l.length=n→n≤35184372088832→eF.ar l (ae (words (nat l))):=by
  intro n
  induction n with
  |zero =>
   intro l hl _
   have:l=[]:=List.eq_nil_of_length_eq_zero hl
   subst this
   exact eF.kM [] (by simp)
  |succ n ih =>
   intro l hl hb
   obtain⟨v,hv⟩:∃v,l[n]? = some v:=⟨_,List.getElem?_eq_getElem (by omega)⟩
   by_cases h0:v.toNat=0
   ·refine eF.dC l n v n (by omega) (by unfold aK;omega) (by omega) (by omega) hv h0 (by omega) (by omega) ?_
    have:=ih (l.take n) (by simp;omega) (by omega)
    rwa[trimmed hv h0 hl.symm] at this
   ·rw[rO ((mo (v:=v) (by rw[hl];exact hv)).2 h0) rfl]
    exact eF.dD l n v (by omega) (by unfold aK;omega) (by omega) (by omega) hv h0
 exact eF.e0 a (by simp;omega) (loop _ a rfl h)
theorem Lh(a:Words)(h:a.length≤35184372088832):aw a7 127 [.pv (ae a)] [] (.row 0 0 (words (nat a)).length 1) [(0,ws (words (nat a)))]:=by
 have loop:∀(n:Nat) (l:Words),l.length=n→n≤35184372088832→eo.ar l [] (.row 0 0 (words (nat l)).length 1) [(0,ws (words (nat l)))]:=by
  intro n
  induction n with
  |zero =>
   intro l hl _
   have:l=[]:=List.eq_nil_of_length_eq_zero hl
   subst this
   exact eo.kM [] rfl rfl (by simp)
  |succ n ih =>
   intro l hl hb
   obtain⟨v,hv⟩:∃v,l[n]? = some v:=⟨_,List.getElem?_eq_getElem (by omega)⟩
   by_cases h0:v.toNat=0
   ·refine eo.dC l n v n rfl (by omega) (by unfold aK;omega) (by omega) (by omega) hv h0 (by omega) (by omega) ?_
    have:=ih (l.take n) (by simp;omega) (by omega)
    rwa[trimmed hv h0 hl.symm] at this
   ·rw[rO ((mo (v:=v) (by rw[hl];exact hv)).2 h0) rfl]
    exact eo.dD l n v rfl rfl (by omega) (by unfold aK;omega) (by omega) (by omega) hv h0
 exact eo.e0 a (by simp;omega) (loop _ a rfl h)
theorem cut(a:Words)(h:a.length≤35184372088832):aw a7 131 [.row 100000 0 a.length 1] [(100000,ws a)] (.row 100000 0 (words (nat a)).length 1) [(100000,ws (words (nat a)))]:=by
 have loop:∀n:Nat,n≤a.length→nat (a.take n)=nat a→fc.ar n a [(100000,ws a)] (.row 100000 0 (words (nat a)).length 1) [(100000,ws (words (nat a)))]:=by
  intro n
  induction n with
  |zero =>
   intro _ h2
   have:nat a=0:=by rw[←h2];rfl
   rw[this,fX]
   have:=fc.kM 0 a (sin:=[(100000,ws a)]) rfl rfl (Nat.le_refl 0)
   exact this
  |succ n ih =>
   intro h1 h2
   obtain⟨v,hv⟩:∃v,a[n]? = some v:=⟨_,List.getElem?_eq_getElem (by omega)⟩
   by_cases h0:v.toNat=0
   ·refine fc.dC _ a n v n rfl (by omega) (by unfold aK;omega) (by omega) (by omega) hv h0 (by omega) (by omega) (ih (by omega) ?_)
    rw[bO hv,h0] at h2
    omega
   ·have e:words (nat a)=a.take (n+1):=by
     refine rO ?_ h2
     refine(mo (v:=v) ?_).2 h0
     rw[List.length_take,Nat.min_eq_left h1,Nat.add_sub_cancel,List.getElem?_take,if_pos (by omega)]
     exact hv
    have:=fc.dD (n+1) a n v (sin:=[(100000,ws a)]) rfl rfl (by omega) (by unfold aK;omega) (by omega) (by omega) hv h0
    rw[e,List.length_take,Nat.min_eq_left h1]
    exact this
 exact fc.e0 a a.length (loop a.length (Nat.le_refl _) (aY (Nat.le_refl _)))
theorem form(neg:Bool)(m:Words)(h:m.length≤35184372088832):Cp 89 [vB neg,ae m] (Sym.whole (bif neg then -(nat m:Int) else (nat m:Int))).pv:=by
 have ht:=trim m h
 by_cases h0:nat m=0
 ·have:=kj.e0 neg m _ ht (by rw[h0,fX];rfl)
  rw[h0]
  cases neg<;>exact this
 ·have hl:(words (nat m)).length≠0:=by rw[Ne,dP];exact h0
  have:=kj.e1 neg m _ ht hl
  cases neg with
  |false =>
   have e:decide ((nat m:Int)<0)=false:=by simp
   simp only[Sym.whole,cond_false,e,Int.natAbs_natCast]
   exact this
  |true =>
   have e:decide (-(nat m:Int)<0)=true:=by simp;omega
   simp only[Sym.whole,cond_true,e,Int.natAbs_neg,Int.natAbs_natCast]
   exact this
theorem GO(a:Words)(i:Nat):Cp 154 [ae a,vI (i:Int)] (vU (wd a i)):=by
 unfold wd
 cases h:a[i]? with
 |none =>
  have:=List.getElem?_eq_none_iff.1 h
  exact mc.e1 a i (by omega)
 |some v =>
  have:=(List.getElem?_eq_some_iff.1 h).1
  exact mc.e0 a i i v (by omega) rfl h
theorem atR(a:Words)(i:Nat)(len:Nat)(hl:len=a.length):aw a7 154 [.row 100000 0 len 1,.pv (vI (i:Int))] [(100000,ws a)] (.pv (vU (wd a i))) [(100000,ws a)]:=by
 subst hl
 unfold wd
 cases h:a[i]? with
 |none =>
  have:=List.getElem?_eq_none_iff.1 h
  exact lx.e1 a a.length i (by omega)
 |some v =>
  have:=(List.getElem?_eq_some_iff.1 h).1
  exact lx.e0 a a.length i i v (by omega) rfl this h
def Alike(a b:Words)(n:Nat):Prop:=∀q,n≤q→wd a q=wd b q
theorem Iz:∀(n:Nat) (a b:Words),a.length≤n→b.length≤n→(∀q,wd a q=wd b q)→nat a=nat b
 |0,a,b,ha,hb,_=>by
  have h1:a=[]:=List.eq_nil_of_length_eq_zero (by omega)
  have h2:b=[]:=List.eq_nil_of_length_eq_zero (by omega)
  rw[h1,h2]
 |n+1,a,b,ha,hb,h=>by
  have h1:=jf a 0
  have h2:=jf b 0
  have hw:∀(c:Words) (q:Nat),wd (c.drop 1) q=wd c (q+1):=fun c q=>by unfold wd;rw[List.getElem?_drop,Nat.add_comm]
  have:=Iz n (a.drop 1) (b.drop 1) (by simp;omega) (by simp;omega) (fun q=>by rw[hw,hw];exact h (q+1))
  simp only[List.drop_zero,Nat.zero_add] at h1 h2
  rw[h1,h2,this,h 0]
theorem yP{a b:Words}{n:Nat}(h:Alike a b n):nat (a.drop n)=nat (b.drop n):=by
 refine Iz (max (a.drop n).length (b.drop n).length) _ _ (Nat.le_max_left _ _) (Nat.le_max_right _ _) (fun q => ?_)
 have:=h (n+q) (by omega)
 unfold wd at this ⊢
 rw[List.getElem?_drop,List.getElem?_drop];exact this
theorem Fs(a:Words)(k:Nat):nat a=nat (a.take k)+4294967296^k*wd a k+4294967296^(k+1)*nat (a.drop (k+1)):=by
 by_cases h:k<a.length
 ·have hv:=List.getElem?_eq_getElem h
  rw[iK hv];exact vA a k hv
 ·rw[aY (by omega),uH (by omega),List.drop_of_length_le (by omega),show nat []=0 from rfl,Nat.mul_zero,Nat.mul_zero,Nat.add_zero]
theorem vE{a b:Words}{k:Nat}(h:Alike a b (k+1))(cN:wd a k<wd b k):nat a<nat b:=by
 rw[Fs a k,Fs b k,yP h]
 have h1:=ej (a.take k)
 have h2:=lJ (show (a.take k).length≤k by simp;omega)
 have h3:4294967296^k*(wd a k+1)≤4294967296^k*wd b k:=Nat.mul_le_mul_left _ cN
 rw[Nat.mul_add] at h3
 omega
theorem vF{a b:Words}{n:Nat}(ha:a.length≤n)(hb:b.length≤n):Alike a b n:=fun q hq=>by rw[uH (by omega),uH (by omega)]
theorem vG{a b:Words}(h:Alike a b 0):nat a=nat b:=by
 have:=yP h
 simpa using this
theorem tI{a b:Words}{n:Nat}(h:Alike a b (n+1))(he:wd a n=wd b n):Alike a b n:=fun q hq=>by
 by_cases Li:q=n
 ·rw[Li];exact he
 ·exact h q (by omega)
theorem compare(a b:Words)(ha:a.length<4611686018427387904)(hb:b.length<4611686018427387904):Cp 129 [ae a,ae b] (vI (ea (nat a) (nat b))):=by
 have loop:∀n:Nat,n<4611686018427387904→Alike a b n→cT.ar a b ((n:Int)-1) (vI (ea (nat a) (nat b))):=by
  intro n
  induction n with
  |zero =>
   intro _ hd
   rw[xj (by rw[vG hd])]
   exact cT.An a b _ (by omega)
  |succ n ih =>
   intro hn hd
   have e:((n+1:Nat):Int)-1=(n:Int):=by omega
   have h1:=GO a n
   have h2:=GO b n
   rw[e]
   by_cases he:wd a n=wd b n
   ·exact cT.kM a b _ _ _ (by omega) h1 h2 he (by unfold aK;omega) (ih (by omega) (tI hd he))
   ·by_cases cN:wd a n<wd b n
    ·rw[o6 (by have:=vE hd cN;omega)]
     exact cT.dC a b _ _ _ _ _ (by omega) h1 h2 he h1 h2 cN
    ·rw[qO (by have:=vE (a:=b) (b:=a) (fun q hq=>(hd q hq).symm) (show wd b n<wd a n by omega);omega)]
     exact cT.dD a b _ _ _ _ _ (by omega) h1 h2 he h1 h2 (by omega)
 exact cT.e0 a b (by unfold aK;omega) (loop _ (by omega) (vF (Nat.le_max_left _ _) (Nat.le_max_right _ _)))
theorem IA(a b:Words)(len:Nat)(hl:len=a.length)(ha:a.length<4611686018427387904)(hb:b.length<4611686018427387904) :
  aw a7 129 [.row 100000 0 len 1,.pv (ae b)] [(100000,ws a)] (.pv (vI (ea (nat a) (nat b)))) [(100000,ws a)]:=by
 have loop:∀n:Nat,n<4611686018427387904→Alike a b n→cH.ar len b ((n:Int)-1) a [(100000,ws a)] (.pv (vI (ea (nat a) (nat b)))) [(100000,ws a)]:=by
  intro n
  induction n with
  |zero =>
   intro _ hd
   rw[xj (by rw[vG hd])]
   exact cH.An len b _ a rfl rfl (by omega)
  |succ n ih =>
   intro hn hd
   have e:((n+1:Nat):Int)-1=(n:Int):=by omega
   have h1:=atR a n len hl
   have h2:=GO b n
   rw[e]
   by_cases he:wd a n=wd b n
   ·exact cH.kM len b _ a a _ _ rfl (by omega) h1 h2 he (by unfold aK;omega) (ih (by omega) (tI hd he))
   ·by_cases cN:wd a n<wd b n
    ·rw[o6 (by have:=vE hd cN;omega)]
     exact cH.dC len b _ a a _ _ a _ _ rfl rfl (by omega) h1 h2 he h1 h2 cN
    ·rw[qO (by have:=vE (a:=b) (b:=a) (fun q hq=>(hd q hq).symm) (show wd b n<wd a n by omega);omega)]
     exact cH.dD len b _ a a _ _ a _ _ rfl rfl (by omega) h1 h2 he h1 h2 (by omega)
 exact cH.e0 a len b (by unfold aK;omega) (loop _ (by omega) (vF (by omega) (Nat.le_max_right _ _)))
theorem Gd(a b:Words)(len oe:Nat)(hl:len=a.length)(G2:oe=b.length)(ha:a.length<4611686018427387904)(hb:b.length<4611686018427387904) :
  aw a7 129 [.row 100000 0 len 1,.row 100001 0 oe 1] [(100000,ws a),(100001,ws b)] (.pv (vI (ea (nat a) (nat b)))) [(100000,ws a),(100001,ws b)]:=by
 have loop:∀n:Nat,n<4611686018427387904→Alike a b n→cz.ar len oe ((n:Int)-1) a b [(100000,ws a),(100001,ws b)] (.pv (vI (ea (nat a) (nat b)))) [(100000,ws a),(100001,ws b)]:=by
  intro n
  induction n with
  |zero =>
   intro _ hd
   rw[xj (by rw[vG hd])]
   exact cz.An len oe _ a b rfl rfl (by omega)
  |succ n ih =>
   intro hn hd
   have e:((n+1:Nat):Int)-1=(n:Int):=by omega
   have h1:=atR a n len hl
   have h2:=atR b n oe G2
   rw[e]
   by_cases he:wd a n=wd b n
   ·exact cz.kM len oe _ a b a _ b _ rfl (by omega) h1 h2 he (by unfold aK;omega) (ih (by omega) (tI hd he))
   ·by_cases cN:wd a n<wd b n
    ·rw[o6 (by have:=vE hd cN;omega)]
     exact cz.dC len oe _ a b a _ b _ a _ b _ rfl rfl (by omega) h1 h2 he h1 h2 cN
    ·rw[qO (by have:=vE (a:=b) (b:=a) (fun q hq=>(hd q hq).symm) (show wd b n<wd a n by omega);omega)]
     exact cz.dD len oe _ a b a _ b _ a _ b _ rfl rfl (by omega) h1 h2 he h1 h2 (by omega)
 exact cz.e0 a len b oe (by unfold aK;omega) (loop _ (by omega) (vF (by omega) (by omega)))
theorem CV(l:Words)(w:UInt32):nat (l++[w])=nat l+4294967296^l.length*w.toNat:=by
 rw[mf];simp[nat]
theorem plus(a b:Words)(ha:a.length≤2199023255552)(hb:b.length≤2199023255552):Cp 132 [ae a,ae b] (ae (words (nat a+nat b))):=by
 have loop:∀(j t carry:Nat) (site:Words),max a.length b.length+1-t=j→t≤max a.length b.length+1→site.length=t→carry≤1 →
   nat site+4294967296^t*carry=nat (a.take t)+nat (b.take t)→fT.ar a b site carry t (ae (words (nat a+nat b))):=by
  intro j
  induction j with
  |zero =>
   intro t carry site hj ht hs hc hinv
   have zI:t=max a.length b.length+1:=by omega
   have EA:nat site=nat a+nat b:=by
    rw[aY (by omega),aY (by omega)] at hinv
    have h1:=ej a
    have h2:=ej b
    have h3:=lJ (show a.length≤t-1 by omega)
    have h4:=lJ (show b.length≤t-1 by omega)
    have h5:(4294967296:Nat)^t=4294967296^(t-1)*4294967296:=by rw[←Nat.pow_succ];congr 1;omega
    have OD:carry=0:=by
     cases carry with
     |zero=>rfl
     |succ c =>
      have h6:4294967296^t*1≤4294967296^t*(c+1):=Nat.mul_le_mul_left _ (by omega)
      omega
    subst OD;simpa using hinv
   have:=fT.dD a b site carry t (words (nat site)) (by omega) (trim site (by omega))
   rwa[EA] at this
  |succ j ih =>
   intro t carry site hj ht hs hc hinv
   have h1:=mG a t
   have h2:=mG b t
   obtain⟨w,hw⟩:=gJ ((wd a t+wd b t+carry)%4294967296) (by omega)
   have Iu:(2:Nat)^min 32 64=4294967296:=by decide
   refine fT.dC a b site carry t _ _ (wd a t+wd b t) (wd a t+wd b t+carry) w ((wd a t+wd b t+carry)/4294967296) (by omega) (GO a t) (GO b t) (by omega) (by omega) hw.symm (by simp;omega) (by rw[Iu]) (by omega) ?_
   refine ih (t+1) _ (site++[w]) (by omega) (by omega) (by simpa using hs) (by omega) ?_
   rw[CV,hs,dS a t,dS b t,hw,Nat.pow_succ,Nat.mul_assoc]
   have h6:4294967296^t*((wd a t+wd b t+carry)%4294967296)+4294967296^t*(4294967296*((wd a t+wd b t+carry)/4294967296))=4294967296^t*carry+4294967296^t*wd a t+4294967296^t*wd b t:=by
    rw[←Nat.mul_add,←Nat.mul_add,←Nat.mul_add]
    congr 1
    omega
   omega
 exact fT.e0 a b (by omega) (loop _ 0 0 _ rfl (by omega) rfl (by omega) (by simp[nat]))
theorem tJ{p q borrow:Nat}(hp:p<4294967296)(hq:q<4294967296)(hb:borrow≤1) :
  ∃s d d1 x z nb:Nat,(4294967296+p)%18446744073709551616=s∧((s:Nat)-(q:Nat):Int)%18446744073709551616=(d:Int)∧((d:Nat)-(borrow:Nat):Int)%18446744073709551616=(d1:Int)∧d1%4294967296=x∧d1/2^min 32 64=z ∧
   ((1:Nat)-(z:Nat):Int)%18446744073709551616=(nb:Int)∧nb≤1∧x<4294967296∧x+q+borrow=p+4294967296*nb:=by
 have e:(2:Nat)^min 32 64=4294967296:=by decide
 rw[e]
 refine⟨4294967296+p,4294967296+p-q,4294967296+p-q-borrow,_,_,1-(4294967296+p-q-borrow)/4294967296,by omega,by omega,by omega,rfl,rfl,?_,?_,?_,?_⟩
 ·have h1:(4294967296+p-q-borrow)/4294967296≤1:=by omega
  generalize (4294967296+p-q-borrow)/4294967296=u at h1 ⊢
  omega
 ·omega
 ·omega
 ·by_cases h:q+borrow≤p
  ·have h1:(4294967296+p-q-borrow)/4294967296=1:=by omega
   rw[h1];omega
  ·have h1:(4294967296+p-q-borrow)/4294967296=0:=by omega
   rw[h1];omega
theorem minus(a b:Words)(ha:a.length≤2199023255552)(iO:nat b≤nat a):Cp 146 [ae a,ae b] (ae (words (nat a-nat b))):=by
 have loop:∀(j t borrow:Nat) (site:Words),a.length-t=j→t≤a.length→site.length=t→borrow≤1 →
   nat site+nat (b.take t)=nat (a.take t)+4294967296^t*borrow→fq.ar a b site borrow t (ae (words (nat a-nat b))):=by
  intro j
  induction j with
  |zero =>
   intro t borrow site hj ht hs hc hinv
   have zI:t=a.length:=by omega
   have EA:nat site=nat a-nat b:=by
    subst zI
    rw[aY (l:=a) (by omega)] at hinv
    have h1:=ej a
    have h2:=ej site
    rw[hs] at h2
    have h3:nat (b.take a.length)=nat b:=by
     by_cases hl:b.length≤a.length
     ·exact aY hl
     ·have h4:=jA b a.length (by omega)
      have h5:nat (b.drop a.length)=0:=by
       refine Nat.eq_zero_of_not_pos fun hp => ?_
       have:=Nat.mul_le_mul_left (4294967296^a.length) hp
       omega
      rw[h5] at h4;omega
    have Dy:borrow=0:=by
     refine Nat.eq_zero_of_not_pos fun hp => ?_
     have:=Nat.mul_le_mul_left (4294967296^a.length) hp
     omega
    subst Dy
    omega
   have:=fq.dD a b site borrow t (words (nat site)) (by omega) (trim site (by omega))
   rwa[EA] at this
  |succ j ih =>
   intro t borrow site hj ht hs hc hinv
   obtain⟨s,d,d1,x,z,nb,g1,g2,g3,g4,g5,g6,g7,g8,g9⟩:=tJ (mG a t) (mG b t) hc
   obtain⟨w,hw⟩:=gJ x g8
   refine fq.dC a b site borrow t _ s _ d d1 w z nb (by omega) (GO a t) g1 (GO b t) g2 g3 (by omega) (by simp;omega) g5 g6 (by omega) ?_
   refine ih (t+1) nb (site++[w]) (by omega) (by omega) (by simpa using hs) g7 ?_
   rw[CV,hs,dS a t,dS b t,hw,Nat.pow_succ,Nat.mul_assoc]
   have h6:4294967296^t*x+4294967296^t*wd b t+4294967296^t*borrow=4294967296^t*wd a t+4294967296^t*(4294967296*nb):=by
    rw[←Nat.mul_add,←Nat.mul_add,←Nat.mul_add,g9]
   omega
 exact fq.e0 a b (loop _ 0 0 _ rfl (by omega) rfl (by omega) (by simp[nat]))
theorem CW{a b U:Words}{borrow:Nat}(hl:U.length=a.length)(iO:nat b≤nat a)(hinv:nat (U.take a.length)+nat (b.take a.length)=nat (a.take a.length)+4294967296^a.length*borrow):nat U=nat a-nat b:=by
 rw[aY (by omega),aY (l:=a) (by omega)] at hinv
 have h1:=ej a
 have h2:=ej U
 rw[hl] at h2
 have h3:nat (b.take a.length)=nat b:=by
  by_cases hl:b.length≤a.length
  ·exact aY hl
  ·have h4:=jA b a.length (by omega)
   have h5:nat (b.drop a.length)=0:=by
    refine Nat.eq_zero_of_not_pos fun hp => ?_
    have:=Nat.mul_le_mul_left (4294967296^a.length) hp
    omega
   rw[h5] at h4;omega
 have Dy:borrow=0:=by
  refine Nat.eq_zero_of_not_pos fun hp => ?_
  have:=Nat.mul_le_mul_left (4294967296^a.length) hp
  omega
 subst Dy
 omega
theorem Au{a b U:Words}{borrow nb t:Nat}{w:UInt32}(ht:t<a.length)(hl:U.length=a.length)(hinv:nat (U.take t)+nat (b.take t)=nat (a.take t)+4294967296^t*borrow)(h:w.toNat+wd b t+borrow=wd a t+4294967296*nb) :
  nat ((U.set t w).take (t+1))+nat (b.take (t+1))=nat (a.take (t+1))+4294967296^(t+1)*nb:=by
 rw[gp (by omega),dS a t,dS b t,Nat.pow_succ,Nat.mul_assoc]
 have h6:4294967296^t*w.toNat+4294967296^t*wd b t+4294967296^t*borrow=4294967296^t*wd a t+4294967296^t*(4294967296*nb):=by
  rw[←Nat.mul_add,←Nat.mul_add,←Nat.mul_add,h]
 omega
theorem sm{l:Words}{t q:Nat}{w:UInt32}(h:q≠t):wd (l.set t w) q=wd l q:=by
 unfold wd
 rw[List.getElem?_set_ne (by omega)]
theorem take(a b:Words)(len:Nat)(hlen:len=a.length)(ha:a.length≤2199023255553)(iO:nat b≤nat a) :
  ∃U:Words,U.length=a.length∧nat U=nat a-nat b∧aw a7 130 [.row 100000 0 len 1,.pv (ae b)] [(100000,ws a)] (.pv (.bh [])) [(100000,ws U)]:=by
 subst hlen
 have loop:∀(j t borrow:Nat) (U:Words),a.length-t=j→t≤a.length→U.length=a.length→borrow≤1→(∀q,t≤q→wd U q=wd a q) →
   nat (U.take t)+nat (b.take t)=nat (a.take t)+4294967296^t*borrow →
   ∃V:Words,V.length=a.length∧nat V=nat a-nat b∧fS.ar a.length b borrow t U [(100000,ws a)] (.pv (.bh [])) [(100000,ws V)]:=by
  intro j
  induction j with
  |zero =>
   intro t borrow U hj ht hl hb gF hinv
   have zI:t=a.length:=by omega
   subst zI
   exact⟨U,hl,CW hl iO hinv,fS.dD _ b borrow _ U (sin:=[(100000,ws a)]) rfl rfl (Nat.le_refl _)⟩
  |succ j ih =>
   intro t borrow U hj ht hl hb gF hinv
   obtain⟨s,d,d1,x,z,nb,g1,g2,g3,g4,g5,g6,g7,g8,g9⟩:=tJ (mG a t) (mG b t) hb
   obtain⟨w,hw⟩:=gJ x g8
   obtain⟨V,h1,h2,h3⟩:=ih (t+1) nb (U.set t w) (by omega) (by omega) (by simpa using hl) g7 (fun q hq=>by rw[sm (by omega)];exact gF q (by omega)) (Au (by omega) hl hinv (by rw[hw];exact g9))
   refine⟨V,h1,h2,fS.dC _ b borrow t U U _ s _ d d1 w z nb rfl (by omega) (atR U t a.length hl.symm) (by rw[gF t (Nat.le_refl t)];exact g1) (GO b t) g2 g3 (by omega) g5 g6 (by omega) (by omega) h3⟩
 obtain⟨V,h1,h2,h3⟩:=loop _ 0 0 a rfl (by omega) rfl (by omega) (fun _ _=>rfl) (by simp[nat])
 exact⟨V,h1,h2,fS.e0 a a.length b h3⟩
theorem ON(a b:Words)(len oe:Nat)(hlen:len=a.length)(OO:oe=b.length)(ha:a.length≤2199023255553)(iO:nat b≤nat a) :
  ∃U:Words,U.length=a.length∧nat U=nat a-nat b∧aw a7 130 [.row 100000 0 len 1,.row 100001 0 oe 1] [(100000,ws a),(100001,ws b)] (.pv (.bh [])) [(100000,ws U),(100001,ws b)]:=by
 subst hlen
 have loop:∀(j t borrow:Nat) (U:Words),a.length-t=j→t≤a.length→U.length=a.length→borrow≤1→(∀q,t≤q→wd U q=wd a q) →
   nat (U.take t)+nat (b.take t)=nat (a.take t)+4294967296^t*borrow →
   ∃V:Words,V.length=a.length∧nat V=nat a-nat b∧fp.ar a.length oe borrow t U b [(100000,ws a),(100001,ws b)] (.pv (.bh [])) [(100000,ws V),(100001,ws b)]:=by
  intro j
  induction j with
  |zero =>
   intro t borrow U hj ht hl hb gF hinv
   have zI:t=a.length:=by omega
   subst zI
   exact⟨U,hl,CW hl iO hinv,fp.dD _ _ borrow _ U b (sin:=[(100000,ws a),(100001,ws b)]) rfl rfl (Nat.le_refl _)⟩
  |succ j ih =>
   intro t borrow U hj ht hl hb gF hinv
   obtain⟨s,d,d1,x,z,nb,g1,g2,g3,g4,g5,g6,g7,g8,g9⟩:=tJ (mG a t) (mG b t) hb
   obtain⟨w,hw⟩:=gJ x g8
   obtain⟨V,h1,h2,h3⟩:=ih (t+1) nb (U.set t w) (by omega) (by omega) (by simpa using hl) g7 (fun q hq=>by rw[sm (by omega)];exact gF q (by omega)) (Au (by omega) hl hinv (by rw[hw];exact g9))
   refine⟨V,h1,h2,fp.dC _ _ borrow t U b U _ s b _ d d1 w z nb rfl (by omega) (atR U t a.length hl.symm) (by rw[gF t (Nat.le_refl t)];exact g1) (atR b t oe OO) g2 g3 (by omega) g5 g6 (by omega) (by omega) h3⟩
 obtain⟨V,h1,h2,h3⟩:=loop _ 0 0 a rfl (by omega) rfl (by omega) (fun _ _=>rfl) (by simp[nat])
 exact⟨V,h1,h2,fp.e0 a a.length b oe h3⟩
theorem Ge{x y:Nat}(hx:x<4294967296)(hy:y<4294967296):((x/2)%18446744073709551616) ||| ((y*2^min 31 64)%18446744073709551616%18446744073709551616)=(y*4294967296+x)/2:=by
 have e:(2:Nat)^min 31 64=2147483648:=by decide
 rw[e,Nat.mod_mod,Nat.mod_eq_of_lt (show x/2<18446744073709551616 by omega),Nat.mod_eq_of_lt (show y*2147483648<18446744073709551616 by omega),Nat.or_comm,Nat.mul_comm y]
 have:=Nat.two_pow_add_eq_or_of_lt (i:=31) (show x/2<2^31 by omega) y
 rw[show (2:Nat)^31=2147483648 from rfl] at this
 rw[←this]
 omega
theorem Gf{a U:Words}{t:Nat}{w:UInt32}(ht:t<a.length)(hl:U.length=a.length)(hinv:nat (U.take t)=(nat a/2)%4294967296^t)(hw:w.toNat=(wd a (t+1)*4294967296+wd a t)/2%4294967296) :
  nat ((U.set t w).take (t+1))=(nat a/2)%4294967296^(t+1):=by
 rw[gp (by omega),hinv,hw]
 have g1:nat a/2/4294967296^t=nat (a.drop t)/2:=by
  rw[Nat.div_div_eq_div_mul,Nat.mul_comm,←Nat.div_div_eq_div_mul,rT a t (by omega)]
 have g2:nat (a.drop t)/2%4294967296=(wd a (t+1)*4294967296+wd a t)/2%4294967296:=by
  rw[jf a t,jf a (t+1)]
  generalize nat (a.drop (t+1+1))=r
  generalize wd a (t+1)=y
  generalize wd a t=x
  omega
 have g3:=Nat.mod_mul (a:=4294967296^t) (b:=4294967296) (x:=nat a/2)
 rw[Nat.pow_succ,g3,g1,g2]
theorem OP(a:Words)(len:Nat)(hlen:len=a.length)(ha:a.length≤2199023255553) :
  aw a7 128 [.row 100000 0 len 1] [(100000,ws a)] (.row 100000 0 (words (nat a/2)).length 1) [(100000,ws (words (nat a/2)))]:=by
 subst hlen
 have e1:(2:Nat)^min 1 64=2:=by decide
 have loop:∀(j t:Nat) (U:Words),a.length-t=j→t≤a.length→U.length=a.length→(∀q,t≤q→wd U q=wd a q)→nat (U.take t)=(nat a/2)%4294967296^t →
   fk.ar a.length t U [(100000,ws a)] (.row 100000 0 (words (nat a/2)).length 1) [(100000,ws (words (nat a/2)))]:=by
  intro j
  induction j with
  |zero =>
   intro t U hj ht hl gF hinv
   have zI:t=a.length:=by omega
   subst zI
   rw[aY (by omega),Nat.mod_eq_of_lt (Nat.lt_of_le_of_lt (Nat.div_le_self _ _) (ej a))] at hinv
   have hc:=cut U (by omega)
   rw[hinv,hl] at hc
   have:=fk.dD a.length a.length U (words (nat a/2)) (words (nat a/2)).length (sin:=[(100000,ws a)]) rfl rfl (Nat.le_refl _) hc
   rw[List.take_of_length_le (Nat.le_refl _)] at this
   exact this
  |succ j ih =>
   intro t U hj ht hl gF hinv
   have h1:=mG a t
   have h2:=mG a (t+1)
   obtain⟨w,hw⟩:=gJ ((wd a (t+1)*4294967296+wd a t)/2%4294967296) (Nat.mod_lt _ (by omega))
   have hA:=atR U t a.length hl.symm
   have hB:=atR U (t+1) a.length hl.symm
   rw[gF t (Nat.le_refl t)] at hA
   rw[gF (t+1) (by omega)] at hB
   refine fk.dC a.length t U U _ _ U _ _ ((wd a (t+1)*4294967296+wd a t)/2) w rfl (by omega) hA (by rw[e1]) (by omega) hB rfl (Ge h1 h2) hw.symm (by omega) ?_
   exact ih (t+1) (U.set t w) (by omega) (by omega) (by simpa using hl) (fun q hq=>by rw[sm (by omega)];exact gF q (by omega)) (Gf (by omega) hl hinv hw)
 exact fk.e0 a a.length (loop _ 0 a rfl (by omega) rfl (fun _ _=>rfl) (by simp[nat,Nat.mod_one]))
end wR
end Go.Proofs.YtfjfekodeplcoaaGreat.Sym
