/- Lemmas for the statements of this seat. -/
import Derived.Test.YtllmkadmohkbfaaGreatDoorH0
import Derived.Test.YtllmkadmohkbfaaGreatDoorQ1
namespace Go.Proofs.YtllmkadmohkbfaaGreatDoor.Sym
open Go Path
set_option linter.unusedVariables false
section
variable {V R W top next hi lo head r0 bZ rest:Nat}
structure Kn (V R W top next head lo r0:Nat):Prop where
 v1:(top*4294967296+next)*W≤V
 v2:V<(top*4294967296+next+1)*W
 r:R=(head*4294967296+lo)*W+r0
 r0:r0<W
 lo:lo<4294967296
 next:next<4294967296
 top:0<top
 rv:R<V*4294967296
theorem Kn.YH(h:Kn V R W top next head lo r0):R<(head*4294967296+lo+1)*W:=by
 have h1:=h.r;have h2:=h.r0
 rw[Nat.add_mul _ 1,Nat.one_mul];omega
theorem Kn.MG(h:Kn V R W top next head lo r0):0<V∧4294967296*W≤V:=by
 have h1:=h.v1
 have h2:=h.r0
 have h3:4294967296*W≤(top*4294967296+next)*W:=Nat.mul_le_mul_right _ (by have:=h.top;omega)
 omega
theorem Kn.start(h:Kn V R W top next head lo r0):R/V≤head/top:=by
 have hv:=h.MG.1
 rw[←Nat.lt_succ_iff,Nat.div_lt_iff_lt_mul hv]
 have h1:head+1≤(head/top+1)*top:=by
  have:=Nat.lt_div_mul_add (a:=head) h.top
  rw[Nat.add_mul,Nat.one_mul];omega
 have h2:(head/top+1)*((top*4294967296+next)*W)≤(head/top+1)*V:=Nat.mul_le_mul_left _ h.v1
 have h3:(head*4294967296+lo+1)*W≤(head/top+1)*((top*4294967296+next)*W):=by
  rw[←Nat.mul_assoc]
  refine Nat.mul_le_mul_right _ ?_
  rw[Nat.mul_add,←Nat.mul_assoc]
  have:=Nat.mul_le_mul_right 4294967296 h1
  have:=h.lo
  omega
 have:=h.YH
 show R<(head/top+1)*V
 omega
theorem Kn.small(h:Kn V R W top next head lo r0):R/V<4294967296:=by
 rw[Nat.div_lt_iff_lt_mul h.MG.1,Nat.mul_comm];exact h.rv
theorem Kn.less(h:Kn V R W top next head lo r0)(hg:bZ*top+rest=head)(hc:rest*4294967296+lo<bZ*next):R/V<bZ:=by
 rw[Nat.div_lt_iff_lt_mul h.MG.1]
 have h2:bZ*((top*4294967296+next)*W)≤bZ*V:=Nat.mul_le_mul_left _ h.v1
 have h3:(head*4294967296+lo+1)*W≤bZ*((top*4294967296+next)*W):=by
  rw[←Nat.mul_assoc]
  refine Nat.mul_le_mul_right _ ?_
  rw[Nat.mul_add,←Nat.mul_assoc,←hg,Nat.add_mul]
  omega
 have:=h.YH
 omega
theorem Kn.fits(h:Kn V R W top next head lo r0)(hg:bZ*top+rest=head)(hr:4294967296≤rest):bZ<4294967296:=by
 refine Nat.lt_of_not_le fun CD => ?_
 have h1:4294967296*top≤bZ*top:=Nat.mul_le_mul_right _ CD
 have h2:(head*4294967296)*W≤R:=by
  rw[h.r,Nat.add_mul];omega
 have h3:(4294967296*top+4294967296)*4294967296*W≤head*4294967296*W:=Nat.mul_le_mul_right _ (Nat.mul_le_mul_right _ (by omega))
 have h4:V*4294967296<(top*4294967296+next+1)*W*4294967296:=Nat.mul_lt_mul_of_pos_right h.v2 (by omega)
 have h5:(top*4294967296+next+1)*W*4294967296≤(4294967296*top+4294967296)*W*4294967296:=Nat.mul_le_mul_right _ (Nat.mul_le_mul_right _ (by have:=h.next;omega))
 have h6:(4294967296*top+4294967296)*W*4294967296=(4294967296*top+4294967296)*4294967296*W:=by rw[Nat.mul_right_comm]
 have:=h.rv
 omega
theorem Kn.Iq(h:Kn V R W top next head lo r0)(hg:bZ*top+rest=head)(hl:bZ<4294967296)(hc:4294967296≤rest∨bZ*next≤rest*4294967296+lo):bZ≤R/V+1:=by
 have hv:=h.MG.1
 cases bZ with
 |zero=>exact Nat.zero_le _
 |succ g =>
  refine Nat.succ_le_succ ?_
  rw[Nat.le_div_iff_mul_le hv]
  have h0:(g+1)*V≤(g+1)*((top*4294967296+next+1)*W):=Nat.mul_le_mul_left _ (Nat.le_of_lt h.v2)
  have h1:(g+1)*((top*4294967296+next+1)*W)=((g+1)*top*4294967296+(g+1)*next+(g+1))*W:=by
   rw[←Nat.mul_assoc,Nat.mul_add,Nat.mul_add,Nat.mul_one,Nat.mul_assoc (g+1) top]
  have h2:=h.MG.2
  have h3:(g+1)*V=g*V+V:=by rw[Nat.add_mul,Nat.one_mul]
  have hr:(head*4294967296+lo)*W≤R:=by rw[h.r];omega
  rcases hc with hc|hc
  ·have h4:((g+1)*top*4294967296+(g+1)*next+(g+1))*W≤(head*4294967296+lo)*W:=by
    refine Nat.mul_le_mul_right _ ?_
    have h5:(g+1)*next+(g+1)≤(g+1)*4294967296:=by
     have:=Nat.mul_le_mul_left (g+1) (show next+1≤4294967296 by have:=h.next;omega)
     rw[Nat.mul_add,Nat.mul_one] at this;exact this
    rw[←hg,Nat.add_mul]
    omega
   omega
  ·have h4:((g+1)*top*4294967296+(g+1)*next+(g+1))*W≤(head*4294967296+lo+4294967296)*W:=by
    refine Nat.mul_le_mul_right _ ?_
    rw[←hg,Nat.add_mul];omega
   rw[Nat.add_mul _ 4294967296] at h4
   omega
end
namespace cP
theorem O7(u:Words)(j n:Nat)(h:j+n≤u.length):nat (u.drop j)=nat ((u.drop j).take n)+4294967296^n*nat (u.drop (j+n)):=by
 have:=j8 (u.drop j) n (by simp;omega)
 rw[List.drop_drop] at this
 exact this
theorem MH(U:Words)(n:Nat)(h:U.length=n+3){a b c:UInt32}(ha:U[n]? = some a)(hb:U[n+1]? = some b)(hc:U[n+2]? = some c) :
  nat U=((c.toNat*4294967296+b.toNat)*4294967296+a.toNat)*4294967296^n+nat (U.take n):=by
 have h1:=bY hc
 have h2:=bY hb
 have h3:=bY ha
 rw[aQ (by omega)] at h1
 rw[h1,h2,h3]
 have e1:(4294967296:Nat)^(n+1)=4294967296^n*4294967296:=Nat.pow_succ ..
 have e2:(4294967296:Nat)^(n+2)=4294967296^n*4294967296*4294967296:=by rw[Nat.pow_succ,e1]
 rw[e1,e2]
 generalize (4294967296:Nat)^n=P
 grind
theorem MI(U:Words)(n:Nat)(h:U.length=n+2){a b:UInt32}(ha:U[n]? = some a)(hb:U[n+1]? = some b) :
  nat U=(b.toNat*4294967296+a.toNat)*4294967296^n+nat (U.take n):=by
 have h2:=bY hb
 have h3:=bY ha
 rw[aQ (by omega)] at h2
 rw[h2,h3]
 have e1:(4294967296:Nat)^(n+1)=4294967296^n*4294967296:=Nat.pow_succ ..
 rw[e1]
 generalize (4294967296:Nat)^n=P
 grind
structure Dv (a b zb v:Words) (v1 v2:UInt32) (s n m V N:Nat):Prop where
 hv:v=zb.take b.length
 EI:s<32
 Mg:a.length≤2199023255551
 hm:a.length+1=m+(n+2)
 AN:v.length=n+2
 CP:nat v=V
 zP:V<4294967296^(n+2)
 O8:0<V
 BM:v[n+1]? = some v1
 Fj:v[n]? = some v2
 Jx:V=(v1.toNat*4294967296+v2.toNat)*4294967296^n+nat (v.take n)
 N3:nat (v.take n)<4294967296^n
 Gj:0<v1.toNat
 res:∀q r:Nat,N=q*V+r→r<V→nat a/nat b=q∧r/2^s=nat a%nat b
structure Pt (u U A C:Words) (n j R Q V:Nat):Prop where
 Ll:U.length=n+3
 O9:A.length=j
 hu:u=A++(U++C)
 zQ:R=nat U
 hQ:R/V=Q
 RN:nat C=0
 hR:R=nat (u.drop j)
 hj:j+(n+3)≤u.length
 xE:u.length≤2199023255552
theorem T2{g Q V R r P x:Nat}(Hr:Q*V+r=R)(hx:x<P)(h2:x+g*V=R+P)(Vc:Q≤g)(Vd:g≤Q+1):g=Q+1∧x+V=r+P:=by
 rcases Nat.lt_or_ge Q g with h5|h5
 ·have h6:g=Q+1:=by omega
  rw[h6,Nat.add_mul,Nat.one_mul] at h2
  exact⟨h6,by omega⟩
 ·have h6:g=Q:=by omega
  rw[h6] at h2
  omega
theorem T3{ca V r P x y:Nat}(h:y+P*ca=x+V)(hy:y<P)(h2:x+V=r+P)(hc:ca≤1):y=r:=by
 have P8:ca=0∨ca=1:=by omega
 rcases P8 with rfl|rfl
 ·omega
 ·omega
theorem Pa {a b zb v u U A C : Words} {v1 v2 : UInt32} {s n m V N j R Q : Nat} (dv : Dv a b zb v v1 v2 s n m V N) (pt : Pt u U A C n j R Q V) :
    ∀ bZ : Nat, bZ < 4294967296 → Q ≤ bZ → bZ ≤ Q + 1 → ∃ (U1 : Words) (bo : Bool) (U2 : Words), U1.length = n + 3 ∧
          av bp 271 [.row 100000 (0 + j * 1) (j + (n + 3) - j) 1, .pv (aa (zb.take b.length)), .pv (vU bZ)] [(100000, .pure ((u : List UInt32).map ag).flatten)] (.pv (vB bo)) [(100000, .pure (((A ++ (U1 ++ C) : List UInt32)).map ag).flatten)] ∧
          (bo = false → bZ = Q ∧ nat U1 = R % V) ∧
          (bo = true → bZ = Q + 1 ∧ 0 < bZ ∧ U2.length = n + 3 ∧ nat U2 = R % V ∧
            av bp 272 [.row 100000 (0 + j * 1) (j + (n + 3) - j) 1, .pv (aa (zb.take b.length))] [(100000, .pure (((A ++ (U1 ++ C) : List UInt32)).map ag).flatten)] (.pv (.aB [])) [(100000, .pure (((A ++ (U2 ++ C) : List UInt32)).map ag).flatten)]) := by
  obtain ⟨hv, EI, Mg, hm, AN, CP, zP, O8, BM, Fj, Jx, N3, Gj, res⟩ := dv
  obtain ⟨Ll, O9, hu, zQ, hQ, RN, hR, hj, xE⟩ := pt
  have Jy : (4294967296 : Nat) ^ (n + 3) = 4294967296 ^ (n + 2) * 4294967296 := Nat.pow_succ ..
  intro bZ WW Vc Vd
  have Hr := Nat.div_add_mod R V
  rw [hQ] at Hr
  have WX := Nat.mod_lt R O8
  rw [Nat.mul_comm] at Hr
  rw [← hv]
  obtain ⟨U1, bo, r1, ⟨YI, Ve⟩, r3⟩ := remove A U C v bZ (0 + j * 1) (j + (n + 3) - j) (by omega) (by omega) (by omega) WW (by
    rw [CP, Ll, Jy]
    have h5 := Nat.mul_lt_mul_of_pos_left zP (show 0 < 4294967296 by omega)
    have h6 := Nat.mul_le_mul_right V (Nat.le_of_lt WW)
    rw [Nat.mul_comm (4294967296 ^ (n + 2))]; omega) (by omega)
  rw [CP, ← zQ] at YI Ve
  rw [Ll] at Ve
  have WY := eL U1
  rw [r1, Ll] at WY
  obtain ⟨U2, ca, b1, b2, b3, b4⟩ := back A U1 C v (0 + j * 1) (j + (n + 3) - j) (by omega) (by omega) (by omega) (by omega)
  rw [CP, r1, Ll] at b3
  have WZ := eL U2
  rw [b1, r1, Ll] at WZ
  have hVP : V < 4294967296 ^ (n + 3) := by
    have := Nat.pow_le_pow_right (n := 4294967296) (by omega) (show n + 2 ≤ n + 3 by omega)
    exact Nat.lt_of_lt_of_le zP this
  clear Jy zP N3 Jx res
  generalize (4294967296 : Nat) ^ (n + 3) = P3 at Ve WY b3 WZ hVP
  refine ⟨U1, bo, U2, by omega, by rw [show kt A U C = .pure ((u : List UInt32).map ag).flatten from by rw [hu]] at r3; exact r3, fun T1 => ?_, fun T1 => ?_⟩
  · have r2 := YI T1
    have : bZ = Q := by
      rcases Nat.lt_or_ge (Q) bZ with h5 | h5
      · have h6 : bZ = Q + 1 := by omega
        rw [h6, Nat.add_mul, Nat.one_mul] at r2
        omega
      · omega
    rw [this] at r2
    exact ⟨this, by omega⟩
  · have r2 := Ve T1
    obtain ⟨g1, g2⟩ := T2 Hr WY r2 Vc Vd
    exact ⟨g1, by rw [g1]; exact Nat.succ_pos _, b1.trans (r1.trans Ll), T3 b3 WZ g2 b2, b4⟩
theorem MJ{a b zb v u q U A C:Words}{v1 v2:UInt32}{s n m V N j R Q:Nat}(dv:Dv a b zb v v1 v2 s n m V N)(pt:Pt u U A C n j R Q V)(UQ:j+1≤m)(xE:u.length=a.length+1)(Cw:q.length=m)(hA:nat u=nat A+4294967296^j*R)
  (hinv:N=nat (q.drop (j+1))*4294967296^(j+1)*V+nat u)
  (ih:∀(u q:Words),u.length=a.length+1→q.length=m→nat (u.drop j)<V→N=nat (q.drop j)*4294967296^j*V+nat u →
   bC.ah (s:Int) zb b (a.length+1) m v1 v2 ((j:Int)-1) u q (.aB [aa (words (nat a/nat b)),aa (words (nat a%nat b))])) (U2:Words) (w:UInt32) (Pb:U2.length=n+3) (KA:nat U2=R%V) (hw:w.toNat=Q) :
  bC.ah (s:Int) zb b (a.length+1) m v1 v2 ((j:Int)-1) (A++(U2++C)) (q.set j w) (.aB [aa (words (nat a/nat b)),aa (words (nat a%nat b))]):=by
 have O8:=dv.O8
 obtain⟨Ll,O9,hu,zQ,hQ,RN,hR,hj,_⟩:=pt
 have Hp:(A++(U2++C)).drop j=U2++C:=by rw[←O9];exact List.drop_left
 have YJ:nat (U2++C)=R%V:=by rw[mR,RN,KA];simp
 refine ih _ _ ?_ (by simpa using Cw) (by rw[Hp,YJ];exact Nat.mod_lt _ O8) ?_
 ·have h5:u.length=(A++(U++C)).length:=by rw[←hu]
  simp only[List.length_append] at h5 ⊢
  omega
 ·have h5:nat (A++(U2++C))=nat A+4294967296^j*(R%V):=by rw[mR,YJ,O9]
  have h7:nat ((q.set j w).drop j)=Q+4294967296*nat (q.drop (j+1)):=by
   rw[re (v:=w) (by rw[List.getElem?_set_self (by omega)]),List.drop_set_of_lt (by omega),hw]
  rw[h5,h7,hinv,hA]
  have h8:=Nat.div_add_mod R V
  rw[hQ] at h8
  have e1:(4294967296:Nat)^(j+1)=4294967296^j*4294967296:=Nat.pow_succ ..
  rw[e1]
  generalize (4294967296:Nat)^j=P at *
  generalize nat (q.drop (j+1))=X at *
  generalize R%V=r at *
  rw[←h8]
  clear h8 hj hu zQ hR hinv hA h5 h7 e1
  grind
theorem KO{a b zb v u q U A C:Words}{v1 v2 lo:UInt32}{s n m V N j R Q head r0:Nat}(dv:Dv a b zb v v1 v2 s n m V N)(pt:Pt u U A C n j R Q V)(kn:Kn V R (4294967296^n) v1.toNat v2.toNat head lo.toNat r0)(UQ:j+1≤m)(xE:u.length=a.length+1)(Cw:q.length=m)(Ho:U[n]? = some lo)
  (next:∀(U2:Words) (w:UInt32),U2.length=n+3→nat U2=R%V→w.toNat=Q →
   bC.ah (s:Int) zb b (a.length+1) m v1 v2 ((j:Int)-1) (A++(U2++C)) (q.set j w) (.aB [aa (words (nat a/nat b)),aa (words (nat a%nat b))])) :
  ∀(k bZ rest:Nat),4294967296-rest≤k→rest<18446744073709551616-4294967296→bZ*v1.toNat+rest=head→Q≤bZ→bZ<18446744073709551616 →
   bC.bK (s:Int) zb b (a.length+1) m v1 v2 (((j+1:Nat):Int)-1) j (j+(n+3)) bZ rest u q (.aB [aa (words (nat a/nat b)),aa (words (nat a%nat b))]):=by
 have fin:=Pa dv pt
 obtain⟨hv,EI,Mg,hm,AN,CP,zP,O8,BM,Fj,Jx,N3,Gj,res⟩:=dv
 obtain⟨Ll,O9,hu,zQ,hQ,RN,hR,hj,_⟩:=pt
 have RM:=jh lo
 have W0:=jh v1
 have W1:=jh v2
 have xw:(zb.take b.length).length=n+2:=by rw[←hv];exact AN
 have MK:(2:Nat)^min 32 64=4294967296:=by decide
 have pF:∀(k:Nat) (w:UInt32),U[k]? = some w→u[(0+j*1)+k]? = some w:=fun k w hk=>by
  rw[hu,Nat.zero_add,Nat.mul_one,←O9];exact hX A U C k w hk
 have ML:=kn.small
 rw[hQ] at ML
 have T4:∀{g r:Nat},g*v1.toNat+r=head→r*4294967296+lo.toNat<g*v2.toNat→Q<g:=fun h1 h2=>by rw[←hQ];exact kn.less h1 h2
 have MM:∀{g r:Nat},g*v1.toNat+r=head→g<4294967296→(4294967296≤r∨g*v2.toNat≤r*4294967296+lo.toNat)→g≤Q+1:=fun h1 h2 h3=>by rw[←hQ];exact kn.Iq h1 h2 h3
 clear zP N3 Jx res zQ hR
 intro k
 induction k with
 |zero =>
  intro bZ rest hk T5 hg hq Vc
  have hr:4294967296≤rest:=by omega
  have Ao:=kn.fits hg hr
  obtain⟨U1,bo,U2,f1,f2,f3,f4⟩:=fin bZ Ao hq (MM hg Ao (.inl hr))
  cases bo with
  |false =>
   obtain⟨g1,g2⟩:=f3 rfl
   obtain⟨w,hw⟩:=iw bZ Ao
   refine bC.Yy (s:Int) zb b (a.length+1) m v1 v2 _ j (j+(n+3)) bZ rest u q _ false w j hr f2 rfl (by omega) (by omega) (by omega) (by omega) (by unfold ax;omega) ?_
   rw[show (((j+1:Nat):Int)-1-1)=(j:Int)-1 from by omega]
   exact next U1 w f1 g2 (by omega)
  |true =>
   obtain⟨g1,g0,g2,g3,g4⟩:=f4 rfl
   obtain⟨w,hw⟩:=iw (bZ-1) (by omega)
   refine bC.Yx (s:Int) zb b (a.length+1) m v1 v2 _ j (j+(n+3)) bZ rest u q _ true (bZ-1) _ w j hr f2 rfl (by omega) g4 (by omega) (by omega) (by omega) (by omega) (by unfold ax;omega) ?_
   rw[show (((j+1:Nat):Int)-1-1)=(j:Int)-1 from by omega]
   exact next U2 w g2 g3 (by omega)
 |succ k ihk =>
  intro bZ rest hk T5 hg hq Vc
  by_cases hr:4294967296≤rest
  ·have Ao:=kn.fits hg hr
   obtain⟨U1,bo,U2,f1,f2,f3,f4⟩:=fin bZ Ao hq (MM hg Ao (.inl hr))
   cases bo with
   |false =>
    obtain⟨g1,g2⟩:=f3 rfl
    obtain⟨w,hw⟩:=iw bZ Ao
    refine bC.Yy (s:Int) zb b (a.length+1) m v1 v2 _ j (j+(n+3)) bZ rest u q _ false w j hr f2 rfl (by omega) (by omega) (by omega) (by omega) (by unfold ax;omega) ?_
    rw[show (((j+1:Nat):Int)-1-1)=(j:Int)-1 from by omega]
    exact next U1 w f1 g2 (by omega)
   |true =>
    obtain⟨g1,g0,g2,g3,g4⟩:=f4 rfl
    obtain⟨w,hw⟩:=iw (bZ-1) (by omega)
    refine bC.Yx (s:Int) zb b (a.length+1) m v1 v2 _ j (j+(n+3)) bZ rest u q _ true (bZ-1) _ w j hr f2 rfl (by omega) g4 (by omega) (by omega) (by omega) (by omega) (by unfold ax;omega) ?_
    rw[show (((j+1:Nat):Int)-1-1)=(j:Int)-1 from by omega]
    exact next U2 w g2 g3 (by omega)
  have UU:=ML
  have step:∀(RO:Q<bZ),(bZ-1)*v1.toNat+(rest+v1.toNat)=head:=by
   intro RO
   have:bZ=(bZ-1)+1:=by omega
   rw[this,Nat.add_mul,Nat.one_mul] at hg
   omega
  by_cases Vd:4294967296≤bZ
  ·refine bC.Ac (s:Int) zb b (a.length+1) m v1 v2 _ j (j+(n+3)) bZ rest u q (bZ-1) (rest+v1.toNat) (by omega) Vd (by omega) (by omega) ?_
   exact ihk (bZ-1) (rest+v1.toNat) (by omega) (by omega) (step (by omega)) (by omega) (by omega)
  ·have LR:bZ*v2.toNat<18446744073709551616:=by have:=wX (show bZ<4294967296 by omega) W1;omega
   have Gi:rest*2^min 32 64%18446744073709551616%18446744073709551616 ||| lo.toNat%18446744073709551616=rest*4294967296+lo.toNat:=by
    rw[MK,Nat.mod_mod];exact EG (by omega) RM
   by_cases hc:rest*4294967296+lo.toNat<bZ*v2.toNat
   ·have RO:=T4 hg hc
    refine bC.CN (s:Int) zb b (a.length+1) m v1 v2 _ j (j+(n+3)) bZ rest u q (bZ*v2.toNat) _ n lo (rest*4294967296+lo.toNat) (bZ-1) (rest+v1.toNat) (by omega) (by omega) (Nat.mod_eq_of_lt LR) rfl (by rw[xw];unfold ax;omega) (by rw[xw];omega) (by omega) (pF n lo Ho) Gi hc (by omega) (by omega) ?_
    exact ihk (bZ-1) (rest+v1.toNat) (by omega) (by omega) (step RO) (by omega) (by omega)
   ·obtain⟨U1,bo,U2,f1,f2,f3,f4⟩:=fin bZ (by omega) hq (MM hg (by omega) (.inr (by omega)))
    cases bo with
    |false =>
     obtain⟨g1,g2⟩:=f3 rfl
     obtain⟨w,hw⟩:=iw bZ (by omega)
     refine bC.ZZ (s:Int) zb b (a.length+1) m v1 v2 _ j (j+(n+3)) bZ rest u q (bZ*v2.toNat) _ n lo (rest*4294967296+lo.toNat) _ false w j (by omega) (by omega) (Nat.mod_eq_of_lt LR) rfl (by rw[xw];unfold ax;omega) (by rw[xw];omega) (by omega) (pF n lo Ho) Gi (by omega) f2 rfl (by omega) (by omega) (by omega) (by omega) (by unfold ax;omega) ?_
     rw[show (((j+1:Nat):Int)-1-1)=(j:Int)-1 from by omega]
     exact next U1 w f1 g2 (by omega)
    |true =>
     obtain⟨g1,g0,g2,g3,g4⟩:=f4 rfl
     obtain⟨w,hw⟩:=iw (bZ-1) (by omega)
     refine bC.Mt (s:Int) zb b (a.length+1) m v1 v2 _ j (j+(n+3)) bZ rest u q (bZ*v2.toNat) _ n lo (rest*4294967296+lo.toNat) _ true (bZ-1) _ w j (by omega) (by omega) (Nat.mod_eq_of_lt LR) rfl (by rw[xw];unfold ax;omega) (by rw[xw];omega) (by omega) (pF n lo Ho) Gi (by omega) f2 rfl (by omega) g4 (by omega) (by omega) (by omega) (by omega) (by unfold ax;omega) ?_
     rw[show (((j+1:Nat):Int)-1-1)=(j:Int)-1 from by omega]
     exact next U2 w g2 g3 (by omega)
set_option maxHeartbeats 1000000 in
theorem MN{a b zb v u q:Words}{v1 v2:UInt32}{s n m V N j:Nat}(dv:Dv a b zb v v1 v2 s n m V N)(hj:j+1≤m)(xE:u.length=a.length+1)(Cw:q.length=m)(zR:nat (u.drop (j+1))<V)(hinv:N=nat (q.drop (j+1))*4294967296^(j+1)*V+nat u)
  (ih:∀(u q:Words),u.length=a.length+1→q.length=m→nat (u.drop j)<V→N=nat (q.drop j)*4294967296^j*V+nat u →
   bC.ah (s:Int) zb b (a.length+1) m v1 v2 ((j:Int)-1) u q (.aB [aa (words (nat a/nat b)),aa (words (nat a%nat b))])) :
  bC.ah (s:Int) zb b (a.length+1) m v1 v2 (((j+1:Nat):Int)-1) u q (.aB [aa (words (nat a/nat b)),aa (words (nat a%nat b))]):=by
 have EI:=dv.EI
 have Mg:=dv.Mg
 have hm:=dv.hm
 have AN:=dv.AN
 have zP:=dv.zP
 have Jx:=dv.Jx
 have N3:=dv.N3
 have Gj:=dv.Gj
 have hv:=dv.hv
 obtain⟨U,hU⟩:∃U,U=(u.drop j).take (n+3):=⟨_,rfl⟩
 obtain⟨A,hA⟩:∃A,A=u.take j:=⟨_,rfl⟩
 obtain⟨C,hC⟩:∃C,C=u.drop (j+(n+3)):=⟨_,rfl⟩
 have Ll:U.length=n+3:=by rw[hU];simp;omega
 have O9:A.length=j:=by rw[hA];simp;omega
 have hu:u=A++(U++C):=by
  rw[hA,hU,hC,show j+(n+3)=j+(n+3) from rfl,←List.drop_drop,List.take_append_drop,List.take_append_drop]
 obtain⟨R,hR⟩:∃R,R=nat (u.drop j):=⟨_,rfl⟩
 obtain⟨x,hx⟩:∃x,u[j]? = some x:=⟨_,List.getElem?_eq_getElem (by omega)⟩
 have T6:R<V*4294967296:=by
  rw[hR,re hx]
  have h2:=jh x
  omega
 have zQ:=O7 u j (n+3) (by omega)
 rw[←hU,←hC,←hR] at zQ
 have Jy:(4294967296:Nat)^(n+3)=4294967296^(n+2)*4294967296:=Nat.pow_succ ..
 have RN:nat C=0:=by
  refine Nat.eq_zero_of_not_pos fun hp => ?_
  have h2:=Nat.mul_le_mul_left (4294967296^(n+3)) hp
  omega
 rw[RN,Nat.mul_zero,Nat.add_zero] at zQ
 obtain⟨hi,T7⟩:∃x,U[n+2]? = some x:=⟨_,List.getElem?_eq_getElem (by omega)⟩
 obtain⟨mi,YK⟩:∃x,U[n+1]? = some x:=⟨_,List.getElem?_eq_getElem (by omega)⟩
 obtain⟨lo,Ho⟩:∃x,U[n]? = some x:=⟨_,List.getElem?_eq_getElem (by omega)⟩
 have h3:=MH U n Ll Ho YK T7
 have W2:=eL (U.take n)
 rw[List.length_take,Nat.min_eq_left (by omega)] at W2
 obtain⟨head,P9⟩:∃h,h=hi.toNat*4294967296+mi.toNat:=⟨_,rfl⟩
 rw[←P9,←zQ] at h3
 have kn:Kn V R (4294967296^n) v1.toNat v2.toNat head lo.toNat (nat (U.take n)) :=
  ⟨by rw[Jx];omega,by rw[Jx,Nat.add_mul _ 1,Nat.one_mul];omega,h3,W2,jh lo,jh v2,Gj,T6⟩
 obtain⟨Q,hQ⟩:∃Q,R/V=Q:=⟨_,rfl⟩
 have MO:=kn.start
 rw[hQ] at MO
 have pt:Pt u U A C n j R Q V:=⟨Ll,O9,hu,zQ,hQ,RN,hR,by omega,by omega⟩
 have YL:nat u=nat A+4294967296^j*R:=by
  have:=j8 u j (by omega)
  rw[←hA,←hR] at this;exact this
 have W3:=jh hi
 have W4:=jh mi
 have RM:=jh lo
 have W0:=jh v1
 have xw:(zb.take b.length).length=n+2:=by rw[←hv];exact AN
 have MK:(2:Nat)^min 32 64=4294967296:=by decide
 have pF:∀(k:Nat) (w:UInt32),U[k]? = some w→u[(0+j*1)+k]? = some w:=fun k w hk=>by
  rw[hu,Nat.zero_add,Nat.mul_one,←O9];exact hX A U C k w hk
 have inner:=KO dv pt kn hj xE Cw Ho (MJ dv pt hj xE Cw YL hinv ih)
 clear zP N3 Jx zQ Jy h3 W2 T6 zR hinv YL ih
 have hhl:head<18446744073709551616:=by omega
 have W5:head/v1.toNat≤head:=Nat.div_le_self _ _
 have WX:=Nat.mod_lt head Gj
 have hz:(hi.toNat*2^min 32 64)%18446744073709551616%18446744073709551616 ||| mi.toNat%18446744073709551616=head:=by
  rw[MK,Nat.mod_mod,P9];exact EG W3 W4
 refine bC.l10 (s:Int) zb b (a.length+1) m v1 v2 _ u q j (j+(n+3)) hi _ (n+1) mi head (head/v1.toNat) (head%v1.toNat) (by omega) (by rw[xw];unfold ax;omega) (by rw[xw];unfold ax;omega) (by omega) (by rw[xw];omega) (by omega) (by omega) (by omega) (by rw[xw];omega)
  (by rw[xw];exact pF (n+2) hi T7) rfl (by rw[xw];unfold ax;omega) (by rw[xw];omega) (by omega) (pF (n+1) mi YK) hz (by omega) (by rw[Nat.mod_eq_of_lt (by omega)]) rfl ?_
 refine inner 4294967296 _ _ (by omega) (by omega) ?_ MO (by omega)
 have:=Nat.div_add_mod head v1.toNat
 rw[Nat.mul_comm] at this;exact this
set_option maxHeartbeats 1000000 in
theorem ku(a b:Words)(ha:cn a=true)(hb:cn b=true)(di:b≠[])(Mg:a.length≤2199023255551)(RI:b.length≤2199023255552) :
  Cp 219 [aa a,aa b] (.aB [aa (words (nat a/nat b)),aa (words (nat a%nat b))]):=by
 have Qa:0<nat b:=qI hb di
 have BN:=compare a b ha hb (by omega)
 by_cases ba:nat a<nat b
 ·rw[qo (by omega)] at BN
  rw[Nat.div_eq_of_lt ba,Nat.mod_eq_of_lt ba]
  exact bC.e0 a b (-1) _ BN (by omega) (trim a (by omega))
 have RP:0≤dR (nat a) (nat b):=by unfold dR;split<;>(try split)<;>omega
 by_cases h1:b.length=1
 ·obtain⟨v,rfl⟩:∃v,b=[v]:=List.length_eq_one_iff.1 h1
  have hn:nat [v]=v.toNat:=by simp[nat]
  rw[hn] at Qa RP BN ⊢
  have hs:=short a v (by omega) (by omega)
  have ht:=trim [UInt32.ofNat (nat a%v.toNat)] (by simp)
  have KA:nat [UInt32.ofNat (nat a%v.toNat)]=nat a%v.toNat:=by
   have:=Nat.mod_lt (nat a) Qa
   have:=jh v
   simp only[nat,ue];omega
  rw[KA] at ht
  exact bC.e1 a [v] _ v _ _ _ BN RP rfl rfl hs ht
 obtain⟨n,hn⟩:∃n,b.length=n+2:=⟨b.length-2,by have:=List.length_pos_iff.2 di;omega⟩
 obtain⟨bt,W6⟩:∃v,b[n+1]? = some v:=⟨_,List.getElem?_eq_getElem (by omega)⟩
 have W7:bt.toNat≠0:=(nd (by rw[hn];exact W6)).1 hb
 have aa4:=se (n:=bt.toNat) (k:=32) (jh bt)
 obtain⟨kb,hkb,aa5,aa6⟩:=uh W7
 obtain⟨s,hs⟩:∃s,s=32-blen bt.toNat:=⟨_,rfl⟩
 have EI:s<32:=by omega
 obtain⟨zb,aa7,W8,W9,_⟩:=up b s RI EI
 obtain⟨za,Xa,T8,_,Xb⟩:=up a s (by omega) EI
 have hP:=Nat.two_pow_pos s
 have T9:nat b<4294967296^(n+1)*2^(kb+1):=by
  have h2:=bY W6
  rw[aQ (by omega)] at h2
  have h3:=eL (b.take (n+1))
  rw[List.length_take,Nat.min_eq_left (by omega)] at h3
  have h4:=Nat.mul_le_mul_left (4294967296^(n+1)) (show bt.toNat+1≤2^(kb+1) by omega)
  rw[Nat.mul_add] at h4;omega
 have zP:nat b*2^s<4294967296^(n+2):=by
  have h2:=Nat.mul_lt_mul_of_pos_right T9 hP
  have h3:2^(kb+1)*2^s=4294967296:=by rw[←Nat.pow_add,show kb+1+s=32 from by omega]
  rw[Nat.mul_assoc,h3,←Nat.pow_succ] at h2
  exact h2
 obtain⟨v,hv⟩:∃v,v=zb.take b.length:=⟨_,rfl⟩
 have AN:v.length=n+2:=by rw[hv];simp;omega
 have CP:nat v=nat b*2^s:=by
  rw[←W8,hv]
  have h2:=j8 zb b.length (by omega)
  have h3:nat (zb.drop b.length)=0:=by
   refine Nat.eq_zero_of_not_pos fun hp => ?_
   have:=Nat.mul_le_mul_left (4294967296^b.length) hp
   rw[hn] at this h2
   omega
  rw[h3] at h2;omega
 obtain⟨V,hV⟩:∃V,V=nat b*2^s:=⟨_,rfl⟩
 rw[←hV] at CP zP
 have Xc:4294967296^(n+1)≤nat b:=by
  have:=Gh hb di
  rwa[hn] at this
 have Xd:4294967296^(n+1)≤V:=by
  have:=Nat.mul_le_mul_left (nat b) hP
  omega
 have O8:0<V:=Nat.lt_of_lt_of_le (Nat.pow_pos (by omega)) Xd
 obtain⟨v1,BM⟩:∃x,v[n+1]? = some x:=⟨_,List.getElem?_eq_getElem (by omega)⟩
 obtain⟨v2,Fj⟩:∃x,v[n]? = some x:=⟨_,List.getElem?_eq_getElem (by omega)⟩
 have Jx:=MI v n AN Fj BM
 rw[CP] at Jx
 have N3:=eL (v.take n)
 rw[List.length_take,Nat.min_eq_left (by omega)] at N3
 have Gj:0<v1.toNat:=by
  refine Nat.pos_of_ne_zero fun h0 => ?_
  rw[h0] at Jx
  have h2:=jh v2
  have h3:(v2.toNat+1)*4294967296^n≤4294967296*4294967296^n:=Nat.mul_le_mul_right _ h2
  have h4:(4294967296:Nat)^(n+1)=4294967296*4294967296^n:=by rw[Nat.pow_succ,Nat.mul_comm]
  rw[Nat.add_mul] at h3
  simp at Jx
  omega
 have PM:b.length≤a.length:=by
  refine Nat.le_of_not_lt fun h => ?_
  have h2:=eL a
  have h3:=mg (show a.length≤n+1 by omega)
  omega
 obtain⟨m,hm⟩:∃m,a.length+1=m+(n+2):=⟨a.length+1-(n+2),by omega⟩
 obtain⟨N,hN⟩:∃N,N=nat a*2^s:=⟨_,rfl⟩
 rw[←hN] at T8
 have res:∀q r:Nat,N=q*V+r→r<V→nat a/nat b=q∧r/2^s=nat a%nat b:=by
  intro q r h2 h3
  have h4:N/V=nat a/nat b:=by rw[hN,hV];exact Nat.mul_div_mul_right _ _ hP
  have h5:N%V=nat a%nat b*2^s:=by rw[hN,hV];exact Nat.mul_mod_mul_right _ _ _
  have h6:N/V=q:=by rw[h2,Nat.mul_comm,Nat.mul_add_div O8,Nat.div_eq_of_lt h3,Nat.add_zero]
  have h7:N%V=r:=by rw[h2,Nat.mul_comm,Nat.mul_add_mod,Nat.mod_eq_of_lt h3]
  refine⟨by rw[←h4,h6],?_⟩
  rw[←h7,h5,Nat.mul_div_cancel _ hP]
 have dv:Dv a b zb v v1 v2 s n m V N:=⟨hv,EI,Mg,hm,AN,CP,zP,O8,BM,Fj,Jx,N3,Gj,res⟩
 have loop:∀(jj:Nat) (u q:Words),jj≤m→u.length=a.length+1→q.length=m→nat (u.drop jj)<V→N=nat (q.drop jj)*4294967296^jj*V+nat u →
   bC.ah (s:Int) zb b (a.length+1) m v1 v2 ((jj:Int)-1) u q (.aB [aa (words (nat a/nat b)),aa (words (nat a%nat b))]):=by
  intro jj
  induction jj with
  |zero =>
   intro u q _ xE Cw zR hinv
   simp only[List.drop_zero,Nat.pow_zero,Nat.mul_one] at hinv zR
   obtain⟨e1,e2⟩:=res _ _ hinv zR
   rw[e1,←e2]
   exact bC.cR (s:Int) zb b (a.length+1) m v1 v2 _ u q _ _ (by omega) Cw.symm xE.symm (trim q (by omega)) (down u s (by omega) EI)
  |succ j ih =>
   intro u q hj xE Cw zR hinv
   exact MN dv hj xE Cw zR hinv (fun u q=>ih u q (by omega))
 have xw:(zb.take b.length).length=n+2:=by rw[←hv];exact AN
 refine bC.e2 a b _ (n+1) bt (s:Int) zb za (a.length+1) m (n+1) v1 n v2 BN RP h1 (by unfold ax;omega) (by omega) W6 (by rw[hs];exact P7.BL bt) W9 (by omega) Xb (by rw[xw];unfold ax;omega) (by rw[xw];omega) (by omega) (by rw[xw];unfold ax;omega) (by rw[xw];omega) (by rw[←hv];exact BM) (by rw[xw];unfold ax;omega) (by rw[xw];omega) (by rw[←hv];exact Fj) (by unfold ax;omega) ?_
 refine loop m za _ (Nat.le_refl _) Xa (by simp) ?_ ?_
 ·
  have h2:=j8 za m (by omega)
  refine Nat.lt_of_not_le fun h => ?_
  have h3:=Nat.mul_le_mul_left (4294967296^m) h
  have h4:4294967296^m*V≤N:=by omega
  have h5:nat a*2^s<4294967296^a.length*2^s:=Nat.mul_lt_mul_of_pos_right (eL a) hP
  have h6:4294967296^m*V=4294967296^m*nat b*2^s:=by rw[hV,Nat.mul_assoc]
  have h7:4294967296^a.length≤4294967296^m*nat b:=by
   have:=Nat.mul_le_mul_left (4294967296^m) Xc
   rw[←Nat.pow_add,show m+(n+1)=a.length from by omega] at this
   exact this
  have h8:=Nat.mul_le_mul_right (2^s) h7
  omega
 ·rw[List.drop_of_length_le (by simp),T8];simp[nat]
end cP
end Go.Proofs.YtllmkadmohkbfaaGreatDoor.Sym
namespace Go.Proofs.YtllmkadmohkbfaaGreatDoor.Sym
open Go Path
set_option linter.unusedVariables false
abbrev wl(i:Int):Nat:=(words i.natAbs).length
theorem fE(i:Int):(whole i).cD.length=wl i:=rfl
theorem iy(i:Int):wl (-i)=wl i:=by unfold wl;rw[Int.natAbs_neg]
theorem mC{i:Int}{k:Nat}(h:i.natAbs<4294967296^k):wl i≤k:=e9 h
theorem BO(i:Int):i.natAbs<4294967296^wl i:=j9 _
theorem BP(i j:Int):wl (i+j)≤max (wl i) (wl j)+1:=by
 refine mC ?_
 have h1:=BO i
 have h2:=BO j
 have h3:=mg (Nat.le_max_left (wl i) (wl j))
 have h4:=mg (Nat.le_max_right (wl i) (wl j))
 have h5:=Int.natAbs_add_le i j
 rw[Nat.pow_succ]
 omega
theorem dS(i j:Int):wl (i*j)≤wl i+wl j:=by
 refine mC ?_
 rw[Int.natAbs_mul,Nat.pow_add]
 exact Nat.mul_lt_mul'' (BO i) (BO j)
theorem bc(a:au):wl a.val≤a.cD.length:=by
 unfold wl
 rw[cP.EF]
 cases a.valid<;>simp
namespace cP
def px(i:Int):Int:=dR i 0
theorem Jz{i:Int}(h:i<0):px i = -1:=qo h
theorem JA{i:Int}(h:0<i):px i=1:=oo h
theorem Gk:px 0=0:=rfl
theorem Sign(a:au)(h:Fit a.cD):Cp 93 [a.pv] (vI (px a.val)):=by
 have hm:=cD a h
 by_cases h0:a.val=0
 ·rw[h0,Gk]
  exact oi.e0 a _ hm (by rw[h0];rfl)
 ·have hl:(words a.val.natAbs).length≠0:=by rw[Ne,dK];omega
  have hv:a.valid=true:=by
   cases hv:a.valid with
   |true=>rfl
   |false=>exact absurd (by unfold au.val;rw[hv];rfl) h0
  by_cases hn:a.val<0
  ·rw[Jz hn]
   have:=Al a
   rw[hv,decide_eq_true hn] at this
   exact oi.e1 a _ hm hl (by simpa using this.symm)
  ·rw[JA (by omega)]
   have:=Al a
   rw[hv,decide_eq_false hn] at this
   exact oi.e2 a _ hm hl (by simpa using this.symm)
theorem o9(a b:au)(ha:Fit a.cD)(hb:Fit b.cD):Cp 94 [a.pv,b.pv] (vI (dR a.val b.val)):=by
 have h1:=Sign a ha
 have h2:=Sign b hb
 have h3:=cD a ha
 have h4:=cD b hb
 have h5:=neg a ha
 have la:=bc a
 by_cases he:px a.val=px b.val
 ·have hc:=compare (words a.val.natAbs) (words b.val.natAbs) (ix _) (ix _) (by have:(words a.val.natAbs).length≤a.cD.length:=la;omega)
  rw[aD,aD] at hc
  unfold px dR at he
  by_cases hn:a.val<0
  ·have PI:b.val<0:=by
    rw[if_pos hn] at he
    split at he
    ·assumption
    ·split at he<;>omega
   have e:dR a.val b.val = -(dR (a.val.natAbs:Int) (b.val.natAbs:Int)):=by
    unfold dR
    split<;>split<;>(try split)<;>(try split)<;>omega
   rw[e]
   refine nu.e2 a b _ _ _ _ _ _ h1 h2 (by unfold px dR;exact he) h3 h4 hc h5 (decide_eq_true hn) ?_
   unfold ax dR;split<;>(try split)<;>omega
  ·have PI:¬b.val<0:=by
    intro fz
    rw[if_neg hn,if_pos fz] at he
    split at he<;>omega
   have e:dR a.val b.val=dR (a.val.natAbs:Int) (b.val.natAbs:Int):=by
    unfold dR
    split<;>split<;>(try split)<;>(try split)<;>omega
   rw[e]
   exact nu.e3 a b _ _ _ _ _ _ h1 h2 (by unfold px dR;exact he) h3 h4 hc h5 (decide_eq_false hn)
 ·by_cases ba:px a.val<px b.val
  ·rw[qo (by
    unfold px dR at ba
    split at ba<;>split at ba<;>(try split at ba)<;>(try split at ba)<;>omega)]
   exact nu.e0 a b _ _ h1 h2 he ba
  ·rw[oo (by
    unfold px dR at ba he
    split at ba<;>split at ba<;>(try split at ba)<;>(try split at ba)<;>(simp_all;try omega))]
   exact nu.e1 a b _ _ h1 h2 he (by omega)
theorem Neg(a:au)(h:Fit a.cD):Cp 169 [a.pv] (Sym.whole (-a.val)).pv:=by
 have h3:=cD a h
 have h5:=neg a h
 have la:=bc a
 have hw:=whole (!decide (a.val<0)) (words a.val.natAbs) (by have:(words a.val.natAbs).length≤a.cD.length:=la;omega)
 have e:(bif !decide (a.val<0) then -(nat (words a.val.natAbs):Int) else (nat (words a.val.natAbs):Int)) = -a.val:=by
  rw[aD]
  by_cases h:a.val<0
  ·simp[h];omega
  ·simp[h];omega
 rw[e] at hw
 exact yY.e0 a _ _ _ h5 h3 hw
theorem Add(a b:au)(ha:Fit a.cD)(hb:Fit b.cD):Cp 66 [a.pv,b.pv] (Sym.whole (a.val+b.val)).pv:=by
 have h1:=cD a ha
 have h2:=cD b hb
 have h3:=neg a ha
 have h4:=neg b hb
 have la:(words a.val.natAbs).length≤a.cD.length:=bc a
 have lb:(words b.val.natAbs).length≤b.cD.length:=bc b
 by_cases hs:decide (a.val<0)=decide (b.val<0)
 ·have hp:=plus (words a.val.natAbs) (words b.val.natAbs) (by omega) (by omega)
  rw[aD,aD] at hp
  have hl:=e9 (n:=a.val.natAbs+b.val.natAbs) (k:=max (words a.val.natAbs).length (words b.val.natAbs).length+1) (by
   have g1:=j9 a.val.natAbs
   have g2:=j9 b.val.natAbs
   have g3:=mg (Nat.le_max_left (words a.val.natAbs).length (words b.val.natAbs).length)
   have g4:=mg (Nat.le_max_right (words a.val.natAbs).length (words b.val.natAbs).length)
   rw[Nat.pow_succ];omega)
  have hw:=whole (decide (a.val<0)) (words (a.val.natAbs+b.val.natAbs)) (by omega)
  rw[aD] at hw
  have e:(bif decide (a.val<0) then -((a.val.natAbs+b.val.natAbs:Nat):Int) else ((a.val.natAbs+b.val.natAbs:Nat):Int))=a.val+b.val:=by
   by_cases h:a.val<0
   ·have:b.val<0:=by simpa[h] using hs.symm
    simp[h];omega
   ·have:¬b.val<0:=by simpa[h] using hs.symm
    simp[h];omega
  rw[e] at hw
  exact pQ.e0 a b _ _ _ _ _ _ _ h1 h2 h3 h4 hs h3 hp hw
 ·have hc:=compare (words a.val.natAbs) (words b.val.natAbs) (ix _) (ix _) (by omega)
  rw[aD,aD] at hc
  by_cases CD:b.val.natAbs≤a.val.natAbs
  ·have hl:=less (words a.val.natAbs) (words b.val.natAbs) (by omega) (by rw[aD,aD];exact CD)
   rw[aD,aD] at hl
   have hlen:=ek (show a.val.natAbs-b.val.natAbs≤a.val.natAbs by omega)
   have hw:=whole (decide (a.val<0)) (words (a.val.natAbs-b.val.natAbs)) (by omega)
   rw[aD] at hw
   have e:(bif decide (a.val<0) then -((a.val.natAbs-b.val.natAbs:Nat):Int) else ((a.val.natAbs-b.val.natAbs:Nat):Int))=a.val+b.val:=by
    by_cases h:a.val<0
    ·have:¬b.val<0:=by simpa[h] using hs
     simp[h];omega
    ·have:b.val<0:=by simpa[h] using hs
     simp[h];omega
   rw[e] at hw
   exact pQ.e1 a b _ _ _ _ _ _ _ _ h1 h2 h3 h4 hs hc (by unfold dR;split<;>(try split)<;>omega) h3 hl hw
  ·have hl:=less (words b.val.natAbs) (words a.val.natAbs) (by omega) (by rw[aD,aD];omega)
   rw[aD,aD] at hl
   have hlen:=ek (show b.val.natAbs-a.val.natAbs≤b.val.natAbs by omega)
   have hw:=whole (decide (b.val<0)) (words (b.val.natAbs-a.val.natAbs)) (by omega)
   rw[aD] at hw
   have e:(bif decide (b.val<0) then -((b.val.natAbs-a.val.natAbs:Nat):Int) else ((b.val.natAbs-a.val.natAbs:Nat):Int))=a.val+b.val:=by
    by_cases h:b.val<0
    ·have:¬a.val<0:=by intro h';simp[h,h'] at hs
     simp[h];omega
    ·have:a.val<0:=by
      refine Classical.byContradiction fun h' => ?_
      simp[h,h'] at hs
     simp[h];omega
   rw[e] at hw
   exact pQ.e2 a b _ _ _ _ _ _ _ _ h1 h2 h3 h4 hs hc (by unfold dR;split<;>(try split)<;>omega) h4 hl hw
theorem Sub(a b:au)(ha:Fit a.cD)(hb:Fit b.cD):Cp 131 [a.pv,b.pv] (Sym.whole (a.val-b.val)).pv:=by
 have h1:=Neg b hb
 have h2:=Add a (Sym.whole (-b.val)) ha (by
  have:=bc b
  show(words (-b.val).natAbs).length≤_
  rw[Int.natAbs_neg]
  have:(words b.val.natAbs).length≤b.cD.length:=this
  omega)
 rw[aw,←Int.sub_eq_add_neg] at h2
 exact yX.e0 a b _ _ h1 h2
theorem Mul(a b:au)(ha:Fit a.cD)(hb:Fit b.cD):Cp 95 [a.pv,b.pv] (Sym.whole (a.val*b.val)).pv:=by
 have h1:=cD a ha
 have h2:=cD b hb
 have h3:=neg a ha
 have h4:=neg b hb
 have la:(words a.val.natAbs).length≤a.cD.length:=bc a
 have lb:(words b.val.natAbs).length≤b.cD.length:=bc b
 have ht:=times (words a.val.natAbs) (words b.val.natAbs) (by omega) (by omega)
 rw[aD,aD] at ht
 have hl:(words (a.val.natAbs*b.val.natAbs)).length≤(words a.val.natAbs).length+(words b.val.natAbs).length:=by
  have:=dS a.val b.val
  unfold wl at this
  rw[Int.natAbs_mul] at this;exact this
 have hw:=whole (!(decide (a.val<0)==decide (b.val<0))) (words (a.val.natAbs*b.val.natAbs)) (by omega)
 rw[aD] at hw
 have e:(bif !(decide (a.val<0)==decide (b.val<0)) then -((a.val.natAbs*b.val.natAbs:Nat):Int) else ((a.val.natAbs*b.val.natAbs:Nat):Int))=a.val*b.val:=by
  by_cases h:a.val<0<;>by_cases h':b.val<0<;>simp only[h,h',decide_true,decide_false,beq_self_eq_true,Bool.not_true,cond_false,Bool.not_false,cond_true,show(true==false)=false from rfl,show(false==true)=false from rfl]
  ·rw[←Int.natAbs_mul,Int.natAbs_of_nonneg (Int.mul_nonneg_of_nonpos_of_nonpos (by omega) (by omega))]
  ·rw[←Int.natAbs_mul,Int.ofNat_natAbs_of_nonpos (Int.mul_nonpos_of_nonpos_of_nonneg (by omega) (by omega))];omega
  ·rw[←Int.natAbs_mul,Int.ofNat_natAbs_of_nonpos (Int.mul_nonpos_of_nonneg_of_nonpos (by omega) (by omega))];omega
  ·rw[←Int.natAbs_mul,Int.natAbs_of_nonneg (Int.mul_nonneg (by omega) (by omega))]
 rw[e] at hw
 exact yW.e0 a b _ _ _ _ _ _ h3 h4 h1 h2 ht hw
theorem Of(n:Int)(h:ax n):Cp 67 [vI n] (Sym.whole n).pv:=by
 obtain⟨g1,g2⟩:=h
 have MK:(2:Nat)^min 32 64=4294967296:=by decide
 have key:∀m:Nat,m=n.natAbs→∃w w1:UInt32,m%4294967296=w.toNat∧m/4294967296%4294967296=w1.toNat∧Cp 136 [(vB (decide (n<0))),(aa [w,w1])] (Sym.whole n).pv:=by
  intro m hm
  obtain⟨w,hw⟩:=iw (m%4294967296) (by omega)
  obtain⟨w1,Lh⟩:=iw (m/4294967296%4294967296) (by omega)
  refine⟨w,w1,hw.symm,Lh.symm,?_⟩
  have:=whole (decide (n<0)) [w,w1] (by simp)
  have e:nat [w,w1]=m:=by simp only[nat,hw,Lh];omega
  rw[e,hm] at this
  have e2:(bif decide (n<0) then -(n.natAbs:Int) else (n.natAbs:Int))=n:=by
   by_cases h:n<0
   ·simp[h];omega
   ·simp[h];omega
  rw[e2] at this;exact this
 by_cases hn:n<0
 ·obtain⟨w,w1,q1,q2,q3⟩:=key n.natAbs rfl
  exact vy.e0 n (n%18446744073709551616).toNat n.natAbs w _ w1 _ (by omega) hn (by omega) q1 (by rw[MK]) q2 q3
 ·obtain⟨w,w1,q1,q2,q3⟩:=key n.natAbs rfl
  exact vy.e1 n n.natAbs w _ w1 _ (by omega) (by omega) q1 (by rw[MK]) q2 q3
theorem Div(a b:au)(ha:Fit a.cD)(hb:Fit b.cD)(h0:b.val≠0) :
  Cp 132 [a.pv,b.pv] (.aB [(Sym.whole (a.val/b.val)).pv,(Sym.whole (a.val%b.val)).pv,.az]):=by
 have h1:=cD a ha
 have h2:=cD b hb
 have h3:=neg a ha
 have h4:=neg b hb
 have la:(words a.val.natAbs).length≤a.cD.length:=bc a
 have lb:(words b.val.natAbs).length≤b.cD.length:=bc b
 have Jw:(words b.val.natAbs).length≠0:=by rw[Ne,dK];omega
 have Qa:0<b.val.natAbs:=by omega
 have hd:=ku (words a.val.natAbs) (words b.val.natAbs) (ix _) (ix _) (by intro e;rw[e] at Jw;simp at Jw) (by omega) (by omega)
 rw[aD,aD] at hd
 have hq:=ek (Nat.div_le_self a.val.natAbs b.val.natAbs)
 have hr:=ek (Nat.le_of_lt (Nat.mod_lt a.val.natAbs Qa))
 have Hr:=Nat.div_add_mod a.val.natAbs b.val.natAbs
 have WX:=Nat.mod_lt a.val.natAbs Qa
 generalize hQ:a.val.natAbs/b.val.natAbs=q at *
 generalize hR:a.val.natAbs%b.val.natAbs=r at *
 have sb:b.val=if b.val<0 then -(b.val.natAbs:Int) else (b.val.natAbs:Int):=by split<;>omega
 have uniq:∀x y:Int,a.val=b.val*x+y→0≤y→y<b.val.natAbs→a.val/b.val=x∧a.val%b.val=y:=by
  intro x y e1 e2 e3
  rcases Int.lt_or_gt_of_ne h0 with fz|fz
  ·exact(Int.ediv_emod_unique' fz).2 ⟨by omega,e2,by omega⟩
  ·exact(Int.ediv_emod_unique fz).2 ⟨by omega,e2,by omega⟩
 by_cases hn:a.val<0
 ·by_cases C3:r=0
  ·have hw:=whole (!(decide (a.val<0)==decide (b.val<0))) (words q) (by omega)
   have z8:=whole false (words r) (by omega)
   rw[aD] at hw z8
   subst C3
   have e:a.val/b.val=(bif !(decide (a.val<0)==decide (b.val<0)) then -(q:Int) else (q:Int))∧a.val%b.val=0:=by
    refine uniq _ 0 ?_ (by omega) (by omega)
    have tZ:(a.val.natAbs:Int)=(b.val.natAbs:Int)*q:=by rw[←Hr];simp
    by_cases h':b.val<0
    ·simp only[hn,h',decide_true,beq_self_eq_true,Bool.not_true,cond_false]
     have:(b.val.natAbs:Int) = -b.val:=by omega
     rw[this] at tZ
     have:(a.val.natAbs:Int) = -a.val:=by omega
     rw[this,Int.neg_mul] at tZ
     omega
    ·simp only[hn,h',decide_true,decide_false,show(true==false)=false from rfl,Bool.not_false,cond_true]
     have:(b.val.natAbs:Int)=b.val:=by omega
     rw[this] at tZ
     have:(a.val.natAbs:Int) = -a.val:=by omega
     rw[this] at tZ
     rw[Int.mul_neg];omega
   rw[e.1,e.2]
   exact pR.e2 a b _ _ _ _ _ _ _ _ _ h2 Jw h1 hd h3 (decide_eq_true hn) (by rw[fF];simp) h3 h4 hw z8
  ·have hp:=plus (words q) [1] (by omega) (by simp)
   have hl:=less (words b.val.natAbs) (words r) (by omega) (by rw[aD,aD];omega)
   rw[aD] at hp
   rw[aD,aD] at hl
   have e1:nat [1]=1:=rfl
   rw[e1] at hp
   have yI:=e9 (n:=q+1) (k:=(words q).length+1) (by have:=j9 q;rw[Nat.pow_succ];omega)
   have Pb:=ek (show b.val.natAbs-r≤b.val.natAbs by omega)
   have hw:=whole (!(decide (a.val<0)==decide (b.val<0))) (words (q+1)) (by omega)
   have z8:=whole false (words (b.val.natAbs-r)) (by omega)
   rw[aD] at hw z8
   have e:a.val/b.val=(bif !(decide (a.val<0)==decide (b.val<0)) then -((q+1:Nat):Int) else ((q+1:Nat):Int))∧a.val%b.val=((b.val.natAbs-r:Nat):Int):=by
    refine uniq _ _ ?_ (by omega) (by omega)
    have tZ:(a.val.natAbs:Int)=(b.val.natAbs:Int)*q+r:=by rw[←Hr];simp
    by_cases h':b.val<0
    ·simp only[hn,h',decide_true,beq_self_eq_true,Bool.not_true,cond_false]
     have e5:(b.val.natAbs:Int) = -b.val:=by omega
     rw[e5] at tZ
     have:(a.val.natAbs:Int) = -a.val:=by omega
     rw[this,Int.neg_mul] at tZ
     rw[show ((q+1:Nat):Int)=(q:Int)+1 from by omega,Int.mul_add]
     omega
    ·simp only[hn,h',decide_true,decide_false,show(true==false)=false from rfl,Bool.not_false,cond_true]
     have:(b.val.natAbs:Int)=b.val:=by omega
     rw[this] at tZ
     have:(a.val.natAbs:Int) = -a.val:=by omega
     rw[this] at tZ
     rw[show ((q+1:Nat):Int)=(q:Int)+1 from by omega,Int.mul_neg,Int.mul_add];omega
   rw[e.1,e.2]
   exact pR.e1 a b _ _ _ _ _ _ _ _ _ _ _ h2 Jw h1 hd h3 (decide_eq_true hn) (by have:=(dK (n:=r)).1;omega) hp hl h3 h4 hw z8
 ·have hw:=whole (!(decide (a.val<0)==decide (b.val<0))) (words q) (by omega)
  have z8:=whole false (words r) (by omega)
  rw[aD] at hw z8
  have e:a.val/b.val=(bif !(decide (a.val<0)==decide (b.val<0)) then -(q:Int) else (q:Int))∧a.val%b.val=(r:Int):=by
   refine uniq _ _ ?_ (by omega) (by omega)
   have tZ:(a.val.natAbs:Int)=(b.val.natAbs:Int)*q+r:=by rw[←Hr];simp
   by_cases h':b.val<0
   ·simp only[hn,h',decide_true,decide_false,show(false==true)=false from rfl,Bool.not_false,cond_true]
    have e5:(b.val.natAbs:Int) = -b.val:=by omega
    rw[e5] at tZ
    have:(a.val.natAbs:Int)=a.val:=by omega
    rw[this,Int.neg_mul] at tZ
    rw[Int.mul_neg];omega
   ·simp only[hn,h',decide_false,beq_self_eq_true,Bool.not_true,cond_false]
    have:(b.val.natAbs:Int)=b.val:=by omega
    rw[this] at tZ
    have:(a.val.natAbs:Int)=a.val:=by omega
    rw[this] at tZ
    omega
  rw[e.1,e.2]
  exact pR.e3 a b _ _ _ _ _ _ _ _ _ h2 Jw h1 hd h3 (decide_eq_false hn) h3 h4 hw z8
theorem Gcd(a b:au)(ha:Fit a.cD)(hb:Fit b.cD):Cp 192 [a.pv,b.pv] (Sym.whole (Nat.gcd a.val.natAbs b.val.natAbs)).pv:=by
 have h1:=cD a ha
 have h2:=cD b hb
 have la:(words a.val.natAbs).length≤a.cD.length:=bc a
 have lb:(words b.val.natAbs).length≤b.cD.length:=bc b
 have loop:∀(k x y:Nat),y≤k→(words x).length≤1099511627776→(words y).length≤1099511627776→lz.ah (words x) (words y) (Sym.whole (Nat.gcd x y)).pv:=by
  intro k
  induction k with
  |zero =>
   intro x y hy hx _
   have:y=0:=by omega
   subst this
   have hw:=whole false (words x) (by omega)
   rw[aD] at hw
   rw[Nat.gcd_zero_right]
   exact lz.cR _ _ _ (by rw[fF];simp) hw
  |succ k ih =>
   intro x y hy hx YM
   by_cases h0:y=0
   ·subst h0
    have hw:=whole false (words x) (by omega)
    rw[aD] at hw
    rw[Nat.gcd_zero_right]
    exact lz.cR _ _ _ (by rw[fF];simp) hw
   ·have YN:(words y).length≠0:=by rw[Ne,dK];exact h0
    have hd:=ku (words x) (words y) (ix _) (ix _) (by intro e;rw[e] at YN;simp at YN) (by omega) (by omega)
    rw[aD,aD] at hd
    have hm:=Nat.mod_lt x (show 0<y by omega)
    refine lz.l10 _ _ _ _ (by omega) hd ?_
    rw[Nat.gcd_comm,Nat.gcd_rec,Nat.gcd_comm]
    exact ih y (x%y) (by omega) YM (Nat.le_trans (ek (Nat.le_of_lt hm)) YM)
 exact lz.e0 a b _ _ h1 h2 (loop _ _ _ (Nat.le_refl _) (by omega) (by omega))
end cP
abbrev ws(a:Words):SC := .pure ((a:List UInt32).map ag).flatten
namespace tE
open cP
theorem Valid(a:au)(h:Fit a.cD):Cp 276 [a.pv] (vB a.valid):=by
 unfold au.valid
 rw[dB]
 by_cases h0:a.cD.length=0
 ·simp only[h0,decide_true,cond_true]
  exact kq.e0 a h0
 ·simp only[h0,decide_false,cond_false]
  obtain⟨v,hv⟩:∃v,a.cD[a.cD.length-1]? = some v:=⟨_,List.getElem?_eq_getElem (by omega)⟩
  have:=kq.e1 a (a.cD.length-1) v h0 (by unfold ax;omega) (by omega) hv
  have e:cn a.cD=((v.toNat:Int) != 0):=by
   have h1:=nd hv
   by_cases h2:v.toNat=0
   ·have h3:((v.toNat:Int) != 0)=false:=by simp[h2]
    rw[h3]
    cases hc:cn a.cD with
    |true=>exact absurd h2 (h1.1 hc)
    |false=>rfl
   ·have h3:((v.toNat:Int) != 0)=true:=by simp;omega
    rw[h3];exact h1.2 h2
  rw[e];exact this
theorem cD(a:au)(h:Fit a.cD):Cp 227 [a.pv] (aa (words a.val.natAbs)):=by
 rw[EF]
 cases hv:a.valid with
 |false=>exact l6.e0 a a.valid (Valid a h) hv
 |true=>exact l6.e1 a a.valid (Valid a h) hv
theorem neg(a:au)(h:Fit a.cD):Cp 228 [a.pv] (vB (decide (a.val<0))):=by
 rw[Al]
 cases hv:a.valid with
 |false=>exact l7.e1 a a.valid (Valid a h) hv
 |true=>rw[Bool.true_and];exact l7.e0 a a.valid (Valid a h) hv
theorem trimmed{l:Words}{n:Nat}{v:UInt32}(hv:l[n]? = some v)(h0:v.toNat=0)(hn:n+1=l.length):nat (l.take n)=nat l:=by
 have:=bY hv
 rw[aQ (by omega),h0] at this
 omega
theorem trim(a:Words)(h:a.length≤35184372088832):Cp 277 [aa a] (aa (words (nat a))):=by
 have loop:∀(n:Nat) (l:Words),l.length=n→n≤35184372088832→eX.ah l (aa (words (nat l))):=by
  intro n
  induction n with
  |zero =>
   intro l hl _
   have:l=[]:=List.eq_nil_of_length_eq_zero hl
   subst this
   exact eX.kM [] (by simp)
  |succ n ih =>
   intro l hl hb
   obtain⟨v,hv⟩:∃v,l[n]? = some v:=⟨_,List.getElem?_eq_getElem (by omega)⟩
   by_cases h0:v.toNat=0
   ·refine eX.l10 l n v n (by omega) (by unfold ax;omega) (by omega) (by omega) hv h0 (by omega) (by omega) ?_
    have:=ih (l.take n) (by simp;omega) (by omega)
    rwa[trimmed hv h0 hl.symm] at this
   ·rw[tB ((nd (v:=v) (by rw[hl];exact hv)).2 h0) rfl]
    exact eX.cR l n v (by omega) (by unfold ax;omega) (by omega) (by omega) hv h0
 exact eX.e0 a (by simp;omega) (loop _ a rfl h)
theorem Qb(a:Words)(h:a.length≤35184372088832):av bp 277 [.pv (aa a)] [] (.row 0 0 (words (nat a)).length 1) [(0,ws (words (nat a)))]:=by
 have loop:∀(n:Nat) (l:Words),l.length=n→n≤35184372088832→eN.ah l [] (.row 0 0 (words (nat l)).length 1) [(0,ws (words (nat l)))]:=by
  intro n
  induction n with
  |zero =>
   intro l hl _
   have:l=[]:=List.eq_nil_of_length_eq_zero hl
   subst this
   exact eN.kM [] rfl rfl (by simp)
  |succ n ih =>
   intro l hl hb
   obtain⟨v,hv⟩:∃v,l[n]? = some v:=⟨_,List.getElem?_eq_getElem (by omega)⟩
   by_cases h0:v.toNat=0
   ·refine eN.l10 l n v n rfl (by omega) (by unfold ax;omega) (by omega) (by omega) hv h0 (by omega) (by omega) ?_
    have:=ih (l.take n) (by simp;omega) (by omega)
    rwa[trimmed hv h0 hl.symm] at this
   ·rw[tB ((nd (v:=v) (by rw[hl];exact hv)).2 h0) rfl]
    exact eN.cR l n v rfl rfl (by omega) (by unfold ax;omega) (by omega) (by omega) hv h0
 exact eN.e0 a (by simp;omega) (loop _ a rfl h)
theorem cut(a:Words)(h:a.length≤35184372088832):av bp 281 [.row 100000 0 a.length 1] [(100000,ws a)] (.row 100000 0 (words (nat a)).length 1) [(100000,ws (words (nat a)))]:=by
 have loop:∀n:Nat,n≤a.length→nat (a.take n)=nat a→fD.ah n a [(100000,ws a)] (.row 100000 0 (words (nat a)).length 1) [(100000,ws (words (nat a)))]:=by
  intro n
  induction n with
  |zero =>
   intro _ h2
   have:nat a=0:=by rw[←h2];rfl
   rw[this,fF]
   have:=fD.kM 0 a (sin:=[(100000,ws a)]) rfl rfl (Nat.le_refl 0)
   exact this
  |succ n ih =>
   intro h1 h2
   obtain⟨v,hv⟩:∃v,a[n]? = some v:=⟨_,List.getElem?_eq_getElem (by omega)⟩
   by_cases h0:v.toNat=0
   ·refine fD.l10 _ a n v n rfl (by omega) (by unfold ax;omega) (by omega) (by omega) hv h0 (by omega) (by omega) (ih (by omega) ?_)
    rw[bY hv,h0] at h2
    omega
   ·have e:words (nat a)=a.take (n+1):=by
     refine tB ?_ h2
     refine(nd (v:=v) ?_).2 h0
     rw[List.length_take,Nat.min_eq_left h1,Nat.add_sub_cancel,List.getElem?_take,if_pos (by omega)]
     exact hv
    have:=fD.cR (n+1) a n v (sin:=[(100000,ws a)]) rfl rfl (by omega) (by unfold ax;omega) (by omega) (by omega) hv h0
    rw[e,List.length_take,Nat.min_eq_left h1]
    exact this
 exact fD.e0 a a.length (loop a.length (Nat.le_refl _) (aQ (Nat.le_refl _)))
theorem form(neg:Bool)(m:Words)(h:m.length≤35184372088832):Cp 229 [vB neg,aa m] (Sym.whole (bif neg then -(nat m:Int) else (nat m:Int))).pv:=by
 have ht:=trim m h
 by_cases h0:nat m=0
 ·have:=kX.e0 neg m _ ht (by rw[h0,fF];rfl)
  rw[h0]
  cases neg<;>exact this
 ·have hl:(words (nat m)).length≠0:=by rw[Ne,dK];exact h0
  have:=kX.e1 neg m _ ht hl
  cases neg with
  |false =>
   have e:decide ((nat m:Int)<0)=false:=by simp
   simp only[Sym.whole,cond_false,e,Int.natAbs_natCast]
   exact this
  |true =>
   have e:decide (-(nat m:Int)<0)=true:=by simp;omega
   simp only[Sym.whole,cond_true,e,Int.natAbs_neg,Int.natAbs_natCast]
   exact this
theorem at'(a:Words)(i:Nat):Cp 278 [aa a,vI (i:Int)] (vU (wd a i)):=by
 unfold wd
 cases h:a[i]? with
 |none =>
  have:=List.getElem?_eq_none_iff.1 h
  exact mN.e1 a i (by omega)
 |some v =>
  have:=(List.getElem?_eq_some_iff.1 h).1
  exact mN.e0 a i i v (by omega) rfl h
theorem atR(a:Words)(i:Nat)(len:Nat)(hl:len=a.length):av bp 278 [.row 100000 0 len 1,.pv (vI (i:Int))] [(100000,ws a)] (.pv (vU (wd a i))) [(100000,ws a)]:=by
 subst hl
 unfold wd
 cases h:a[i]? with
 |none =>
  have:=List.getElem?_eq_none_iff.1 h
  exact l8.e1 a a.length i (by omega)
 |some v =>
  have:=(List.getElem?_eq_some_iff.1 h).1
  exact l8.e0 a a.length i i v (by omega) rfl this h
def Alike(a b:Words)(n:Nat):Prop:=∀q,n≤q→wd a q=wd b q
theorem MP:∀(n:Nat) (a b:Words),a.length≤n→b.length≤n→(∀q,wd a q=wd b q)→nat a=nat b
 |0,a,b,ha,hb,_=>by
  have h1:a=[]:=List.eq_nil_of_length_eq_zero (by omega)
  have h2:b=[]:=List.eq_nil_of_length_eq_zero (by omega)
  rw[h1,h2]
 |n+1,a,b,ha,hb,h=>by
  have h1:=jM a 0
  have h2:=jM b 0
  have hw:∀(c:Words) (q:Nat),wd (c.drop 1) q=wd c (q+1):=fun c q=>by unfold wd;rw[List.getElem?_drop,Nat.add_comm]
  have:=MP n (a.drop 1) (b.drop 1) (by simp;omega) (by simp;omega) (fun q=>by rw[hw,hw];exact h (q+1))
  simp only[List.drop_zero,Nat.zero_add] at h1 h2
  rw[h1,h2,this,h 0]
theorem BQ{a b:Words}{n:Nat}(h:Alike a b n):nat (a.drop n)=nat (b.drop n):=by
 refine MP (max (a.drop n).length (b.drop n).length) _ _ (Nat.le_max_left _ _) (Nat.le_max_right _ _) (fun q => ?_)
 have:=h (n+q) (by omega)
 unfold wd at this ⊢
 rw[List.getElem?_drop,List.getElem?_drop];exact this
theorem JB(a:Words)(k:Nat):nat a=nat (a.take k)+4294967296^k*wd a k+4294967296^(k+1)*nat (a.drop (k+1)):=by
 by_cases h:k<a.length
 ·have hv:=List.getElem?_eq_getElem h
  rw[jz hv];exact x8 a k hv
 ·rw[aQ (by omega),wW (by omega),List.drop_of_length_le (by omega),show nat []=0 from rfl,Nat.mul_zero,Nat.mul_zero,Nat.add_zero]
theorem x9{a b:Words}{k:Nat}(h:Alike a b (k+1))(ba:wd a k<wd b k):nat a<nat b:=by
 rw[JB a k,JB b k,BQ h]
 have h1:=eL (a.take k)
 have h2:=mg (show (a.take k).length≤k by simp;omega)
 have h3:4294967296^k*(wd a k+1)≤4294967296^k*wd b k:=Nat.mul_le_mul_left _ ba
 rw[Nat.mul_add] at h3
 omega
theorem ya{a b:Words}{n:Nat}(ha:a.length≤n)(hb:b.length≤n):Alike a b n:=fun q hq=>by rw[wW (by omega),wW (by omega)]
theorem yb{a b:Words}(h:Alike a b 0):nat a=nat b:=by
 have:=BQ h
 simpa using this
theorem vK{a b:Words}{n:Nat}(h:Alike a b (n+1))(he:wd a n=wd b n):Alike a b n:=fun q hq=>by
 by_cases Qc:q=n
 ·rw[Qc];exact he
 ·exact h q (by omega)
theorem compare(a b:Words)(ha:a.length<4611686018427387904)(hb:b.length<4611686018427387904):Cp 231 [aa a,aa b] (vI (dR (nat a) (nat b))):=by
 have loop:∀n:Nat,n<4611686018427387904→Alike a b n→db.ah a b ((n:Int)-1) (vI (dR (nat a) (nat b))):=by
  intro n
  induction n with
  |zero =>
   intro _ hd
   rw[An (by rw[yb hd])]
   exact db.tq a b _ (by omega)
  |succ n ih =>
   intro hn hd
   have e:((n+1:Nat):Int)-1=(n:Int):=by omega
   have h1:=at' a n
   have h2:=at' b n
   rw[e]
   by_cases he:wd a n=wd b n
   ·exact db.kM a b _ _ _ (by omega) h1 h2 he (by unfold ax;omega) (ih (by omega) (vK hd he))
   ·by_cases ba:wd a n<wd b n
    ·rw[qo (by have:=x9 hd ba;omega)]
     exact db.l10 a b _ _ _ _ _ (by omega) h1 h2 he h1 h2 ba
    ·rw[oo (by have:=x9 (a:=b) (b:=a) (fun q hq=>(hd q hq).symm) (show wd b n<wd a n by omega);omega)]
     exact db.cR a b _ _ _ _ _ (by omega) h1 h2 he h1 h2 (by omega)
 exact db.e0 a b (by unfold ax;omega) (loop _ (by omega) (ya (Nat.le_max_left _ _) (Nat.le_max_right _ _)))
theorem MQ(a b:Words)(len:Nat)(hl:len=a.length)(ha:a.length<4611686018427387904)(hb:b.length<4611686018427387904) :
  av bp 231 [.row 100000 0 len 1,.pv (aa b)] [(100000,ws a)] (.pv (vI (dR (nat a) (nat b)))) [(100000,ws a)]:=by
 have loop:∀n:Nat,n<4611686018427387904→Alike a b n→cT.ah len b ((n:Int)-1) a [(100000,ws a)] (.pv (vI (dR (nat a) (nat b)))) [(100000,ws a)]:=by
  intro n
  induction n with
  |zero =>
   intro _ hd
   rw[An (by rw[yb hd])]
   exact cT.tq len b _ a rfl rfl (by omega)
  |succ n ih =>
   intro hn hd
   have e:((n+1:Nat):Int)-1=(n:Int):=by omega
   have h1:=atR a n len hl
   have h2:=at' b n
   rw[e]
   by_cases he:wd a n=wd b n
   ·exact cT.kM len b _ a a _ _ rfl (by omega) h1 h2 he (by unfold ax;omega) (ih (by omega) (vK hd he))
   ·by_cases ba:wd a n<wd b n
    ·rw[qo (by have:=x9 hd ba;omega)]
     exact cT.l10 len b _ a a _ _ a _ _ rfl rfl (by omega) h1 h2 he h1 h2 ba
    ·rw[oo (by have:=x9 (a:=b) (b:=a) (fun q hq=>(hd q hq).symm) (show wd b n<wd a n by omega);omega)]
     exact cT.cR len b _ a a _ _ a _ _ rfl rfl (by omega) h1 h2 he h1 h2 (by omega)
 exact cT.e0 a len b (by unfold ax;omega) (loop _ (by omega) (ya (by omega) (Nat.le_max_right _ _)))
theorem KP(a b:Words)(len oQ:Nat)(hl:len=a.length)(yI:oQ=b.length)(ha:a.length<4611686018427387904)(hb:b.length<4611686018427387904) :
  av bp 231 [.row 100000 0 len 1,.row 100001 0 oQ 1] [(100000,ws a),(100001,ws b)] (.pv (vI (dR (nat a) (nat b)))) [(100000,ws a),(100001,ws b)]:=by
 have loop:∀n:Nat,n<4611686018427387904→Alike a b n→cK.ah len oQ ((n:Int)-1) a b [(100000,ws a),(100001,ws b)] (.pv (vI (dR (nat a) (nat b)))) [(100000,ws a),(100001,ws b)]:=by
  intro n
  induction n with
  |zero =>
   intro _ hd
   rw[An (by rw[yb hd])]
   exact cK.tq len oQ _ a b rfl rfl (by omega)
  |succ n ih =>
   intro hn hd
   have e:((n+1:Nat):Int)-1=(n:Int):=by omega
   have h1:=atR a n len hl
   have h2:=atR b n oQ yI
   rw[e]
   by_cases he:wd a n=wd b n
   ·exact cK.kM len oQ _ a b a _ b _ rfl (by omega) h1 h2 he (by unfold ax;omega) (ih (by omega) (vK hd he))
   ·by_cases ba:wd a n<wd b n
    ·rw[qo (by have:=x9 hd ba;omega)]
     exact cK.l10 len oQ _ a b a _ b _ a _ b _ rfl rfl (by omega) h1 h2 he h1 h2 ba
    ·rw[oo (by have:=x9 (a:=b) (b:=a) (fun q hq=>(hd q hq).symm) (show wd b n<wd a n by omega);omega)]
     exact cK.cR len oQ _ a b a _ b _ a _ b _ rfl rfl (by omega) h1 h2 he h1 h2 (by omega)
 exact cK.e0 a len b oQ (by unfold ax;omega) (loop _ (by omega) (ya (by omega) (by omega)))
theorem Gl(l:Words)(w:UInt32):nat (l++[w])=nat l+4294967296^l.length*w.toNat:=by
 rw[mR];simp[nat]
theorem plus(a b:Words)(ha:a.length≤2199023255552)(hb:b.length≤2199023255552):Cp 230 [aa a,aa b] (aa (words (nat a+nat b))):=by
 have loop:∀(j t carry:Nat) (site:Words),max a.length b.length+1-t=j→t≤max a.length b.length+1→site.length=t→carry≤1 →
   nat site+4294967296^t*carry=nat (a.take t)+nat (b.take t)→gi.ah a b site carry t (aa (words (nat a+nat b))):=by
  intro j
  induction j with
  |zero =>
   intro t carry site hj ht hs hc hinv
   have wH:t=max a.length b.length+1:=by omega
   have Ip:nat site=nat a+nat b:=by
    rw[aQ (by omega),aQ (by omega)] at hinv
    have h1:=eL a
    have h2:=eL b
    have h3:=mg (show a.length≤t-1 by omega)
    have h4:=mg (show b.length≤t-1 by omega)
    have h5:(4294967296:Nat)^t=4294967296^(t-1)*4294967296:=by rw[←Nat.pow_succ];congr 1;omega
    have Am:carry=0:=by
     cases carry with
     |zero=>rfl
     |succ c =>
      have h6:4294967296^t*1≤4294967296^t*(c+1):=Nat.mul_le_mul_left _ (by omega)
      omega
    subst Am;simpa using hinv
   have:=gi.cR a b site carry t (words (nat site)) (by omega) (trim site (by omega))
   rwa[Ip] at this
  |succ j ih =>
   intro t carry site hj ht hs hc hinv
   have h1:=nF a t
   have h2:=nF b t
   obtain⟨w,hw⟩:=iw ((wd a t+wd b t+carry)%4294967296) (by omega)
   have MK:(2:Nat)^min 32 64=4294967296:=by decide
   refine gi.l10 a b site carry t _ _ (wd a t+wd b t) (wd a t+wd b t+carry) w ((wd a t+wd b t+carry)/4294967296) (by omega) (at' a t) (at' b t) (by omega) (by omega) hw.symm (by simp;omega) (by rw[MK]) (by omega) ?_
   refine ih (t+1) _ (site++[w]) (by omega) (by omega) (by simpa using hs) (by omega) ?_
   rw[Gl,hs,et a t,et b t,hw,Nat.pow_succ,Nat.mul_assoc]
   have h6:4294967296^t*((wd a t+wd b t+carry)%4294967296)+4294967296^t*(4294967296*((wd a t+wd b t+carry)/4294967296))=4294967296^t*carry+4294967296^t*wd a t+4294967296^t*wd b t:=by
    rw[←Nat.mul_add,←Nat.mul_add,←Nat.mul_add]
    congr 1
    omega
   omega
 exact gi.e0 a b (by omega) (loop _ 0 0 _ rfl (by omega) rfl (by omega) (by simp[nat]))
theorem vL{p q borrow:Nat}(hp:p<4294967296)(hq:q<4294967296)(hb:borrow≤1) :
  ∃s d d1 x z nb:Nat,(4294967296+p)%18446744073709551616=s∧((s:Nat)-(q:Nat):Int)%18446744073709551616=(d:Int)∧((d:Nat)-(borrow:Nat):Int)%18446744073709551616=(d1:Int)∧d1%4294967296=x∧d1/2^min 32 64=z ∧
   ((1:Nat)-(z:Nat):Int)%18446744073709551616=(nb:Int)∧nb≤1∧x<4294967296∧x+q+borrow=p+4294967296*nb:=by
 have e:(2:Nat)^min 32 64=4294967296:=by decide
 rw[e]
 refine⟨4294967296+p,4294967296+p-q,4294967296+p-q-borrow,_,_,1-(4294967296+p-q-borrow)/4294967296,by omega,by omega,by omega,rfl,rfl,?_,?_,?_,?_⟩
 ·have h1:(4294967296+p-q-borrow)/4294967296≤1:=by omega
  generalize (4294967296+p-q-borrow)/4294967296=u at h1 ⊢
  omega
 ·omega
 ·omega
 ·by_cases h:q+borrow≤p
  ·have h1:(4294967296+p-q-borrow)/4294967296=1:=by omega
   rw[h1];omega
  ·have h1:(4294967296+p-q-borrow)/4294967296=0:=by omega
   rw[h1];omega
theorem minus(a b:Words)(ha:a.length≤2199023255552)(dF:nat b≤nat a):Cp 232 [aa a,aa b] (aa (words (nat a-nat b))):=by
 have loop:∀(j t borrow:Nat) (site:Words),a.length-t=j→t≤a.length→site.length=t→borrow≤1 →
   nat site+nat (b.take t)=nat (a.take t)+4294967296^t*borrow→fI.ah a b site borrow t (aa (words (nat a-nat b))):=by
  intro j
  induction j with
  |zero =>
   intro t borrow site hj ht hs hc hinv
   have wH:t=a.length:=by omega
   have Ip:nat site=nat a-nat b:=by
    subst wH
    rw[aQ (l:=a) (by omega)] at hinv
    have h1:=eL a
    have h2:=eL site
    rw[hs] at h2
    have h3:nat (b.take a.length)=nat b:=by
     by_cases hl:b.length≤a.length
     ·exact aQ hl
     ·have h4:=j8 b a.length (by omega)
      have h5:nat (b.drop a.length)=0:=by
       refine Nat.eq_zero_of_not_pos fun hp => ?_
       have:=Nat.mul_le_mul_left (4294967296^a.length) hp
       omega
      rw[h5] at h4;omega
    have Jw:borrow=0:=by
     refine Nat.eq_zero_of_not_pos fun hp => ?_
     have:=Nat.mul_le_mul_left (4294967296^a.length) hp
     omega
    subst Jw
    omega
   have:=fI.cR a b site borrow t (words (nat site)) (by omega) (trim site (by omega))
   rwa[Ip] at this
  |succ j ih =>
   intro t borrow site hj ht hs hc hinv
   obtain⟨s,d,d1,x,z,nb,g1,g2,g3,g4,g5,g6,g7,g8,g9⟩:=vL (nF a t) (nF b t) hc
   obtain⟨w,hw⟩:=iw x g8
   refine fI.l10 a b site borrow t _ s _ d d1 w z nb (by omega) (at' a t) g1 (at' b t) g2 g3 (by omega) (by simp;omega) g5 g6 (by omega) ?_
   refine ih (t+1) nb (site++[w]) (by omega) (by omega) (by simpa using hs) g7 ?_
   rw[Gl,hs,et a t,et b t,hw,Nat.pow_succ,Nat.mul_assoc]
   have h6:4294967296^t*x+4294967296^t*wd b t+4294967296^t*borrow=4294967296^t*wd a t+4294967296^t*(4294967296*nb):=by
    rw[←Nat.mul_add,←Nat.mul_add,←Nat.mul_add,g9]
   omega
 exact fI.e0 a b (loop _ 0 0 _ rfl (by omega) rfl (by omega) (by simp[nat]))
theorem Gm{a b U:Words}{borrow:Nat}(hl:U.length=a.length)(dF:nat b≤nat a)(hinv:nat (U.take a.length)+nat (b.take a.length)=nat (a.take a.length)+4294967296^a.length*borrow):nat U=nat a-nat b:=by
 rw[aQ (by omega),aQ (l:=a) (by omega)] at hinv
 have h1:=eL a
 have h2:=eL U
 rw[hl] at h2
 have h3:nat (b.take a.length)=nat b:=by
  by_cases hl:b.length≤a.length
  ·exact aQ hl
  ·have h4:=j8 b a.length (by omega)
   have h5:nat (b.drop a.length)=0:=by
    refine Nat.eq_zero_of_not_pos fun hp => ?_
    have:=Nat.mul_le_mul_left (4294967296^a.length) hp
    omega
   rw[h5] at h4;omega
 have Jw:borrow=0:=by
  refine Nat.eq_zero_of_not_pos fun hp => ?_
  have:=Nat.mul_le_mul_left (4294967296^a.length) hp
  omega
 subst Jw
 omega
theorem Dw{a b U:Words}{borrow nb t:Nat}{w:UInt32}(ht:t<a.length)(hl:U.length=a.length)(hinv:nat (U.take t)+nat (b.take t)=nat (a.take t)+4294967296^t*borrow)(h:w.toNat+wd b t+borrow=wd a t+4294967296*nb) :
  nat ((U.set t w).take (t+1))+nat (b.take (t+1))=nat (a.take (t+1))+4294967296^(t+1)*nb:=by
 rw[gQ (by omega),et a t,et b t,Nat.pow_succ,Nat.mul_assoc]
 have h6:4294967296^t*w.toNat+4294967296^t*wd b t+4294967296^t*borrow=4294967296^t*wd a t+4294967296^t*(4294967296*nb):=by
  rw[←Nat.mul_add,←Nat.mul_add,←Nat.mul_add,h]
 omega
theorem ui{l:Words}{t q:Nat}{w:UInt32}(h:q≠t):wd (l.set t w) q=wd l q:=by
 unfold wd
 rw[List.getElem?_set_ne (by omega)]
theorem take(a b:Words)(len:Nat)(hlen:len=a.length)(ha:a.length≤2199023255553)(dF:nat b≤nat a) :
  ∃U:Words,U.length=a.length∧nat U=nat a-nat b∧av bp 280 [.row 100000 0 len 1,.pv (aa b)] [(100000,ws a)] (.pv (.aB [])) [(100000,ws U)]:=by
 subst hlen
 have loop:∀(j t borrow:Nat) (U:Words),a.length-t=j→t≤a.length→U.length=a.length→borrow≤1→(∀q,t≤q→wd U q=wd a q) →
   nat (U.take t)+nat (b.take t)=nat (a.take t)+4294967296^t*borrow →
   ∃V:Words,V.length=a.length∧nat V=nat a-nat b∧gj.ah a.length b borrow t U [(100000,ws a)] (.pv (.aB [])) [(100000,ws V)]:=by
  intro j
  induction j with
  |zero =>
   intro t borrow U hj ht hl hb il hinv
   have wH:t=a.length:=by omega
   subst wH
   exact⟨U,hl,Gm hl dF hinv,gj.cR _ b borrow _ U (sin:=[(100000,ws a)]) rfl rfl (Nat.le_refl _)⟩
  |succ j ih =>
   intro t borrow U hj ht hl hb il hinv
   obtain⟨s,d,d1,x,z,nb,g1,g2,g3,g4,g5,g6,g7,g8,g9⟩:=vL (nF a t) (nF b t) hb
   obtain⟨w,hw⟩:=iw x g8
   obtain⟨V,h1,h2,h3⟩:=ih (t+1) nb (U.set t w) (by omega) (by omega) (by simpa using hl) g7 (fun q hq=>by rw[ui (by omega)];exact il q (by omega)) (Dw (by omega) hl hinv (by rw[hw];exact g9))
   refine⟨V,h1,h2,gj.l10 _ b borrow t U U _ s _ d d1 w z nb rfl (by omega) (atR U t a.length hl.symm) (by rw[il t (Nat.le_refl t)];exact g1) (at' b t) g2 g3 (by omega) g5 g6 (by omega) (by omega) h3⟩
 obtain⟨V,h1,h2,h3⟩:=loop _ 0 0 a rfl (by omega) rfl (by omega) (fun _ _=>rfl) (by simp[nat])
 exact⟨V,h1,h2,gj.e0 a a.length b h3⟩
theorem Ua(a b:Words)(len oQ:Nat)(hlen:len=a.length)(Ub:oQ=b.length)(ha:a.length≤2199023255553)(dF:nat b≤nat a) :
  ∃U:Words,U.length=a.length∧nat U=nat a-nat b∧av bp 280 [.row 100000 0 len 1,.row 100001 0 oQ 1] [(100000,ws a),(100001,ws b)] (.pv (.aB [])) [(100000,ws U),(100001,ws b)]:=by
 subst hlen
 have loop:∀(j t borrow:Nat) (U:Words),a.length-t=j→t≤a.length→U.length=a.length→borrow≤1→(∀q,t≤q→wd U q=wd a q) →
   nat (U.take t)+nat (b.take t)=nat (a.take t)+4294967296^t*borrow →
   ∃V:Words,V.length=a.length∧nat V=nat a-nat b∧fK.ah a.length oQ borrow t U b [(100000,ws a),(100001,ws b)] (.pv (.aB [])) [(100000,ws V),(100001,ws b)]:=by
  intro j
  induction j with
  |zero =>
   intro t borrow U hj ht hl hb il hinv
   have wH:t=a.length:=by omega
   subst wH
   exact⟨U,hl,Gm hl dF hinv,fK.cR _ _ borrow _ U b (sin:=[(100000,ws a),(100001,ws b)]) rfl rfl (Nat.le_refl _)⟩
  |succ j ih =>
   intro t borrow U hj ht hl hb il hinv
   obtain⟨s,d,d1,x,z,nb,g1,g2,g3,g4,g5,g6,g7,g8,g9⟩:=vL (nF a t) (nF b t) hb
   obtain⟨w,hw⟩:=iw x g8
   obtain⟨V,h1,h2,h3⟩:=ih (t+1) nb (U.set t w) (by omega) (by omega) (by simpa using hl) g7 (fun q hq=>by rw[ui (by omega)];exact il q (by omega)) (Dw (by omega) hl hinv (by rw[hw];exact g9))
   refine⟨V,h1,h2,fK.l10 _ _ borrow t U b U _ s b _ d d1 w z nb rfl (by omega) (atR U t a.length hl.symm) (by rw[il t (Nat.le_refl t)];exact g1) (atR b t oQ Ub) g2 g3 (by omega) g5 g6 (by omega) (by omega) h3⟩
 obtain⟨V,h1,h2,h3⟩:=loop _ 0 0 a rfl (by omega) rfl (by omega) (fun _ _=>rfl) (by simp[nat])
 exact⟨V,h1,h2,fK.e0 a a.length b oQ h3⟩
theorem KQ{x y:Nat}(hx:x<4294967296)(hy:y<4294967296):((x/2)%18446744073709551616) ||| ((y*2^min 31 64)%18446744073709551616%18446744073709551616)=(y*4294967296+x)/2:=by
 have e:(2:Nat)^min 31 64=2147483648:=by decide
 rw[e,Nat.mod_mod,Nat.mod_eq_of_lt (show x/2<18446744073709551616 by omega),Nat.mod_eq_of_lt (show y*2147483648<18446744073709551616 by omega),Nat.or_comm,Nat.mul_comm y]
 have:=Nat.two_pow_add_eq_or_of_lt (i:=31) (show x/2<2^31 by omega) y
 rw[show (2:Nat)^31=2147483648 from rfl] at this
 rw[←this]
 omega
theorem KR{a U:Words}{t:Nat}{w:UInt32}(ht:t<a.length)(hl:U.length=a.length)(hinv:nat (U.take t)=(nat a/2)%4294967296^t)(hw:w.toNat=(wd a (t+1)*4294967296+wd a t)/2%4294967296) :
  nat ((U.set t w).take (t+1))=(nat a/2)%4294967296^(t+1):=by
 rw[gQ (by omega),hinv,hw]
 have g1:nat a/2/4294967296^t=nat (a.drop t)/2:=by
  rw[Nat.div_div_eq_div_mul,Nat.mul_comm,←Nat.div_div_eq_div_mul,tD a t (by omega)]
 have g2:nat (a.drop t)/2%4294967296=(wd a (t+1)*4294967296+wd a t)/2%4294967296:=by
  rw[jM a t,jM a (t+1)]
  generalize nat (a.drop (t+1+1))=r
  generalize wd a (t+1)=y
  generalize wd a t=x
  omega
 have g3:=Nat.mod_mul (a:=4294967296^t) (b:=4294967296) (x:=nat a/2)
 rw[Nat.pow_succ,g3,g1,g2]
theorem MR(a:Words)(len:Nat)(hlen:len=a.length)(ha:a.length≤2199023255553) :
  av bp 279 [.row 100000 0 len 1] [(100000,ws a)] (.row 100000 0 (words (nat a/2)).length 1) [(100000,ws (words (nat a/2)))]:=by
 subst hlen
 have e1:(2:Nat)^min 1 64=2:=by decide
 have loop:∀(j t:Nat) (U:Words),a.length-t=j→t≤a.length→U.length=a.length→(∀q,t≤q→wd U q=wd a q)→nat (U.take t)=(nat a/2)%4294967296^t →
   fJ.ah a.length t U [(100000,ws a)] (.row 100000 0 (words (nat a/2)).length 1) [(100000,ws (words (nat a/2)))]:=by
  intro j
  induction j with
  |zero =>
   intro t U hj ht hl il hinv
   have wH:t=a.length:=by omega
   subst wH
   rw[aQ (by omega),Nat.mod_eq_of_lt (Nat.lt_of_le_of_lt (Nat.div_le_self _ _) (eL a))] at hinv
   have hc:=cut U (by omega)
   rw[hinv,hl] at hc
   have:=fJ.cR a.length a.length U (words (nat a/2)) (words (nat a/2)).length (sin:=[(100000,ws a)]) rfl rfl (Nat.le_refl _) hc
   rw[List.take_of_length_le (Nat.le_refl _)] at this
   exact this
  |succ j ih =>
   intro t U hj ht hl il hinv
   have h1:=nF a t
   have h2:=nF a (t+1)
   obtain⟨w,hw⟩:=iw ((wd a (t+1)*4294967296+wd a t)/2%4294967296) (Nat.mod_lt _ (by omega))
   have hA:=atR U t a.length hl.symm
   have hB:=atR U (t+1) a.length hl.symm
   rw[il t (Nat.le_refl t)] at hA
   rw[il (t+1) (by omega)] at hB
   refine fJ.l10 a.length t U U _ _ U _ _ ((wd a (t+1)*4294967296+wd a t)/2) w rfl (by omega) hA (by rw[e1]) (by omega) hB rfl (KQ h1 h2) hw.symm (by omega) ?_
   exact ih (t+1) (U.set t w) (by omega) (by omega) (by simpa using hl) (fun q hq=>by rw[ui (by omega)];exact il q (by omega)) (KR (by omega) hl hinv hw)
 exact fJ.e0 a a.length (loop _ 0 a rfl (by omega) rfl (fun _ _=>rfl) (by simp[nat,Nat.mod_one]))
end tE
end Go.Proofs.YtllmkadmohkbfaaGreatDoor.Sym
