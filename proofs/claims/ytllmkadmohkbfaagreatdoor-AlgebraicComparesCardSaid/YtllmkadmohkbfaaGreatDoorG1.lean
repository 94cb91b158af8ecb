/- Lemmas for the statements of this seat. -/
import Derived.Test.YtllmkadmohkbfaaGreatDoorG0
import Derived.Test.YtllmkadmohkbfaaGreatDoorP1
namespace Go.Proofs.YtllmkadmohkbfaaGreatDoor.Sym
open Go Path
set_option linter.unusedVariables false
section
variable {V R W top next hi lo head r0 eK rest:Nat}
structure Kn (V R W top next head lo r0:Nat):Prop where
 v1:(top*4294967296+next)*W≤V
 v2:V<(top*4294967296+next+1)*W
 r:R=(head*4294967296+lo)*W+r0
 r0:r0<W
 lo:lo<4294967296
 next:next<4294967296
 top:0<top
 rv:R<V*4294967296
theorem Kn.rlt(h:Kn V R W top next head lo r0):R<(head*4294967296+lo+1)*W:=by
 have h1:=h.r;have h2:=h.r0
 rw[Nat.add_mul _ 1,Nat.one_mul];omega
theorem Kn.Rh(h:Kn V R W top next head lo r0):0<V∧4294967296*W≤V:=by
 have h1:=h.v1
 have h2:=h.r0
 have h3:4294967296*W≤(top*4294967296+next)*W:=Nat.mul_le_mul_right _ (by have:=h.top;omega)
 omega
theorem Kn.start(h:Kn V R W top next head lo r0):R/V≤head/top:=by
 have hv:=h.Rh.1
 rw[←Nat.lt_succ_iff,Nat.div_lt_iff_lt_mul hv]
 have h1:head+1≤(head/top+1)*top:=by
  have:=Nat.lt_div_mul_add (a:=head) h.top
  rw[Nat.add_mul,Nat.one_mul];omega
 have h2:(head/top+1)*((top*4294967296+next)*W)≤(head/top+1)*V:=Nat.mul_le_mul_left _ h.v1
 have h3:(head*4294967296+lo+1)*W≤(head/top+1)*((top*4294967296+next)*W):=by
  rw[←Nat.mul_assoc]
  refine Nat.mul_le_mul_right _ ?_
  rw[Nat.mul_add,←Nat.mul_assoc]
  have:=Nat.mul_le_mul_right 4294967296 h1
  have:=h.lo
  omega
 have:=h.rlt
 show R<(head/top+1)*V
 omega
theorem Kn.small(h:Kn V R W top next head lo r0):R/V<4294967296:=by
 rw[Nat.div_lt_iff_lt_mul h.Rh.1,Nat.mul_comm];exact h.rv
theorem Kn.less(h:Kn V R W top next head lo r0)(hg:eK*top+rest=head)(hc:rest*4294967296+lo<eK*next):R/V<eK:=by
 rw[Nat.div_lt_iff_lt_mul h.Rh.1]
 have h2:eK*((top*4294967296+next)*W)≤eK*V:=Nat.mul_le_mul_left _ h.v1
 have h3:(head*4294967296+lo+1)*W≤eK*((top*4294967296+next)*W):=by
  rw[←Nat.mul_assoc]
  refine Nat.mul_le_mul_right _ ?_
  rw[Nat.mul_add,←Nat.mul_assoc,←hg,Nat.add_mul]
  omega
 have:=h.rlt
 omega
theorem Kn.fits(h:Kn V R W top next head lo r0)(hg:eK*top+rest=head)(hr:4294967296≤rest):eK<4294967296:=by
 refine Nat.lt_of_not_le fun Ik => ?_
 have h1:4294967296*top≤eK*top:=Nat.mul_le_mul_right _ Ik
 have h2:(head*4294967296)*W≤R:=by
  rw[h.r,Nat.add_mul];omega
 have h3:(4294967296*top+4294967296)*4294967296*W≤head*4294967296*W:=Nat.mul_le_mul_right _ (Nat.mul_le_mul_right _ (by omega))
 have h4:V*4294967296<(top*4294967296+next+1)*W*4294967296:=Nat.mul_lt_mul_of_pos_right h.v2 (by omega)
 have h5:(top*4294967296+next+1)*W*4294967296≤(4294967296*top+4294967296)*W*4294967296:=Nat.mul_le_mul_right _ (Nat.mul_le_mul_right _ (by have:=h.next;omega))
 have h6:(4294967296*top+4294967296)*W*4294967296=(4294967296*top+4294967296)*4294967296*W:=by rw[Nat.mul_right_comm]
 have:=h.rv
 omega
theorem Kn.Pv(h:Kn V R W top next head lo r0)(hg:eK*top+rest=head)(hl:eK<4294967296)(hc:4294967296≤rest∨eK*next≤rest*4294967296+lo):eK≤R/V+1:=by
 have hv:=h.Rh.1
 cases eK with
 |zero=>exact Nat.zero_le _
 |succ g =>
  refine Nat.succ_le_succ ?_
  rw[Nat.le_div_iff_mul_le hv]
  have h0:(g+1)*V≤(g+1)*((top*4294967296+next+1)*W):=Nat.mul_le_mul_left _ (Nat.le_of_lt h.v2)
  have h1:(g+1)*((top*4294967296+next+1)*W)=((g+1)*top*4294967296+(g+1)*next+(g+1))*W:=by
   rw[←Nat.mul_assoc,Nat.mul_add,Nat.mul_add,Nat.mul_one,Nat.mul_assoc (g+1) top]
  have h2:=h.Rh.2
  have h3:(g+1)*V=g*V+V:=by rw[Nat.add_mul,Nat.one_mul]
  have hr:(head*4294967296+lo)*W≤R:=by rw[h.r];omega
  rcases hc with hc|hc
  ·have h4:((g+1)*top*4294967296+(g+1)*next+(g+1))*W≤(head*4294967296+lo)*W:=by
    refine Nat.mul_le_mul_right _ ?_
    have h5:(g+1)*next+(g+1)≤(g+1)*4294967296:=by
     have:=Nat.mul_le_mul_left (g+1) (show next+1≤4294967296 by have:=h.next;omega)
     rw[Nat.mul_add,Nat.mul_one] at this;exact this
    rw[←hg,Nat.add_mul]
    omega
   omega
  ·have h4:((g+1)*top*4294967296+(g+1)*next+(g+1))*W≤(head*4294967296+lo+4294967296)*W:=by
    refine Nat.mul_le_mul_right _ ?_
    rw[←hg,Nat.add_mul];omega
   rw[Nat.add_mul _ 4294967296] at h4
   omega
end
namespace dE
theorem Th(u:Words)(j n:Nat)(h:j+n≤u.length):nat (u.drop j)=nat ((u.drop j).take n)+4294967296^n*nat (u.drop (j+n)):=by
 have:=qf (u.drop j) n (by simp;omega)
 rw[List.drop_drop] at this
 exact this
theorem Ri(U:Words)(n:Nat)(h:U.length=n+3){a b c:UInt32}(ha:U[n]? = some a)(hb:U[n+1]? = some b)(hc:U[n+2]? = some c) :
  nat U=((c.toNat*4294967296+b.toNat)*4294967296+a.toNat)*4294967296^n+nat (U.take n):=by
 have h1:=eC hc
 have h2:=eC hb
 have h3:=eC ha
 rw[b9 (by omega)] at h1
 rw[h1,h2,h3]
 have e1:(4294967296:Nat)^(n+1)=4294967296^n*4294967296:=Nat.pow_succ ..
 have e2:(4294967296:Nat)^(n+2)=4294967296^n*4294967296*4294967296:=by rw[Nat.pow_succ,e1]
 rw[e1,e2]
 generalize (4294967296:Nat)^n=P
 grind
theorem Rj(U:Words)(n:Nat)(h:U.length=n+2){a b:UInt32}(ha:U[n]? = some a)(hb:U[n+1]? = some b) :
  nat U=(b.toNat*4294967296+a.toNat)*4294967296^n+nat (U.take n):=by
 have h2:=eC hb
 have h3:=eC ha
 rw[b9 (by omega)] at h2
 rw[h2,h3]
 have e1:(4294967296:Nat)^(n+1)=4294967296^n*4294967296:=Nat.pow_succ ..
 rw[e1]
 generalize (4294967296:Nat)^n=P
 grind
structure Dv (a b zb v:Words) (v1 v2:UInt32) (s n m V N:Nat):Prop where
 hv:v=zb.take b.length
 J7:s<32
 La:a.length≤2199023255551
 hm:a.length+1=m+(n+2)
 Gm:v.length=n+2
 Iw:nat v=V
 FB:V<4294967296^(n+2)
 Ti:0<V
 B0:v[n+1]? = some v1
 uy:v[n]? = some v2
 Oo:V=(v1.toNat*4294967296+v2.toNat)*4294967296^n+nat (v.take n)
 Se:nat (v.take n)<4294967296^n
 Ln:0<v1.toNat
 res:∀q r:Nat,N=q*V+r→r<V→nat a/nat b=q∧r/2^s=nat a%nat b
structure Pt (u U A C:Words) (n j R Q V:Nat):Prop where
 PW:U.length=n+3
 Tj:A.length=j
 hu:u=A++(U++C)
 FC:R=nat U
 hQ:R/V=Q
 Vy:nat C=0
 hR:R=nat (u.drop j)
 hj:j+(n+3)≤u.length
 DU:u.length≤2199023255552
theorem Xx{g Q V R r P x:Nat}(Md:Q*V+r=R)(hx:x<P)(h2:x+g*V=R+P)(Yp:Q≤g)(Yq:g≤Q+1):g=Q+1∧x+V=r+P:=by
 rcases Nat.lt_or_ge Q g with h5|h5
 ·have h6:g=Q+1:=by omega
  rw[h6,Nat.add_mul,Nat.one_mul] at h2
  exact⟨h6,by omega⟩
 ·have h6:g=Q:=by omega
  rw[h6] at h2
  omega
theorem Xy{ca V r P x y:Nat}(h:y+P*ca=x+V)(hy:y<P)(h2:x+V=r+P)(hc:ca≤1):y=r:=by
 have T7:ca=0∨ca=1:=by omega
 rcases T7 with rfl|rfl
 ·omega
 ·omega
theorem Tk {a b zb v u U A C : Words} {v1 v2 : UInt32} {s n m V N j R Q : Nat} (dv : Dv a b zb v v1 v2 s n m V N) (pt : Pt u U A C n j R Q V) :
    ∀ eK : Nat, eK < 4294967296 → Q ≤ eK → eK ≤ Q + 1 → ∃ (U1 : Words) (bo : Bool) (U2 : Words), U1.length = n + 3 ∧
          av bT 271 [.row 100000 (0 + j * 1) (j + (n + 3) - j) 1, .pv (ag (zb.take b.length)), .pv (vU eK)] [(100000, .pure ((u : List UInt32).map ai).flatten)] (.pv (vB bo)) [(100000, .pure (((A ++ (U1 ++ C) : List UInt32)).map ai).flatten)] ∧
          (bo = false → eK = Q ∧ nat U1 = R % V) ∧
          (bo = true → eK = Q + 1 ∧ 0 < eK ∧ U2.length = n + 3 ∧ nat U2 = R % V ∧
            av bT 272 [.row 100000 (0 + j * 1) (j + (n + 3) - j) 1, .pv (ag (zb.take b.length))] [(100000, .pure (((A ++ (U1 ++ C) : List UInt32)).map ai).flatten)] (.pv (.aB [])) [(100000, .pure (((A ++ (U2 ++ C) : List UInt32)).map ai).flatten)]) := by
  obtain ⟨hv, J7, La, hm, Gm, Iw, FB, Ti, B0, uy, Oo, Se, Ln, res⟩ := dv
  obtain ⟨PW, Tj, hu, FC, hQ, Vy, hR, hj, DU⟩ := pt
  have Oq : (4294967296 : Nat) ^ (n + 3) = 4294967296 ^ (n + 2) * 4294967296 := Nat.pow_succ ..
  intro eK ZT Yp Yq
  have Md := Nat.div_add_mod R V
  rw [hQ] at Md
  have ZU := Nat.mod_lt R Ti
  rw [Nat.mul_comm] at Md
  rw [← hv]
  obtain ⟨U1, bo, r1, ⟨r2f, Yr⟩, r3⟩ := remove A U C v eK (0 + j * 1) (j + (n + 3) - j) (by omega) (by omega) (by omega) ZT (by
    rw [Iw, PW, Oq]
    have h5 := Nat.mul_lt_mul_of_pos_left FB (show 0 < 4294967296 by omega)
    have h6 := Nat.mul_le_mul_right V (Nat.le_of_lt ZT)
    rw [Nat.mul_comm (4294967296 ^ (n + 2))]; omega) (by omega)
  rw [Iw, ← FC] at r2f Yr
  rw [PW] at Yr
  have ZV := jM U1
  rw [r1, PW] at ZV
  obtain ⟨U2, ca, b1, b2, b3, b4⟩ := back A U1 C v (0 + j * 1) (j + (n + 3) - j) (by omega) (by omega) (by omega) (by omega)
  rw [Iw, r1, PW] at b3
  have ZW := jM U2
  rw [b1, r1, PW] at ZW
  have hVP : V < 4294967296 ^ (n + 3) := by
    have := Nat.pow_le_pow_right (n := 4294967296) (by omega) (show n + 2 ≤ n + 3 by omega)
    exact Nat.lt_of_lt_of_le FB this
  clear Oq FB Se Oo res
  generalize (4294967296 : Nat) ^ (n + 3) = P3 at Yr ZV b3 ZW hVP
  refine ⟨U1, bo, U2, by omega, by rw [show gJ A U C = .pure ((u : List UInt32).map ai).flatten from by rw [hu]] at r3; exact r3, fun Xw => ?_, fun Xw => ?_⟩
  · have r2 := r2f Xw
    have : eK = Q := by
      rcases Nat.lt_or_ge (Q) eK with h5 | h5
      · have h6 : eK = Q + 1 := by omega
        rw [h6, Nat.add_mul, Nat.one_mul] at r2
        omega
      · omega
    rw [this] at r2
    exact ⟨this, by omega⟩
  · have r2 := Yr Xw
    obtain ⟨g1, g2⟩ := Xx Md ZV r2 Yp Yq
    exact ⟨g1, by rw [g1]; exact Nat.succ_pos _, b1.trans (r1.trans PW), Xy b3 ZW g2 b2, b4⟩
theorem Rk{a b zb v u q U A C:Words}{v1 v2:UInt32}{s n m V N j R Q:Nat}(dv:Dv a b zb v v1 v2 s n m V N)(pt:Pt u U A C n j R Q V)(X4:j+1≤m)(DU:u.length=a.length+1)(D2:q.length=m)(hA:nat u=nat A+4294967296^j*R)
  (hinv:N=nat (q.drop (j+1))*4294967296^(j+1)*V+nat u)
  (ih:∀(u q:Words),u.length=a.length+1→q.length=m→nat (u.drop j)<V→N=nat (q.drop j)*4294967296^j*V+nat u →
   dF.aj (s:Int) zb b (a.length+1) m v1 v2 ((j:Int)-1) u q (.aB [ag (words (nat a/nat b)),ag (words (nat a%nat b))])) (U2:Words) (w:UInt32) (FZ:U2.length=n+3) (Fw:nat U2=R%V) (hw:w.toNat=Q) :
  dF.aj (s:Int) zb b (a.length+1) m v1 v2 ((j:Int)-1) (A++(U2++C)) (q.set j w) (.aB [ag (words (nat a/nat b)),ag (words (nat a%nat b))]):=by
 have Ti:=dv.Ti
 obtain⟨PW,Tj,hu,FC,hQ,Vy,hR,hj,_⟩:=pt
 have DL:(A++(U2++C)).drop j=U2++C:=by rw[←Tj];exact List.drop_left
 have hn3:nat (U2++C)=R%V:=by rw[th,Vy,Fw];simp
 refine ih _ _ ?_ (by simpa using D2) (by rw[DL,hn3];exact Nat.mod_lt _ Ti) ?_
 ·have h5:u.length=(A++(U++C)).length:=by rw[←hu]
  simp only[List.length_append] at h5 ⊢
  omega
 ·have h5:nat (A++(U2++C))=nat A+4294967296^j*(R%V):=by rw[th,hn3,Tj]
  have h7:nat ((q.set j w).drop j)=Q+4294967296*nat (q.drop (j+1)):=by
   rw[xT (v:=w) (by rw[List.getElem?_set_self (by omega)]),List.drop_set_of_lt (by omega),hw]
  rw[h5,h7,hinv,hA]
  have h8:=Nat.div_add_mod R V
  rw[hQ] at h8
  have e1:(4294967296:Nat)^(j+1)=4294967296^j*4294967296:=Nat.pow_succ ..
  rw[e1]
  generalize (4294967296:Nat)^j=P at *
  generalize nat (q.drop (j+1))=X at *
  generalize R%V=r at *
  rw[←h8]
  clear h8 hj hu FC hR hinv hA h5 h7 e1
  grind
theorem Pw{a b zb v u q U A C:Words}{v1 v2 lo:UInt32}{s n m V N j R Q head r0:Nat}(dv:Dv a b zb v v1 v2 s n m V N)(pt:Pt u U A C n j R Q V)(kn:Kn V R (4294967296^n) v1.toNat v2.toNat head lo.toNat r0)(X4:j+1≤m)(DU:u.length=a.length+1)(D2:q.length=m)(DK:U[n]? = some lo)
  (next:∀(U2:Words) (w:UInt32),U2.length=n+3→nat U2=R%V→w.toNat=Q →
   dF.aj (s:Int) zb b (a.length+1) m v1 v2 ((j:Int)-1) (A++(U2++C)) (q.set j w) (.aB [ag (words (nat a/nat b)),ag (words (nat a%nat b))])) :
  ∀(k eK rest:Nat),4294967296-rest≤k→rest<18446744073709551616-4294967296→eK*v1.toNat+rest=head→Q≤eK→eK<18446744073709551616 →
   dF.cz (s:Int) zb b (a.length+1) m v1 v2 (((j+1:Nat):Int)-1) j (j+(n+3)) eK rest u q (.aB [ag (words (nat a/nat b)),ag (words (nat a%nat b))]):=by
 have fin:=Tk dv pt
 obtain⟨hv,J7,La,hm,Gm,Iw,FB,Ti,B0,uy,Oo,Se,Ln,res⟩:=dv
 obtain⟨PW,Tj,hu,FC,hQ,Vy,hR,hj,_⟩:=pt
 have Vx:=oq lo
 have ZX:=oq v1
 have ZY:=oq v2
 have DM:(zb.take b.length).length=n+2:=by rw[←hv];exact Gm
 have Rl:(2:Nat)^min 32 64=4294967296:=by decide
 have wu:∀(k:Nat) (w:UInt32),U[k]? = some w→u[(0+j*1)+k]? = some w:=fun k w hk=>by
  rw[hu,Nat.zero_add,Nat.mul_one,←Tj];exact mL A U C k w hk
 have Rm:=kn.small
 rw[hQ] at Rm
 have Xz:∀{g r:Nat},g*v1.toNat+r=head→r*4294967296+lo.toNat<g*v2.toNat→Q<g:=fun h1 h2=>by rw[←hQ];exact kn.less h1 h2
 have Rn:∀{g r:Nat},g*v1.toNat+r=head→g<4294967296→(4294967296≤r∨g*v2.toNat≤r*4294967296+lo.toNat)→g≤Q+1:=fun h1 h2 h3=>by rw[←hQ];exact kn.Pv h1 h2 h3
 clear FB Se Oo res FC hR
 intro k
 induction k with
 |zero =>
  intro eK rest hk XA hg hq Yp
  have hr:4294967296≤rest:=by omega
  have CB:=kn.fits hg hr
  obtain⟨U1,bo,U2,f1,f2,f3,f4⟩:=fin eK CB hq (Rn hg CB (.inl hr))
  cases bo with
  |false =>
   obtain⟨g1,g2⟩:=f3 rfl
   obtain⟨w,hw⟩:=mZ eK CB
   refine dF.l25 (s:Int) zb b (a.length+1) m v1 v2 _ j (j+(n+3)) eK rest u q _ false w j hr f2 rfl (by omega) (by omega) (by omega) (by omega) (by unfold aw;omega) ?_
   rw[show (((j+1:Nat):Int)-1-1)=(j:Int)-1 from by omega]
   exact next U1 w f1 g2 (by omega)
  |true =>
   obtain⟨g1,g0,g2,g3,g4⟩:=f4 rfl
   obtain⟨w,hw⟩:=mZ (eK-1) (by omega)
   refine dF.l24 (s:Int) zb b (a.length+1) m v1 v2 _ j (j+(n+3)) eK rest u q _ true (eK-1) _ w j hr f2 rfl (by omega) g4 (by omega) (by omega) (by omega) (by omega) (by unfold aw;omega) ?_
   rw[show (((j+1:Nat):Int)-1-1)=(j:Int)-1 from by omega]
   exact next U2 w g2 g3 (by omega)
 |succ k ihk =>
  intro eK rest hk XA hg hq Yp
  by_cases hr:4294967296≤rest
  ·have CB:=kn.fits hg hr
   obtain⟨U1,bo,U2,f1,f2,f3,f4⟩:=fin eK CB hq (Rn hg CB (.inl hr))
   cases bo with
   |false =>
    obtain⟨g1,g2⟩:=f3 rfl
    obtain⟨w,hw⟩:=mZ eK CB
    refine dF.l25 (s:Int) zb b (a.length+1) m v1 v2 _ j (j+(n+3)) eK rest u q _ false w j hr f2 rfl (by omega) (by omega) (by omega) (by omega) (by unfold aw;omega) ?_
    rw[show (((j+1:Nat):Int)-1-1)=(j:Int)-1 from by omega]
    exact next U1 w f1 g2 (by omega)
   |true =>
    obtain⟨g1,g0,g2,g3,g4⟩:=f4 rfl
    obtain⟨w,hw⟩:=mZ (eK-1) (by omega)
    refine dF.l24 (s:Int) zb b (a.length+1) m v1 v2 _ j (j+(n+3)) eK rest u q _ true (eK-1) _ w j hr f2 rfl (by omega) g4 (by omega) (by omega) (by omega) (by omega) (by unfold aw;omega) ?_
    rw[show (((j+1:Nat):Int)-1-1)=(j:Int)-1 from by omega]
    exact next U2 w g2 g3 (by omega)
  have X8:=Rm
  have step:∀(Vz:Q<eK),(eK-1)*v1.toNat+(rest+v1.toNat)=head:=by
   intro Vz
   have:eK=(eK-1)+1:=by omega
   rw[this,Nat.add_mul,Nat.one_mul] at hg
   omega
  by_cases Yq:4294967296≤eK
  ·refine dF.xl (s:Int) zb b (a.length+1) m v1 v2 _ j (j+(n+3)) eK rest u q (eK-1) (rest+v1.toNat) (by omega) Yq (by omega) (by omega) ?_
   exact ihk (eK-1) (rest+v1.toNat) (by omega) (by omega) (step (by omega)) (by omega) (by omega)
  ·have Qu:eK*v2.toNat<18446744073709551616:=by have:=Dg (show eK<4294967296 by omega) ZY;omega
   have Hj:rest*2^min 32 64%18446744073709551616%18446744073709551616 ||| lo.toNat%18446744073709551616=rest*4294967296+lo.toNat:=by
    rw[Rl,Nat.mod_mod];exact J5 (by omega) Vx
   by_cases hc:rest*4294967296+lo.toNat<eK*v2.toNat
   ·have Vz:=Xz hg hc
    refine dF.AR (s:Int) zb b (a.length+1) m v1 v2 _ j (j+(n+3)) eK rest u q (eK*v2.toNat) _ n lo (rest*4294967296+lo.toNat) (eK-1) (rest+v1.toNat) (by omega) (by omega) (Nat.mod_eq_of_lt Qu) rfl (by rw[DM];unfold aw;omega) (by rw[DM];omega) (by omega) (wu n lo DK) Hj hc (by omega) (by omega) ?_
    exact ihk (eK-1) (rest+v1.toNat) (by omega) (by omega) (step Vz) (by omega) (by omega)
   ·obtain⟨U1,bo,U2,f1,f2,f3,f4⟩:=fin eK (by omega) hq (Rn hg (by omega) (.inr (by omega)))
    cases bo with
    |false =>
     obtain⟨g1,g2⟩:=f3 rfl
     obtain⟨w,hw⟩:=mZ eK (by omega)
     refine dF.l23 (s:Int) zb b (a.length+1) m v1 v2 _ j (j+(n+3)) eK rest u q (eK*v2.toNat) _ n lo (rest*4294967296+lo.toNat) _ false w j (by omega) (by omega) (Nat.mod_eq_of_lt Qu) rfl (by rw[DM];unfold aw;omega) (by rw[DM];omega) (by omega) (wu n lo DK) Hj (by omega) f2 rfl (by omega) (by omega) (by omega) (by omega) (by unfold aw;omega) ?_
     rw[show (((j+1:Nat):Int)-1-1)=(j:Int)-1 from by omega]
     exact next U1 w f1 g2 (by omega)
    |true =>
     obtain⟨g1,g0,g2,g3,g4⟩:=f4 rfl
     obtain⟨w,hw⟩:=mZ (eK-1) (by omega)
     refine dF.Ol (s:Int) zb b (a.length+1) m v1 v2 _ j (j+(n+3)) eK rest u q (eK*v2.toNat) _ n lo (rest*4294967296+lo.toNat) _ true (eK-1) _ w j (by omega) (by omega) (Nat.mod_eq_of_lt Qu) rfl (by rw[DM];unfold aw;omega) (by rw[DM];omega) (by omega) (wu n lo DK) Hj (by omega) f2 rfl (by omega) g4 (by omega) (by omega) (by omega) (by omega) (by unfold aw;omega) ?_
     rw[show (((j+1:Nat):Int)-1-1)=(j:Int)-1 from by omega]
     exact next U2 w g2 g3 (by omega)
set_option maxHeartbeats 1000000 in
theorem Ro{a b zb v u q:Words}{v1 v2:UInt32}{s n m V N j:Nat}(dv:Dv a b zb v v1 v2 s n m V N)(hj:j+1≤m)(DU:u.length=a.length+1)(D2:q.length=m)(Bi:nat (u.drop (j+1))<V)(hinv:N=nat (q.drop (j+1))*4294967296^(j+1)*V+nat u)
  (ih:∀(u q:Words),u.length=a.length+1→q.length=m→nat (u.drop j)<V→N=nat (q.drop j)*4294967296^j*V+nat u →
   dF.aj (s:Int) zb b (a.length+1) m v1 v2 ((j:Int)-1) u q (.aB [ag (words (nat a/nat b)),ag (words (nat a%nat b))])) :
  dF.aj (s:Int) zb b (a.length+1) m v1 v2 (((j+1:Nat):Int)-1) u q (.aB [ag (words (nat a/nat b)),ag (words (nat a%nat b))]):=by
 have J7:=dv.J7
 have La:=dv.La
 have hm:=dv.hm
 have Gm:=dv.Gm
 have FB:=dv.FB
 have Oo:=dv.Oo
 have Se:=dv.Se
 have Ln:=dv.Ln
 have hv:=dv.hv
 obtain⟨U,hU⟩:∃U,U=(u.drop j).take (n+3):=⟨_,rfl⟩
 obtain⟨A,hA⟩:∃A,A=u.take j:=⟨_,rfl⟩
 obtain⟨C,hC⟩:∃C,C=u.drop (j+(n+3)):=⟨_,rfl⟩
 have PW:U.length=n+3:=by rw[hU];simp;omega
 have Tj:A.length=j:=by rw[hA];simp;omega
 have hu:u=A++(U++C):=by
  rw[hA,hU,hC,show j+(n+3)=j+(n+3) from rfl,←List.drop_drop,List.take_append_drop,List.take_append_drop]
 obtain⟨R,hR⟩:∃R,R=nat (u.drop j):=⟨_,rfl⟩
 obtain⟨x,hx⟩:∃x,u[j]? = some x:=⟨_,List.getElem?_eq_getElem (by omega)⟩
 have XB:R<V*4294967296:=by
  rw[hR,xT hx]
  have h2:=oq x
  omega
 have FC:=Th u j (n+3) (by omega)
 rw[←hU,←hC,←hR] at FC
 have Oq:(4294967296:Nat)^(n+3)=4294967296^(n+2)*4294967296:=Nat.pow_succ ..
 have Vy:nat C=0:=by
  refine Nat.eq_zero_of_not_pos fun hp => ?_
  have h2:=Nat.mul_le_mul_left (4294967296^(n+3)) hp
  omega
 rw[Vy,Nat.mul_zero,Nat.add_zero] at FC
 obtain⟨hi,Ot⟩:∃x,U[n+2]? = some x:=⟨_,List.getElem?_eq_getElem (by omega)⟩
 obtain⟨mi,hmi⟩:∃x,U[n+1]? = some x:=⟨_,List.getElem?_eq_getElem (by omega)⟩
 obtain⟨lo,DK⟩:∃x,U[n]? = some x:=⟨_,List.getElem?_eq_getElem (by omega)⟩
 have h3:=Ri U n PW DK hmi Ot
 have ZZ:=jM (U.take n)
 rw[List.length_take,Nat.min_eq_left (by omega)] at ZZ
 obtain⟨head,T8⟩:∃h,h=hi.toNat*4294967296+mi.toNat:=⟨_,rfl⟩
 rw[←T8,←FC] at h3
 have kn:Kn V R (4294967296^n) v1.toNat v2.toNat head lo.toNat (nat (U.take n)) :=
  ⟨by rw[Oo];omega,by rw[Oo,Nat.add_mul _ 1,Nat.one_mul];omega,h3,ZZ,oq lo,oq v2,Ln,XB⟩
 obtain⟨Q,hQ⟩:∃Q,R/V=Q:=⟨_,rfl⟩
 have Rp:=kn.start
 rw[hQ] at Rp
 have pt:Pt u U A C n j R Q V:=⟨PW,Tj,hu,FC,hQ,Vy,hR,by omega,by omega⟩
 have hAu:nat u=nat A+4294967296^j*R:=by
  have:=qf u j (by omega)
  rw[←hA,←hR] at this;exact this
 have Z0:=oq hi
 have Z1:=oq mi
 have Vx:=oq lo
 have ZX:=oq v1
 have DM:(zb.take b.length).length=n+2:=by rw[←hv];exact Gm
 have Rl:(2:Nat)^min 32 64=4294967296:=by decide
 have wu:∀(k:Nat) (w:UInt32),U[k]? = some w→u[(0+j*1)+k]? = some w:=fun k w hk=>by
  rw[hu,Nat.zero_add,Nat.mul_one,←Tj];exact mL A U C k w hk
 have inner:=Pw dv pt kn hj DU D2 DK (Rk dv pt hj DU D2 hAu hinv ih)
 clear FB Se Oo FC Oq h3 ZZ XB Bi hinv hAu ih
 have hhl:head<18446744073709551616:=by omega
 have Tl:head/v1.toNat≤head:=Nat.div_le_self _ _
 have ZU:=Nat.mod_lt head Ln
 have hz:(hi.toNat*2^min 32 64)%18446744073709551616%18446744073709551616 ||| mi.toNat%18446744073709551616=head:=by
  rw[Rl,Nat.mod_mod,T8];exact J5 Z0 Z1
 refine dF.l10 (s:Int) zb b (a.length+1) m v1 v2 _ u q j (j+(n+3)) hi _ (n+1) mi head (head/v1.toNat) (head%v1.toNat) (by omega) (by rw[DM];unfold aw;omega) (by rw[DM];unfold aw;omega) (by omega) (by rw[DM];omega) (by omega) (by omega) (by omega) (by rw[DM];omega)
  (by rw[DM];exact wu (n+2) hi Ot) rfl (by rw[DM];unfold aw;omega) (by rw[DM];omega) (by omega) (wu (n+1) mi hmi) hz (by omega) (by rw[Nat.mod_eq_of_lt (by omega)]) rfl ?_
 refine inner 4294967296 _ _ (by omega) (by omega) ?_ Rp (by omega)
 have:=Nat.div_add_mod head v1.toNat
 rw[Nat.mul_comm] at this;exact this
set_option maxHeartbeats 1000000 in
theorem j9(a b:Words)(ha:cn a=true)(hb:cn b=true)(dk:b≠[])(La:a.length≤2199023255551)(Vs:b.length≤2199023255552) :
  Cp 219 [ag a,ag b] (.aB [ag (words (nat a/nat b)),ag (words (nat a%nat b))]):=by
 have T9:0<nat b:=xp hb dk
 have vC:=compare a b ha hb (by omega)
 by_cases bH:nat a<nat b
 ·rw[wW (by omega)] at vC
  rw[Nat.div_eq_of_lt bH,Nat.mod_eq_of_lt bH]
  exact dF.e0 a b (-1) _ vC (by omega) (trim a (by omega))
 have VA:0≤iM (nat a) (nat b):=by unfold iM;split<;>(try split)<;>omega
 by_cases h1:b.length=1
 ·obtain⟨v,rfl⟩:∃v,b=[v]:=List.length_eq_one_iff.1 h1
  have hn:nat [v]=v.toNat:=by simp[nat]
  rw[hn] at T9 VA vC ⊢
  have hs:=short a v (by omega) (by omega)
  have ht:=trim [UInt32.ofNat (nat a%v.toNat)] (by simp)
  have Fw:nat [UInt32.ofNat (nat a%v.toNat)]=nat a%v.toNat:=by
   have:=Nat.mod_lt (nat a) T9
   have:=oq v
   simp only[nat,AU];omega
  rw[Fw] at ht
  exact dF.e1 a [v] _ v _ _ _ vC VA rfl rfl hs ht
 obtain⟨n,hn⟩:∃n,b.length=n+2:=⟨b.length-2,by have:=List.length_pos_iff.2 dk;omega⟩
 obtain⟨bt,Z2⟩:∃v,b[n+1]? = some v:=⟨_,List.getElem?_eq_getElem (by omega)⟩
 have Z3:bt.toNat≠0:=(tH (by rw[hn];exact Z2)).1 hb
 have acD:=yR (n:=bt.toNat) (k:=32) (oq bt)
 obtain⟨kb,hkb,acE,acF⟩:=AX Z3
 obtain⟨s,hs⟩:∃s,s=32-blen bt.toNat:=⟨_,rfl⟩
 have J7:s<32:=by omega
 obtain⟨zb,acG,Z4,Z5,_⟩:=up b s Vs J7
 obtain⟨za,Z6,XC,_,Z7⟩:=up a s (by omega) J7
 have hP:=Nat.two_pow_pos s
 have XD:nat b<4294967296^(n+1)*2^(kb+1):=by
  have h2:=eC Z2
  rw[b9 (by omega)] at h2
  have h3:=jM (b.take (n+1))
  rw[List.length_take,Nat.min_eq_left (by omega)] at h3
  have h4:=Nat.mul_le_mul_left (4294967296^(n+1)) (show bt.toNat+1≤2^(kb+1) by omega)
  rw[Nat.mul_add] at h4;omega
 have FB:nat b*2^s<4294967296^(n+2):=by
  have h2:=Nat.mul_lt_mul_of_pos_right XD hP
  have h3:2^(kb+1)*2^s=4294967296:=by rw[←Nat.pow_add,show kb+1+s=32 from by omega]
  rw[Nat.mul_assoc,h3,←Nat.pow_succ] at h2
  exact h2
 obtain⟨v,hv⟩:∃v,v=zb.take b.length:=⟨_,rfl⟩
 have Gm:v.length=n+2:=by rw[hv];simp;omega
 have Iw:nat v=nat b*2^s:=by
  rw[←Z4,hv]
  have h2:=qf zb b.length (by omega)
  have h3:nat (zb.drop b.length)=0:=by
   refine Nat.eq_zero_of_not_pos fun hp => ?_
   have:=Nat.mul_le_mul_left (4294967296^b.length) hp
   rw[hn] at this h2
   omega
  rw[h3] at h2;omega
 obtain⟨V,hV⟩:∃V,V=nat b*2^s:=⟨_,rfl⟩
 rw[←hV] at Iw FB
 have Z8:4294967296^(n+1)≤nat b:=by
  have:=Lm hb dk
  rwa[hn] at this
 have Z9:4294967296^(n+1)≤V:=by
  have:=Nat.mul_le_mul_left (nat b) hP
  omega
 have Ti:0<V:=Nat.lt_of_lt_of_le (Nat.pow_pos (by omega)) Z9
 obtain⟨v1,B0⟩:∃x,v[n+1]? = some x:=⟨_,List.getElem?_eq_getElem (by omega)⟩
 obtain⟨v2,uy⟩:∃x,v[n]? = some x:=⟨_,List.getElem?_eq_getElem (by omega)⟩
 have Oo:=Rj v n Gm uy B0
 rw[Iw] at Oo
 have Se:=jM (v.take n)
 rw[List.length_take,Nat.min_eq_left (by omega)] at Se
 have Ln:0<v1.toNat:=by
  refine Nat.pos_of_ne_zero fun h0 => ?_
  rw[h0] at Oo
  have h2:=oq v2
  have h3:(v2.toNat+1)*4294967296^n≤4294967296*4294967296^n:=Nat.mul_le_mul_right _ h2
  have h4:(4294967296:Nat)^(n+1)=4294967296*4294967296^n:=by rw[Nat.pow_succ,Nat.mul_comm]
  rw[Nat.add_mul] at h3
  simp at Oo
  omega
 have TQ:b.length≤a.length:=by
  refine Nat.le_of_not_lt fun h => ?_
  have h2:=jM a
  have h3:=rj (show a.length≤n+1 by omega)
  omega
 obtain⟨m,hm⟩:∃m,a.length+1=m+(n+2):=⟨a.length+1-(n+2),by omega⟩
 obtain⟨N,hN⟩:∃N,N=nat a*2^s:=⟨_,rfl⟩
 rw[←hN] at XC
 have res:∀q r:Nat,N=q*V+r→r<V→nat a/nat b=q∧r/2^s=nat a%nat b:=by
  intro q r h2 h3
  have h4:N/V=nat a/nat b:=by rw[hN,hV];exact Nat.mul_div_mul_right _ _ hP
  have h5:N%V=nat a%nat b*2^s:=by rw[hN,hV];exact Nat.mul_mod_mul_right _ _ _
  have h6:N/V=q:=by rw[h2,Nat.mul_comm,Nat.mul_add_div Ti,Nat.div_eq_of_lt h3,Nat.add_zero]
  have h7:N%V=r:=by rw[h2,Nat.mul_comm,Nat.mul_add_mod,Nat.mod_eq_of_lt h3]
  refine⟨by rw[←h4,h6],?_⟩
  rw[←h7,h5,Nat.mul_div_cancel _ hP]
 have dv:Dv a b zb v v1 v2 s n m V N:=⟨hv,J7,La,hm,Gm,Iw,FB,Ti,B0,uy,Oo,Se,Ln,res⟩
 have loop:∀(jj:Nat) (u q:Words),jj≤m→u.length=a.length+1→q.length=m→nat (u.drop jj)<V→N=nat (q.drop jj)*4294967296^jj*V+nat u →
   dF.aj (s:Int) zb b (a.length+1) m v1 v2 ((jj:Int)-1) u q (.aB [ag (words (nat a/nat b)),ag (words (nat a%nat b))]):=by
  intro jj
  induction jj with
  |zero =>
   intro u q _ DU D2 Bi hinv
   simp only[List.drop_zero,Nat.pow_zero,Nat.mul_one] at hinv Bi
   obtain⟨e1,e2⟩:=res _ _ hinv Bi
   rw[e1,←e2]
   exact dF.dw (s:Int) zb b (a.length+1) m v1 v2 _ u q _ _ (by omega) D2.symm DU.symm (trim q (by omega)) (down u s (by omega) J7)
  |succ j ih =>
   intro u q hj DU D2 Bi hinv
   exact Ro dv hj DU D2 Bi hinv (fun u q=>ih u q (by omega))
 have DM:(zb.take b.length).length=n+2:=by rw[←hv];exact Gm
 refine dF.e2 a b _ (n+1) bt (s:Int) zb za (a.length+1) m (n+1) v1 n v2 vC VA h1 (by unfold aw;omega) (by omega) Z2 (by rw[hs];exact T6.Hk bt) Z5 (by omega) Z7 (by rw[DM];unfold aw;omega) (by rw[DM];omega) (by omega) (by rw[DM];unfold aw;omega) (by rw[DM];omega) (by rw[←hv];exact B0) (by rw[DM];unfold aw;omega) (by rw[DM];omega) (by rw[←hv];exact uy) (by unfold aw;omega) ?_
 refine loop m za _ (Nat.le_refl _) Z6 (by simp) ?_ ?_
 ·
  have h2:=qf za m (by omega)
  refine Nat.lt_of_not_le fun h => ?_
  have h3:=Nat.mul_le_mul_left (4294967296^m) h
  have h4:4294967296^m*V≤N:=by omega
  have h5:nat a*2^s<4294967296^a.length*2^s:=Nat.mul_lt_mul_of_pos_right (jM a) hP
  have h6:4294967296^m*V=4294967296^m*nat b*2^s:=by rw[hV,Nat.mul_assoc]
  have h7:4294967296^a.length≤4294967296^m*nat b:=by
   have:=Nat.mul_le_mul_left (4294967296^m) Z8
   rw[←Nat.pow_add,show m+(n+1)=a.length from by omega] at this
   exact this
  have h8:=Nat.mul_le_mul_right (2^s) h7
  omega
 ·rw[List.drop_of_length_le (by simp),XC];simp[nat]
end dE
end Go.Proofs.YtllmkadmohkbfaaGreatDoor.Sym
namespace Go.Proofs.YtllmkadmohkbfaaGreatDoor.Sym
open Go Path
set_option linter.unusedVariables false
abbrev wl(i:Int):Nat:=(words i.natAbs).length
theorem b7(i:Int):(whole i).fS.length=wl i:=rfl
theorem kC(i:Int):wl (-i)=wl i:=by unfold wl;rw[Int.natAbs_neg]
theorem oZ{i:Int}{k:Nat}(h:i.natAbs<4294967296^k):wl i≤k:=eY h
theorem Hl(i:Int):i.natAbs<4294967296^wl i:=oA _
theorem Ej(i j:Int):wl (i+j)≤max (wl i) (wl j)+1:=by
 refine oZ ?_
 have h1:=Hl i
 have h2:=Hl j
 have h3:=rj (Nat.le_max_left (wl i) (wl j))
 have h4:=rj (Nat.le_max_right (wl i) (wl j))
 have h5:=Int.natAbs_add_le i j
 rw[Nat.pow_succ]
 omega
theorem ic(i j:Int):wl (i*j)≤wl i+wl j:=by
 refine oZ ?_
 rw[Int.natAbs_mul,Nat.pow_add]
 exact Nat.mul_lt_mul'' (Hl i) (Hl j)
theorem cT(a:aI):wl a.val≤a.fS.length:=by
 unfold wl
 rw[dE.J4]
 cases a.valid<;>simp
namespace dE
def wh(i:Int):Int:=iM i 0
theorem Ou{i:Int}(h:i<0):wh i = -1:=wW h
theorem Ow{i:Int}(h:0<i):wh i=1:=nQ h
theorem Lp:wh 0=0:=rfl
theorem Sign(a:aI)(h:Fit a.fS):Cp 93 [a.pv] (vI (wh a.val)):=by
 have hm:=fS a h
 by_cases h0:a.val=0
 ·rw[h0,Lp]
  exact uK.e0 a _ hm (by rw[h0];rfl)
 ·have hl:(words a.val.natAbs).length≠0:=by rw[Ne,iR];omega
  have hv:a.valid=true:=by
   cases hv:a.valid with
   |true=>rfl
   |false=>exact absurd (by unfold aI.val;rw[hv];rfl) h0
  by_cases hn:a.val<0
  ·rw[Ou hn]
   have:=FW a
   rw[hv,decide_eq_true hn] at this
   exact uK.e1 a _ hm hl (by simpa using this.symm)
  ·rw[Ow (by omega)]
   have:=FW a
   rw[hv,decide_eq_false hn] at this
   exact uK.e2 a _ hm hl (by simpa using this.symm)
theorem jN(a b:aI)(ha:Fit a.fS)(hb:Fit b.fS):Cp 94 [a.pv,b.pv] (vI (iM a.val b.val)):=by
 have h1:=Sign a ha
 have h2:=Sign b hb
 have h3:=fS a ha
 have h4:=fS b hb
 have h5:=neg a ha
 have la:=cT a
 by_cases he:wh a.val=wh b.val
 ·have hc:=compare (words a.val.natAbs) (words b.val.natAbs) (na _) (na _) (by have:(words a.val.natAbs).length≤a.fS.length:=la;omega)
  rw[aZ,aZ] at hc
  unfold wh iM at he
  by_cases hn:a.val<0
  ·have TN:b.val<0:=by
    rw[if_pos hn] at he
    split at he
    ·assumption
    ·split at he<;>omega
   have e:iM a.val b.val = -(iM (a.val.natAbs:Int) (b.val.natAbs:Int)):=by
    unfold iM
    split<;>split<;>(try split)<;>(try split)<;>omega
   rw[e]
   refine tO.e2 a b _ _ _ _ _ _ h1 h2 (by unfold wh iM;exact he) h3 h4 hc h5 (decide_eq_true hn) ?_
   unfold aw iM;split<;>(try split)<;>omega
  ·have TN:¬b.val<0:=by
    intro kI
    rw[if_neg hn,if_pos kI] at he
    split at he<;>omega
   have e:iM a.val b.val=iM (a.val.natAbs:Int) (b.val.natAbs:Int):=by
    unfold iM
    split<;>split<;>(try split)<;>(try split)<;>omega
   rw[e]
   exact tO.e3 a b _ _ _ _ _ _ h1 h2 (by unfold wh iM;exact he) h3 h4 hc h5 (decide_eq_false hn)
 ·by_cases bH:wh a.val<wh b.val
  ·rw[wW (by
    unfold wh iM at bH
    split at bH<;>split at bH<;>(try split at bH)<;>(try split at bH)<;>omega)]
   exact tO.e0 a b _ _ h1 h2 he bH
  ·rw[nQ (by
    unfold wh iM at bH he
    split at bH<;>split at bH<;>(try split at bH)<;>(try split at bH)<;>(simp_all;try omega))]
   exact tO.e1 a b _ _ h1 h2 he (by omega)
theorem Neg(a:aI)(h:Fit a.fS):Cp 169 [a.pv] (Sym.whole (-a.val)).pv:=by
 have h3:=fS a h
 have h5:=neg a h
 have la:=cT a
 have hw:=whole (!decide (a.val<0)) (words a.val.natAbs) (by have:(words a.val.natAbs).length≤a.fS.length:=la;omega)
 have e:(bif !decide (a.val<0) then -(nat (words a.val.natAbs):Int) else (nat (words a.val.natAbs):Int)) = -a.val:=by
  rw[aZ]
  by_cases h:a.val<0
  ·simp[h];omega
  ·simp[h];omega
 rw[e] at hw
 exact E0.e0 a _ _ _ h5 h3 hw
theorem Add(a b:aI)(ha:Fit a.fS)(hb:Fit b.fS):Cp 66 [a.pv,b.pv] (Sym.whole (a.val+b.val)).pv:=by
 have h1:=fS a ha
 have h2:=fS b hb
 have h3:=neg a ha
 have h4:=neg b hb
 have la:(words a.val.natAbs).length≤a.fS.length:=cT a
 have lb:(words b.val.natAbs).length≤b.fS.length:=cT b
 by_cases hs:decide (a.val<0)=decide (b.val<0)
 ·have hp:=plus (words a.val.natAbs) (words b.val.natAbs) (by omega) (by omega)
  rw[aZ,aZ] at hp
  have hl:=eY (n:=a.val.natAbs+b.val.natAbs) (k:=max (words a.val.natAbs).length (words b.val.natAbs).length+1) (by
   have g1:=oA a.val.natAbs
   have g2:=oA b.val.natAbs
   have g3:=rj (Nat.le_max_left (words a.val.natAbs).length (words b.val.natAbs).length)
   have g4:=rj (Nat.le_max_right (words a.val.natAbs).length (words b.val.natAbs).length)
   rw[Nat.pow_succ];omega)
  have hw:=whole (decide (a.val<0)) (words (a.val.natAbs+b.val.natAbs)) (by omega)
  rw[aZ] at hw
  have e:(bif decide (a.val<0) then -((a.val.natAbs+b.val.natAbs:Nat):Int) else ((a.val.natAbs+b.val.natAbs:Nat):Int))=a.val+b.val:=by
   by_cases h:a.val<0
   ·have:b.val<0:=by simpa[h] using hs.symm
    simp[h];omega
   ·have:¬b.val<0:=by simpa[h] using hs.symm
    simp[h];omega
  rw[e] at hw
  exact wG.e0 a b _ _ _ _ _ _ _ h1 h2 h3 h4 hs h3 hp hw
 ·have hc:=compare (words a.val.natAbs) (words b.val.natAbs) (na _) (na _) (by omega)
  rw[aZ,aZ] at hc
  by_cases Ik:b.val.natAbs≤a.val.natAbs
  ·have hl:=less (words a.val.natAbs) (words b.val.natAbs) (by omega) (by rw[aZ,aZ];exact Ik)
   rw[aZ,aZ] at hl
   have hlen:=jy (show a.val.natAbs-b.val.natAbs≤a.val.natAbs by omega)
   have hw:=whole (decide (a.val<0)) (words (a.val.natAbs-b.val.natAbs)) (by omega)
   rw[aZ] at hw
   have e:(bif decide (a.val<0) then -((a.val.natAbs-b.val.natAbs:Nat):Int) else ((a.val.natAbs-b.val.natAbs:Nat):Int))=a.val+b.val:=by
    by_cases h:a.val<0
    ·have:¬b.val<0:=by simpa[h] using hs
     simp[h];omega
    ·have:b.val<0:=by simpa[h] using hs
     simp[h];omega
   rw[e] at hw
   exact wG.e1 a b _ _ _ _ _ _ _ _ h1 h2 h3 h4 hs hc (by unfold iM;split<;>(try split)<;>omega) h3 hl hw
  ·have hl:=less (words b.val.natAbs) (words a.val.natAbs) (by omega) (by rw[aZ,aZ];omega)
   rw[aZ,aZ] at hl
   have hlen:=jy (show b.val.natAbs-a.val.natAbs≤b.val.natAbs by omega)
   have hw:=whole (decide (b.val<0)) (words (b.val.natAbs-a.val.natAbs)) (by omega)
   rw[aZ] at hw
   have e:(bif decide (b.val<0) then -((b.val.natAbs-a.val.natAbs:Nat):Int) else ((b.val.natAbs-a.val.natAbs:Nat):Int))=a.val+b.val:=by
    by_cases h:b.val<0
    ·have:¬a.val<0:=by intro h';simp[h,h'] at hs
     simp[h];omega
    ·have:a.val<0:=by
      refine Classical.byContradiction fun h' => ?_
      simp[h,h'] at hs
     simp[h];omega
   rw[e] at hw
   exact wG.e2 a b _ _ _ _ _ _ _ _ h1 h2 h3 h4 hs hc (by unfold iM;split<;>(try split)<;>omega) h4 hl hw
theorem Sub(a b:aI)(ha:Fit a.fS)(hb:Fit b.fS):Cp 131 [a.pv,b.pv] (Sym.whole (a.val-b.val)).pv:=by
 have h1:=Neg b hb
 have h2:=Add a (Sym.whole (-b.val)) ha (by
  have:=cT b
  show(words (-b.val).natAbs).length≤_
  rw[Int.natAbs_neg]
  have:(words b.val.natAbs).length≤b.fS.length:=this
  omega)
 rw[aD,←Int.sub_eq_add_neg] at h2
 exact EZ.e0 a b _ _ h1 h2
theorem Mul(a b:aI)(ha:Fit a.fS)(hb:Fit b.fS):Cp 95 [a.pv,b.pv] (Sym.whole (a.val*b.val)).pv:=by
 have h1:=fS a ha
 have h2:=fS b hb
 have h3:=neg a ha
 have h4:=neg b hb
 have la:(words a.val.natAbs).length≤a.fS.length:=cT a
 have lb:(words b.val.natAbs).length≤b.fS.length:=cT b
 have ht:=times (words a.val.natAbs) (words b.val.natAbs) (by omega) (by omega)
 rw[aZ,aZ] at ht
 have hl:(words (a.val.natAbs*b.val.natAbs)).length≤(words a.val.natAbs).length+(words b.val.natAbs).length:=by
  have:=ic a.val b.val
  unfold wl at this
  rw[Int.natAbs_mul] at this;exact this
 have hw:=whole (!(decide (a.val<0)==decide (b.val<0))) (words (a.val.natAbs*b.val.natAbs)) (by omega)
 rw[aZ] at hw
 have e:(bif !(decide (a.val<0)==decide (b.val<0)) then -((a.val.natAbs*b.val.natAbs:Nat):Int) else ((a.val.natAbs*b.val.natAbs:Nat):Int))=a.val*b.val:=by
  by_cases h:a.val<0<;>by_cases h':b.val<0<;>simp only[h,h',decide_true,decide_false,beq_self_eq_true,Bool.not_true,cond_false,Bool.not_false,cond_true,show(true==false)=false from rfl,show(false==true)=false from rfl]
  ·rw[←Int.natAbs_mul,Int.natAbs_of_nonneg (Int.mul_nonneg_of_nonpos_of_nonpos (by omega) (by omega))]
  ·rw[←Int.natAbs_mul,Int.ofNat_natAbs_of_nonpos (Int.mul_nonpos_of_nonpos_of_nonneg (by omega) (by omega))];omega
  ·rw[←Int.natAbs_mul,Int.ofNat_natAbs_of_nonpos (Int.mul_nonpos_of_nonneg_of_nonpos (by omega) (by omega))];omega
  ·rw[←Int.natAbs_mul,Int.natAbs_of_nonneg (Int.mul_nonneg (by omega) (by omega))]
 rw[e] at hw
 exact EY.e0 a b _ _ _ _ _ _ h3 h4 h1 h2 ht hw
theorem Of(n:Int)(h:aw n):Cp 67 [vI n] (Sym.whole n).pv:=by
 obtain⟨g1,g2⟩:=h
 have Rl:(2:Nat)^min 32 64=4294967296:=by decide
 have key:∀m:Nat,m=n.natAbs→∃w w1:UInt32,m%4294967296=w.toNat∧m/4294967296%4294967296=w1.toNat∧Cp 136 [(vB (decide (n<0))),(ag [w,w1])] (Sym.whole n).pv:=by
  intro m hm
  obtain⟨w,hw⟩:=mZ (m%4294967296) (by omega)
  obtain⟨w1,FM⟩:=mZ (m/4294967296%4294967296) (by omega)
  refine⟨w,w1,hw.symm,FM.symm,?_⟩
  have:=whole (decide (n<0)) [w,w1] (by simp)
  have e:nat [w,w1]=m:=by simp only[nat,hw,FM];omega
  rw[e,hm] at this
  have e2:(bif decide (n<0) then -(n.natAbs:Int) else (n.natAbs:Int))=n:=by
   by_cases h:n<0
   ·simp[h];omega
   ·simp[h];omega
  rw[e2] at this;exact this
 by_cases hn:n<0
 ·obtain⟨w,w1,q1,q2,q3⟩:=key n.natAbs rfl
  exact BR.e0 n (n%18446744073709551616).toNat n.natAbs w _ w1 _ (by omega) hn (by omega) q1 (by rw[Rl]) q2 q3
 ·obtain⟨w,w1,q1,q2,q3⟩:=key n.natAbs rfl
  exact BR.e1 n n.natAbs w _ w1 _ (by omega) (by omega) q1 (by rw[Rl]) q2 q3
theorem Div(a b:aI)(ha:Fit a.fS)(hb:Fit b.fS)(h0:b.val≠0) :
  Cp 132 [a.pv,b.pv] (.aB [(Sym.whole (a.val/b.val)).pv,(Sym.whole (a.val%b.val)).pv,.aq]):=by
 have h1:=fS a ha
 have h2:=fS b hb
 have h3:=neg a ha
 have h4:=neg b hb
 have la:(words a.val.natAbs).length≤a.fS.length:=cT a
 have lb:(words b.val.natAbs).length≤b.fS.length:=cT b
 have On:(words b.val.natAbs).length≠0:=by rw[Ne,iR];omega
 have T9:0<b.val.natAbs:=by omega
 have hd:=j9 (words a.val.natAbs) (words b.val.natAbs) (na _) (na _) (by intro e;rw[e] at On;simp at On) (by omega) (by omega)
 rw[aZ,aZ] at hd
 have hq:=jy (Nat.div_le_self a.val.natAbs b.val.natAbs)
 have hr:=jy (Nat.le_of_lt (Nat.mod_lt a.val.natAbs T9))
 have Md:=Nat.div_add_mod a.val.natAbs b.val.natAbs
 have ZU:=Nat.mod_lt a.val.natAbs T9
 generalize hQ:a.val.natAbs/b.val.natAbs=q at *
 generalize hR:a.val.natAbs%b.val.natAbs=r at *
 have sb:b.val=if b.val<0 then -(b.val.natAbs:Int) else (b.val.natAbs:Int):=by split<;>omega
 have uniq:∀x y:Int,a.val=b.val*x+y→0≤y→y<b.val.natAbs→a.val/b.val=x∧a.val%b.val=y:=by
  intro x y e1 e2 e3
  rcases Int.lt_or_gt_of_ne h0 with kI|kI
  ·exact(Int.ediv_emod_unique' kI).2 ⟨by omega,e2,by omega⟩
  ·exact(Int.ediv_emod_unique kI).2 ⟨by omega,e2,by omega⟩
 by_cases hn:a.val<0
 ·by_cases IN:r=0
  ·have hw:=whole (!(decide (a.val<0)==decide (b.val<0))) (words q) (by omega)
   have Cx:=whole false (words r) (by omega)
   rw[aZ] at hw Cx
   subst IN
   have e:a.val/b.val=(bif !(decide (a.val<0)==decide (b.val<0)) then -(q:Int) else (q:Int))∧a.val%b.val=0:=by
    refine uniq _ 0 ?_ (by omega) (by omega)
    have AL:(a.val.natAbs:Int)=(b.val.natAbs:Int)*q:=by rw[←Md];simp
    by_cases h':b.val<0
    ·simp only[hn,h',decide_true,beq_self_eq_true,Bool.not_true,cond_false]
     have:(b.val.natAbs:Int) = -b.val:=by omega
     rw[this] at AL
     have:(a.val.natAbs:Int) = -a.val:=by omega
     rw[this,Int.neg_mul] at AL
     omega
    ·simp only[hn,h',decide_true,decide_false,show(true==false)=false from rfl,Bool.not_false,cond_true]
     have:(b.val.natAbs:Int)=b.val:=by omega
     rw[this] at AL
     have:(a.val.natAbs:Int) = -a.val:=by omega
     rw[this] at AL
     rw[Int.mul_neg];omega
   rw[e.1,e.2]
   exact wH.e2 a b _ _ _ _ _ _ _ _ _ h2 On h1 hd h3 (decide_eq_true hn) (by rw[kR];simp) h3 h4 hw Cx
  ·have hp:=plus (words q) [1] (by omega) (by simp)
   have hl:=less (words b.val.natAbs) (words r) (by omega) (by rw[aZ,aZ];omega)
   rw[aZ] at hp
   rw[aZ,aZ] at hl
   have e1:nat [1]=1:=rfl
   rw[e1] at hp
   have o9:=eY (n:=q+1) (k:=(words q).length+1) (by have:=oA q;rw[Nat.pow_succ];omega)
   have FZ:=jy (show b.val.natAbs-r≤b.val.natAbs by omega)
   have hw:=whole (!(decide (a.val<0)==decide (b.val<0))) (words (q+1)) (by omega)
   have Cx:=whole false (words (b.val.natAbs-r)) (by omega)
   rw[aZ] at hw Cx
   have e:a.val/b.val=(bif !(decide (a.val<0)==decide (b.val<0)) then -((q+1:Nat):Int) else ((q+1:Nat):Int))∧a.val%b.val=((b.val.natAbs-r:Nat):Int):=by
    refine uniq _ _ ?_ (by omega) (by omega)
    have AL:(a.val.natAbs:Int)=(b.val.natAbs:Int)*q+r:=by rw[←Md];simp
    by_cases h':b.val<0
    ·simp only[hn,h',decide_true,beq_self_eq_true,Bool.not_true,cond_false]
     have e5:(b.val.natAbs:Int) = -b.val:=by omega
     rw[e5] at AL
     have:(a.val.natAbs:Int) = -a.val:=by omega
     rw[this,Int.neg_mul] at AL
     rw[show ((q+1:Nat):Int)=(q:Int)+1 from by omega,Int.mul_add]
     omega
    ·simp only[hn,h',decide_true,decide_false,show(true==false)=false from rfl,Bool.not_false,cond_true]
     have:(b.val.natAbs:Int)=b.val:=by omega
     rw[this] at AL
     have:(a.val.natAbs:Int) = -a.val:=by omega
     rw[this] at AL
     rw[show ((q+1:Nat):Int)=(q:Int)+1 from by omega,Int.mul_neg,Int.mul_add];omega
   rw[e.1,e.2]
   exact wH.e1 a b _ _ _ _ _ _ _ _ _ _ _ h2 On h1 hd h3 (decide_eq_true hn) (by have:=(iR (n:=r)).1;omega) hp hl h3 h4 hw Cx
 ·have hw:=whole (!(decide (a.val<0)==decide (b.val<0))) (words q) (by omega)
  have Cx:=whole false (words r) (by omega)
  rw[aZ] at hw Cx
  have e:a.val/b.val=(bif !(decide (a.val<0)==decide (b.val<0)) then -(q:Int) else (q:Int))∧a.val%b.val=(r:Int):=by
   refine uniq _ _ ?_ (by omega) (by omega)
   have AL:(a.val.natAbs:Int)=(b.val.natAbs:Int)*q+r:=by rw[←Md];simp
   by_cases h':b.val<0
   ·simp only[hn,h',decide_true,decide_false,show(false==true)=false from rfl,Bool.not_false,cond_true]
    have e5:(b.val.natAbs:Int) = -b.val:=by omega
    rw[e5] at AL
    have:(a.val.natAbs:Int)=a.val:=by omega
    rw[this,Int.neg_mul] at AL
    rw[Int.mul_neg];omega
   ·simp only[hn,h',decide_false,beq_self_eq_true,Bool.not_true,cond_false]
    have:(b.val.natAbs:Int)=b.val:=by omega
    rw[this] at AL
    have:(a.val.natAbs:Int)=a.val:=by omega
    rw[this] at AL
    omega
  rw[e.1,e.2]
  exact wH.e3 a b _ _ _ _ _ _ _ _ _ h2 On h1 hd h3 (decide_eq_false hn) h3 h4 hw Cx
theorem Gcd(a b:aI)(ha:Fit a.fS)(hb:Fit b.fS):Cp 192 [a.pv,b.pv] (Sym.whole (Nat.gcd a.val.natAbs b.val.natAbs)).pv:=by
 have h1:=fS a ha
 have h2:=fS b hb
 have la:(words a.val.natAbs).length≤a.fS.length:=cT a
 have lb:(words b.val.natAbs).length≤b.fS.length:=cT b
 have loop:∀(k x y:Nat),y≤k→(words x).length≤1099511627776→(words y).length≤1099511627776→rA.aj (words x) (words y) (Sym.whole (Nat.gcd x y)).pv:=by
  intro k
  induction k with
  |zero =>
   intro x y hy hx _
   have:y=0:=by omega
   subst this
   have hw:=whole false (words x) (by omega)
   rw[aZ] at hw
   rw[Nat.gcd_zero_right]
   exact rA.dw _ _ _ (by rw[kR];simp) hw
  |succ k ih =>
   intro x y hy hx hyl
   by_cases h0:y=0
   ·subst h0
    have hw:=whole false (words x) (by omega)
    rw[aZ] at hw
    rw[Nat.gcd_zero_right]
    exact rA.dw _ _ _ (by rw[kR];simp) hw
   ·have hy0:(words y).length≠0:=by rw[Ne,iR];exact h0
    have hd:=j9 (words x) (words y) (na _) (na _) (by intro e;rw[e] at hy0;simp at hy0) (by omega) (by omega)
    rw[aZ,aZ] at hd
    have hm:=Nat.mod_lt x (show 0<y by omega)
    refine rA.l10 _ _ _ _ (by omega) hd ?_
    rw[Nat.gcd_comm,Nat.gcd_rec,Nat.gcd_comm]
    exact ih y (x%y) (by omega) hyl (Nat.le_trans (jy (Nat.le_of_lt hm)) hyl)
 exact rA.e0 a b _ _ h1 h2 (loop _ _ _ (Nat.le_refl _) (by omega) (by omega))
end dE
abbrev ws(a:Words):SC := .pure ((a:List UInt32).map ai).flatten
namespace Am
open dE
theorem Valid(a:aI)(h:Fit a.fS):Cp 276 [a.pv] (vB a.valid):=by
 unfold aI.valid
 rw[iw]
 by_cases h0:a.fS.length=0
 ·simp only[h0,decide_true,cond_true]
  exact qw.e0 a h0
 ·simp only[h0,decide_false,cond_false]
  obtain⟨v,hv⟩:∃v,a.fS[a.fS.length-1]? = some v:=⟨_,List.getElem?_eq_getElem (by omega)⟩
  have:=qw.e1 a (a.fS.length-1) v h0 (by unfold aw;omega) (by omega) hv
  have e:cn a.fS=((v.toNat:Int) != 0):=by
   have h1:=tH hv
   by_cases h2:v.toNat=0
   ·have h3:((v.toNat:Int) != 0)=false:=by simp[h2]
    rw[h3]
    cases hc:cn a.fS with
    |true=>exact absurd h2 (h1.1 hc)
    |false=>rfl
   ·have h3:((v.toNat:Int) != 0)=true:=by simp;omega
    rw[h3];exact h1.2 h2
  rw[e];exact this
theorem fS(a:aI)(h:Fit a.fS):Cp 227 [a.pv] (ag (words a.val.natAbs)):=by
 rw[J4]
 cases hv:a.valid with
 |false=>exact rZ.e0 a a.valid (Valid a h) hv
 |true=>exact rZ.e1 a a.valid (Valid a h) hv
theorem neg(a:aI)(h:Fit a.fS):Cp 228 [a.pv] (vB (decide (a.val<0))):=by
 rw[FW]
 cases hv:a.valid with
 |false=>exact r4.e1 a a.valid (Valid a h) hv
 |true=>rw[Bool.true_and];exact r4.e0 a a.valid (Valid a h) hv
theorem trimmed{l:Words}{n:Nat}{v:UInt32}(hv:l[n]? = some v)(h0:v.toNat=0)(hn:n+1=l.length):nat (l.take n)=nat l:=by
 have:=eC hv
 rw[b9 (by omega),h0] at this
 omega
theorem trim(a:Words)(h:a.length≤35184372088832):Cp 277 [ag a] (ag (words (nat a))):=by
 have loop:∀(n:Nat) (l:Words),l.length=n→n≤35184372088832→ki.aj l (ag (words (nat l))):=by
  intro n
  induction n with
  |zero =>
   intro l hl _
   have:l=[]:=List.eq_nil_of_length_eq_zero hl
   subst this
   exact ki.ji [] (by simp)
  |succ n ih =>
   intro l hl hb
   obtain⟨v,hv⟩:∃v,l[n]? = some v:=⟨_,List.getElem?_eq_getElem (by omega)⟩
   by_cases h0:v.toNat=0
   ·refine ki.l10 l n v n (by omega) (by unfold aw;omega) (by omega) (by omega) hv h0 (by omega) (by omega) ?_
    have:=ih (l.take n) (by simp;omega) (by omega)
    rwa[trimmed hv h0 hl.symm] at this
   ·rw[Aj ((tH (v:=v) (by rw[hl];exact hv)).2 h0) rfl]
    exact ki.dw l n v (by omega) (by unfold aw;omega) (by omega) (by omega) hv h0
 exact ki.e0 a (by simp;omega) (loop _ a rfl h)
theorem Ua(a:Words)(h:a.length≤35184372088832):av bT 277 [.pv (ag a)] [] (.row 0 0 (words (nat a)).length 1) [(0,ws (words (nat a)))]:=by
 have loop:∀(n:Nat) (l:Words),l.length=n→n≤35184372088832→jX.aj l [] (.row 0 0 (words (nat l)).length 1) [(0,ws (words (nat l)))]:=by
  intro n
  induction n with
  |zero =>
   intro l hl _
   have:l=[]:=List.eq_nil_of_length_eq_zero hl
   subst this
   exact jX.ji [] rfl rfl (by simp)
  |succ n ih =>
   intro l hl hb
   obtain⟨v,hv⟩:∃v,l[n]? = some v:=⟨_,List.getElem?_eq_getElem (by omega)⟩
   by_cases h0:v.toNat=0
   ·refine jX.l10 l n v n rfl (by omega) (by unfold aw;omega) (by omega) (by omega) hv h0 (by omega) (by omega) ?_
    have:=ih (l.take n) (by simp;omega) (by omega)
    rwa[trimmed hv h0 hl.symm] at this
   ·rw[Aj ((tH (v:=v) (by rw[hl];exact hv)).2 h0) rfl]
    exact jX.dw l n v rfl rfl (by omega) (by unfold aw;omega) (by omega) (by omega) hv h0
 exact jX.e0 a (by simp;omega) (loop _ a rfl h)
theorem cut(a:Words)(h:a.length≤35184372088832):av bT 281 [.row 100000 0 a.length 1] [(100000,ws a)] (.row 100000 0 (words (nat a)).length 1) [(100000,ws (words (nat a)))]:=by
 have loop:∀n:Nat,n≤a.length→nat (a.take n)=nat a→kM.aj n a [(100000,ws a)] (.row 100000 0 (words (nat a)).length 1) [(100000,ws (words (nat a)))]:=by
  intro n
  induction n with
  |zero =>
   intro _ h2
   have:nat a=0:=by rw[←h2];rfl
   rw[this,kR]
   have:=kM.ji 0 a (sin:=[(100000,ws a)]) rfl rfl (Nat.le_refl 0)
   exact this
  |succ n ih =>
   intro h1 h2
   obtain⟨v,hv⟩:∃v,a[n]? = some v:=⟨_,List.getElem?_eq_getElem (by omega)⟩
   by_cases h0:v.toNat=0
   ·refine kM.l10 _ a n v n rfl (by omega) (by unfold aw;omega) (by omega) (by omega) hv h0 (by omega) (by omega) (ih (by omega) ?_)
    rw[eC hv,h0] at h2
    omega
   ·have e:words (nat a)=a.take (n+1):=by
     refine Aj ?_ h2
     refine(tH (v:=v) ?_).2 h0
     rw[List.length_take,Nat.min_eq_left h1,Nat.add_sub_cancel,List.getElem?_take,if_pos (by omega)]
     exact hv
    have:=kM.dw (n+1) a n v (sin:=[(100000,ws a)]) rfl rfl (by omega) (by unfold aw;omega) (by omega) (by omega) hv h0
    rw[e,List.length_take,Nat.min_eq_left h1]
    exact this
 exact kM.e0 a a.length (loop a.length (Nat.le_refl _) (b9 (Nat.le_refl _)))
theorem form(neg:Bool)(m:Words)(h:m.length≤35184372088832):Cp 229 [vB neg,ag m] (Sym.whole (bif neg then -(nat m:Int) else (nat m:Int))).pv:=by
 have ht:=trim m h
 by_cases h0:nat m=0
 ·have:=re.e0 neg m _ ht (by rw[h0,kR];rfl)
  rw[h0]
  cases neg<;>exact this
 ·have hl:(words (nat m)).length≠0:=by rw[Ne,iR];exact h0
  have:=re.e1 neg m _ ht hl
  cases neg with
  |false =>
   have e:decide ((nat m:Int)<0)=false:=by simp
   simp only[Sym.whole,cond_false,e,Int.natAbs_natCast]
   exact this
  |true =>
   have e:decide (-(nat m:Int)<0)=true:=by simp;omega
   simp only[Sym.whole,cond_true,e,Int.natAbs_neg,Int.natAbs_natCast]
   exact this
theorem at'(a:Words)(i:Nat):Cp 278 [ag a,vI (i:Int)] (vU (wd a i)):=by
 unfold wd
 cases h:a[i]? with
 |none =>
  have:=List.getElem?_eq_none_iff.1 h
  exact ta.e1 a i (by omega)
 |some v =>
  have:=(List.getElem?_eq_some_iff.1 h).1
  exact ta.e0 a i i v (by omega) rfl h
theorem atR(a:Words)(i:Nat)(len:Nat)(hl:len=a.length):av bT 278 [.row 100000 0 len 1,.pv (vI (i:Int))] [(100000,ws a)] (.pv (vU (wd a i))) [(100000,ws a)]:=by
 subst hl
 unfold wd
 cases h:a[i]? with
 |none =>
  have:=List.getElem?_eq_none_iff.1 h
  exact r5.e1 a a.length i (by omega)
 |some v =>
  have:=(List.getElem?_eq_some_iff.1 h).1
  exact r5.e0 a a.length i i v (by omega) rfl this h
def Alike(a b:Words)(n:Nat):Prop:=∀q,n≤q→wd a q=wd b q
theorem Rq:∀(n:Nat) (a b:Words),a.length≤n→b.length≤n→(∀q,wd a q=wd b q)→nat a=nat b
 |0,a,b,ha,hb,_=>by
  have h1:a=[]:=List.eq_nil_of_length_eq_zero (by omega)
  have h2:b=[]:=List.eq_nil_of_length_eq_zero (by omega)
  rw[h1,h2]
 |n+1,a,b,ha,hb,h=>by
  have h1:=py a 0
  have h2:=py b 0
  have hw:∀(c:Words) (q:Nat),wd (c.drop 1) q=wd c (q+1):=fun c q=>by unfold wd;rw[List.getElem?_drop,Nat.add_comm]
  have:=Rq n (a.drop 1) (b.drop 1) (by simp;omega) (by simp;omega) (fun q=>by rw[hw,hw];exact h (q+1))
  simp only[List.drop_zero,Nat.zero_add] at h1 h2
  rw[h1,h2,this,h 0]
theorem Hm{a b:Words}{n:Nat}(h:Alike a b n):nat (a.drop n)=nat (b.drop n):=by
 refine Rq (max (a.drop n).length (b.drop n).length) _ _ (Nat.le_max_left _ _) (Nat.le_max_right _ _) (fun q => ?_)
 have:=h (n+q) (by omega)
 unfold wd at this ⊢
 rw[List.getElem?_drop,List.getElem?_drop];exact this
theorem Ox(a:Words)(k:Nat):nat a=nat (a.take k)+4294967296^k*wd a k+4294967296^(k+1)*nat (a.drop (k+1)):=by
 by_cases h:k<a.length
 ·have hv:=List.getElem?_eq_getElem h
  rw[oX hv];exact Ei a k hv
 ·rw[b9 (by omega),Df (by omega),List.drop_of_length_le (by omega),show nat []=0 from rfl,Nat.mul_zero,Nat.mul_zero,Nat.add_zero]
theorem Ek{a b:Words}{k:Nat}(h:Alike a b (k+1))(bH:wd a k<wd b k):nat a<nat b:=by
 rw[Ox a k,Ox b k,Hm h]
 have h1:=jM (a.take k)
 have h2:=rj (show (a.take k).length≤k by simp;omega)
 have h3:4294967296^k*(wd a k+1)≤4294967296^k*wd b k:=Nat.mul_le_mul_left _ bH
 rw[Nat.mul_add] at h3
 omega
theorem El{a b:Words}{n:Nat}(ha:a.length≤n)(hb:b.length≤n):Alike a b n:=fun q hq=>by rw[Df (by omega),Df (by omega)]
theorem Em{a b:Words}(h:Alike a b 0):nat a=nat b:=by
 have:=Hm h
 simpa using this
theorem B2{a b:Words}{n:Nat}(h:Alike a b (n+1))(he:wd a n=wd b n):Alike a b n:=fun q hq=>by
 by_cases Ub:q=n
 ·rw[Ub];exact he
 ·exact h q (by omega)
theorem compare(a b:Words)(ha:a.length<4611686018427387904)(hb:b.length<4611686018427387904):Cp 231 [ag a,ag b] (vI (iM (nat a) (nat b))):=by
 have loop:∀n:Nat,n<4611686018427387904→Alike a b n→gY.aj a b ((n:Int)-1) (vI (iM (nat a) (nat b))):=by
  intro n
  induction n with
  |zero =>
   intro _ hd
   rw[FY (by rw[Em hd])]
   exact gY.oK a b _ (by omega)
  |succ n ih =>
   intro hn hd
   have e:((n+1:Nat):Int)-1=(n:Int):=by omega
   have h1:=at' a n
   have h2:=at' b n
   rw[e]
   by_cases he:wd a n=wd b n
   ·exact gY.ji a b _ _ _ (by omega) h1 h2 he (by unfold aw;omega) (ih (by omega) (B2 hd he))
   ·by_cases bH:wd a n<wd b n
    ·rw[wW (by have:=Ek hd bH;omega)]
     exact gY.l10 a b _ _ _ _ _ (by omega) h1 h2 he h1 h2 bH
    ·rw[nQ (by have:=Ek (a:=b) (b:=a) (fun q hq=>(hd q hq).symm) (show wd b n<wd a n by omega);omega)]
     exact gY.dw a b _ _ _ _ _ (by omega) h1 h2 he h1 h2 (by omega)
 exact gY.e0 a b (by unfold aw;omega) (loop _ (by omega) (El (Nat.le_max_left _ _) (Nat.le_max_right _ _)))
theorem Rr(a b:Words)(len:Nat)(hl:len=a.length)(ha:a.length<4611686018427387904)(hb:b.length<4611686018427387904) :
  av bT 231 [.row 100000 0 len 1,.pv (ag b)] [(100000,ws a)] (.pv (vI (iM (nat a) (nat b)))) [(100000,ws a)]:=by
 have loop:∀n:Nat,n<4611686018427387904→Alike a b n→gF.aj len b ((n:Int)-1) a [(100000,ws a)] (.pv (vI (iM (nat a) (nat b)))) [(100000,ws a)]:=by
  intro n
  induction n with
  |zero =>
   intro _ hd
   rw[FY (by rw[Em hd])]
   exact gF.oK len b _ a rfl rfl (by omega)
  |succ n ih =>
   intro hn hd
   have e:((n+1:Nat):Int)-1=(n:Int):=by omega
   have h1:=atR a n len hl
   have h2:=at' b n
   rw[e]
   by_cases he:wd a n=wd b n
   ·exact gF.ji len b _ a a _ _ rfl (by omega) h1 h2 he (by unfold aw;omega) (ih (by omega) (B2 hd he))
   ·by_cases bH:wd a n<wd b n
    ·rw[wW (by have:=Ek hd bH;omega)]
     exact gF.l10 len b _ a a _ _ a _ _ rfl rfl (by omega) h1 h2 he h1 h2 bH
    ·rw[nQ (by have:=Ek (a:=b) (b:=a) (fun q hq=>(hd q hq).symm) (show wd b n<wd a n by omega);omega)]
     exact gF.dw len b _ a a _ _ a _ _ rfl rfl (by omega) h1 h2 he h1 h2 (by omega)
 exact gF.e0 a len b (by unfold aw;omega) (loop _ (by omega) (El (by omega) (Nat.le_max_right _ _)))
theorem Px(a b:Words)(len vj:Nat)(hl:len=a.length)(o9:vj=b.length)(ha:a.length<4611686018427387904)(hb:b.length<4611686018427387904) :
  av bT 231 [.row 100000 0 len 1,.row 100001 0 vj 1] [(100000,ws a),(100001,ws b)] (.pv (vI (iM (nat a) (nat b)))) [(100000,ws a),(100001,ws b)]:=by
 have loop:∀n:Nat,n<4611686018427387904→Alike a b n→gn.aj len vj ((n:Int)-1) a b [(100000,ws a),(100001,ws b)] (.pv (vI (iM (nat a) (nat b)))) [(100000,ws a),(100001,ws b)]:=by
  intro n
  induction n with
  |zero =>
   intro _ hd
   rw[FY (by rw[Em hd])]
   exact gn.oK len vj _ a b rfl rfl (by omega)
  |succ n ih =>
   intro hn hd
   have e:((n+1:Nat):Int)-1=(n:Int):=by omega
   have h1:=atR a n len hl
   have h2:=atR b n vj o9
   rw[e]
   by_cases he:wd a n=wd b n
   ·exact gn.ji len vj _ a b a _ b _ rfl (by omega) h1 h2 he (by unfold aw;omega) (ih (by omega) (B2 hd he))
   ·by_cases bH:wd a n<wd b n
    ·rw[wW (by have:=Ek hd bH;omega)]
     exact gn.l10 len vj _ a b a _ b _ a _ b _ rfl rfl (by omega) h1 h2 he h1 h2 bH
    ·rw[nQ (by have:=Ek (a:=b) (b:=a) (fun q hq=>(hd q hq).symm) (show wd b n<wd a n by omega);omega)]
     exact gn.dw len vj _ a b a _ b _ a _ b _ rfl rfl (by omega) h1 h2 he h1 h2 (by omega)
 exact gn.e0 a len b vj (by unfold aw;omega) (loop _ (by omega) (El (by omega) (by omega)))
theorem Lq(l:Words)(w:UInt32):nat (l++[w])=nat l+4294967296^l.length*w.toNat:=by
 rw[th];simp[nat]
theorem plus(a b:Words)(ha:a.length≤2199023255552)(hb:b.length≤2199023255552):Cp 230 [ag a,ag b] (ag (words (nat a+nat b))):=by
 have loop:∀(j t carry:Nat) (site:Words),max a.length b.length+1-t=j→t≤max a.length b.length+1→site.length=t→carry≤1 →
   nat site+4294967296^t*carry=nat (a.take t)+nat (b.take t)→lJ.aj a b site carry t (ag (words (nat a+nat b))):=by
  intro j
  induction j with
  |zero =>
   intro t carry site hj ht hs hc hinv
   have CY:t=max a.length b.length+1:=by omega
   have M6:nat site=nat a+nat b:=by
    rw[b9 (by omega),b9 (by omega)] at hinv
    have h1:=jM a
    have h2:=jM b
    have h3:=rj (show a.length≤t-1 by omega)
    have h4:=rj (show b.length≤t-1 by omega)
    have h5:(4294967296:Nat)^t=4294967296^(t-1)*4294967296:=by rw[←Nat.pow_succ];congr 1;omega
    have FX:carry=0:=by
     cases carry with
     |zero=>rfl
     |succ c =>
      have h6:4294967296^t*1≤4294967296^t*(c+1):=Nat.mul_le_mul_left _ (by omega)
      omega
    subst FX;simpa using hinv
   have:=lJ.dw a b site carry t (words (nat site)) (by omega) (trim site (by omega))
   rwa[M6] at this
  |succ j ih =>
   intro t carry site hj ht hs hc hinv
   have h1:=tV a t
   have h2:=tV b t
   obtain⟨w,hw⟩:=mZ ((wd a t+wd b t+carry)%4294967296) (by omega)
   have Rl:(2:Nat)^min 32 64=4294967296:=by decide
   refine lJ.l10 a b site carry t _ _ (wd a t+wd b t) (wd a t+wd b t+carry) w ((wd a t+wd b t+carry)/4294967296) (by omega) (at' a t) (at' b t) (by omega) (by omega) hw.symm (by simp;omega) (by rw[Rl]) (by omega) ?_
   refine ih (t+1) _ (site++[w]) (by omega) (by omega) (by simpa using hs) (by omega) ?_
   rw[Lq,hs,jz a t,jz b t,hw,Nat.pow_succ,Nat.mul_assoc]
   have h6:4294967296^t*((wd a t+wd b t+carry)%4294967296)+4294967296^t*(4294967296*((wd a t+wd b t+carry)/4294967296))=4294967296^t*carry+4294967296^t*wd a t+4294967296^t*wd b t:=by
    rw[←Nat.mul_add,←Nat.mul_add,←Nat.mul_add]
    congr 1
    omega
   omega
 exact lJ.e0 a b (by omega) (loop _ 0 0 _ rfl (by omega) rfl (by omega) (by simp[nat]))
theorem B3{p q borrow:Nat}(hp:p<4294967296)(hq:q<4294967296)(hb:borrow≤1) :
  ∃s d d1 x z nb:Nat,(4294967296+p)%18446744073709551616=s∧((s:Nat)-(q:Nat):Int)%18446744073709551616=(d:Int)∧((d:Nat)-(borrow:Nat):Int)%18446744073709551616=(d1:Int)∧d1%4294967296=x∧d1/2^min 32 64=z ∧
   ((1:Nat)-(z:Nat):Int)%18446744073709551616=(nb:Int)∧nb≤1∧x<4294967296∧x+q+borrow=p+4294967296*nb:=by
 have e:(2:Nat)^min 32 64=4294967296:=by decide
 rw[e]
 refine⟨4294967296+p,4294967296+p-q,4294967296+p-q-borrow,_,_,1-(4294967296+p-q-borrow)/4294967296,by omega,by omega,by omega,rfl,rfl,?_,?_,?_,?_⟩
 ·have h1:(4294967296+p-q-borrow)/4294967296≤1:=by omega
  generalize (4294967296+p-q-borrow)/4294967296=u at h1 ⊢
  omega
 ·omega
 ·omega
 ·by_cases h:q+borrow≤p
  ·have h1:(4294967296+p-q-borrow)/4294967296=1:=by omega
   rw[h1];omega
  ·have h1:(4294967296+p-q-borrow)/4294967296=0:=by omega
   rw[h1];omega
theorem minus(a b:Words)(ha:a.length≤2199023255552)(dK:nat b≤nat a):Cp 232 [ag a,ag b] (ag (words (nat a-nat b))):=by
 have loop:∀(j t borrow:Nat) (site:Words),a.length-t=j→t≤a.length→site.length=t→borrow≤1 →
   nat site+nat (b.take t)=nat (a.take t)+4294967296^t*borrow→kX.aj a b site borrow t (ag (words (nat a-nat b))):=by
  intro j
  induction j with
  |zero =>
   intro t borrow site hj ht hs hc hinv
   have CY:t=a.length:=by omega
   have M6:nat site=nat a-nat b:=by
    subst CY
    rw[b9 (l:=a) (by omega)] at hinv
    have h1:=jM a
    have h2:=jM site
    rw[hs] at h2
    have h3:nat (b.take a.length)=nat b:=by
     by_cases hl:b.length≤a.length
     ·exact b9 hl
     ·have h4:=qf b a.length (by omega)
      have h5:nat (b.drop a.length)=0:=by
       refine Nat.eq_zero_of_not_pos fun hp => ?_
       have:=Nat.mul_le_mul_left (4294967296^a.length) hp
       omega
      rw[h5] at h4;omega
    have On:borrow=0:=by
     refine Nat.eq_zero_of_not_pos fun hp => ?_
     have:=Nat.mul_le_mul_left (4294967296^a.length) hp
     omega
    subst On
    omega
   have:=kX.dw a b site borrow t (words (nat site)) (by omega) (trim site (by omega))
   rwa[M6] at this
  |succ j ih =>
   intro t borrow site hj ht hs hc hinv
   obtain⟨s,d,d1,x,z,nb,g1,g2,g3,g4,g5,g6,g7,g8,g9⟩:=B3 (tV a t) (tV b t) hc
   obtain⟨w,hw⟩:=mZ x g8
   refine kX.l10 a b site borrow t _ s _ d d1 w z nb (by omega) (at' a t) g1 (at' b t) g2 g3 (by omega) (by simp;omega) g5 g6 (by omega) ?_
   refine ih (t+1) nb (site++[w]) (by omega) (by omega) (by simpa using hs) g7 ?_
   rw[Lq,hs,jz a t,jz b t,hw,Nat.pow_succ,Nat.mul_assoc]
   have h6:4294967296^t*x+4294967296^t*wd b t+4294967296^t*borrow=4294967296^t*wd a t+4294967296^t*(4294967296*nb):=by
    rw[←Nat.mul_add,←Nat.mul_add,←Nat.mul_add,g9]
   omega
 exact kX.e0 a b (loop _ 0 0 _ rfl (by omega) rfl (by omega) (by simp[nat]))
theorem Lr{a b U:Words}{borrow:Nat}(hl:U.length=a.length)(dK:nat b≤nat a)(hinv:nat (U.take a.length)+nat (b.take a.length)=nat (a.take a.length)+4294967296^a.length*borrow):nat U=nat a-nat b:=by
 rw[b9 (by omega),b9 (l:=a) (by omega)] at hinv
 have h1:=jM a
 have h2:=jM U
 rw[hl] at h2
 have h3:nat (b.take a.length)=nat b:=by
  by_cases hl:b.length≤a.length
  ·exact b9 hl
  ·have h4:=qf b a.length (by omega)
   have h5:nat (b.drop a.length)=0:=by
    refine Nat.eq_zero_of_not_pos fun hp => ?_
    have:=Nat.mul_le_mul_left (4294967296^a.length) hp
    omega
   rw[h5] at h4;omega
 have On:borrow=0:=by
  refine Nat.eq_zero_of_not_pos fun hp => ?_
  have:=Nat.mul_le_mul_left (4294967296^a.length) hp
  omega
 subst On
 omega
theorem Jb{a b U:Words}{borrow nb t:Nat}{w:UInt32}(ht:t<a.length)(hl:U.length=a.length)(hinv:nat (U.take t)+nat (b.take t)=nat (a.take t)+4294967296^t*borrow)(h:w.toNat+wd b t+borrow=wd a t+4294967296*nb) :
  nat ((U.set t w).take (t+1))+nat (b.take (t+1))=nat (a.take (t+1))+4294967296^(t+1)*nb:=by
 rw[mq (by omega),jz a t,jz b t,Nat.pow_succ,Nat.mul_assoc]
 have h6:4294967296^t*w.toNat+4294967296^t*wd b t+4294967296^t*borrow=4294967296^t*wd a t+4294967296^t*(4294967296*nb):=by
  rw[←Nat.mul_add,←Nat.mul_add,←Nat.mul_add,h]
 omega
theorem AY{l:Words}{t q:Nat}{w:UInt32}(h:q≠t):wd (l.set t w) q=wd l q:=by
 unfold wd
 rw[List.getElem?_set_ne (by omega)]
theorem take(a b:Words)(len:Nat)(hlen:len=a.length)(ha:a.length≤2199023255553)(dK:nat b≤nat a) :
  ∃U:Words,U.length=a.length∧nat U=nat a-nat b∧av bT 280 [.row 100000 0 len 1,.pv (ag b)] [(100000,ws a)] (.pv (.aB [])) [(100000,ws U)]:=by
 subst hlen
 have loop:∀(j t borrow:Nat) (U:Words),a.length-t=j→t≤a.length→U.length=a.length→borrow≤1→(∀q,t≤q→wd U q=wd a q) →
   nat (U.take t)+nat (b.take t)=nat (a.take t)+4294967296^t*borrow →
   ∃V:Words,V.length=a.length∧nat V=nat a-nat b∧lK.aj a.length b borrow t U [(100000,ws a)] (.pv (.aB [])) [(100000,ws V)]:=by
  intro j
  induction j with
  |zero =>
   intro t borrow U hj ht hl hb mQ hinv
   have CY:t=a.length:=by omega
   subst CY
   exact⟨U,hl,Lr hl dK hinv,lK.dw _ b borrow _ U (sin:=[(100000,ws a)]) rfl rfl (Nat.le_refl _)⟩
  |succ j ih =>
   intro t borrow U hj ht hl hb mQ hinv
   obtain⟨s,d,d1,x,z,nb,g1,g2,g3,g4,g5,g6,g7,g8,g9⟩:=B3 (tV a t) (tV b t) hb
   obtain⟨w,hw⟩:=mZ x g8
   obtain⟨V,h1,h2,h3⟩:=ih (t+1) nb (U.set t w) (by omega) (by omega) (by simpa using hl) g7 (fun q hq=>by rw[AY (by omega)];exact mQ q (by omega)) (Jb (by omega) hl hinv (by rw[hw];exact g9))
   refine⟨V,h1,h2,lK.l10 _ b borrow t U U _ s _ d d1 w z nb rfl (by omega) (atR U t a.length hl.symm) (by rw[mQ t (Nat.le_refl t)];exact g1) (at' b t) g2 g3 (by omega) g5 g6 (by omega) (by omega) h3⟩
 obtain⟨V,h1,h2,h3⟩:=loop _ 0 0 a rfl (by omega) rfl (by omega) (fun _ _=>rfl) (by simp[nat])
 exact⟨V,h1,h2,lK.e0 a a.length b h3⟩
theorem XE(a b:Words)(len vj:Nat)(hlen:len=a.length)(XF:vj=b.length)(ha:a.length≤2199023255553)(dK:nat b≤nat a) :
  ∃U:Words,U.length=a.length∧nat U=nat a-nat b∧av bT 280 [.row 100000 0 len 1,.row 100001 0 vj 1] [(100000,ws a),(100001,ws b)] (.pv (.aB [])) [(100000,ws U),(100001,ws b)]:=by
 subst hlen
 have loop:∀(j t borrow:Nat) (U:Words),a.length-t=j→t≤a.length→U.length=a.length→borrow≤1→(∀q,t≤q→wd U q=wd a q) →
   nat (U.take t)+nat (b.take t)=nat (a.take t)+4294967296^t*borrow →
   ∃V:Words,V.length=a.length∧nat V=nat a-nat b∧kZ.aj a.length vj borrow t U b [(100000,ws a),(100001,ws b)] (.pv (.aB [])) [(100000,ws V),(100001,ws b)]:=by
  intro j
  induction j with
  |zero =>
   intro t borrow U hj ht hl hb mQ hinv
   have CY:t=a.length:=by omega
   subst CY
   exact⟨U,hl,Lr hl dK hinv,kZ.dw _ _ borrow _ U b (sin:=[(100000,ws a),(100001,ws b)]) rfl rfl (Nat.le_refl _)⟩
  |succ j ih =>
   intro t borrow U hj ht hl hb mQ hinv
   obtain⟨s,d,d1,x,z,nb,g1,g2,g3,g4,g5,g6,g7,g8,g9⟩:=B3 (tV a t) (tV b t) hb
   obtain⟨w,hw⟩:=mZ x g8
   obtain⟨V,h1,h2,h3⟩:=ih (t+1) nb (U.set t w) (by omega) (by omega) (by simpa using hl) g7 (fun q hq=>by rw[AY (by omega)];exact mQ q (by omega)) (Jb (by omega) hl hinv (by rw[hw];exact g9))
   refine⟨V,h1,h2,kZ.l10 _ _ borrow t U b U _ s b _ d d1 w z nb rfl (by omega) (atR U t a.length hl.symm) (by rw[mQ t (Nat.le_refl t)];exact g1) (atR b t vj XF) g2 g3 (by omega) g5 g6 (by omega) (by omega) h3⟩
 obtain⟨V,h1,h2,h3⟩:=loop _ 0 0 a rfl (by omega) rfl (by omega) (fun _ _=>rfl) (by simp[nat])
 exact⟨V,h1,h2,kZ.e0 a a.length b vj h3⟩
theorem Py{x y:Nat}(hx:x<4294967296)(hy:y<4294967296):((x/2)%18446744073709551616) ||| ((y*2^min 31 64)%18446744073709551616%18446744073709551616)=(y*4294967296+x)/2:=by
 have e:(2:Nat)^min 31 64=2147483648:=by decide
 rw[e,Nat.mod_mod,Nat.mod_eq_of_lt (show x/2<18446744073709551616 by omega),Nat.mod_eq_of_lt (show y*2147483648<18446744073709551616 by omega),Nat.or_comm,Nat.mul_comm y]
 have:=Nat.two_pow_add_eq_or_of_lt (i:=31) (show x/2<2^31 by omega) y
 rw[show (2:Nat)^31=2147483648 from rfl] at this
 rw[←this]
 omega
theorem Pz{a U:Words}{t:Nat}{w:UInt32}(ht:t<a.length)(hl:U.length=a.length)(hinv:nat (U.take t)=(nat a/2)%4294967296^t)(hw:w.toNat=(wd a (t+1)*4294967296+wd a t)/2%4294967296) :
  nat ((U.set t w).take (t+1))=(nat a/2)%4294967296^(t+1):=by
 rw[mq (by omega),hinv,hw]
 have g1:nat a/2/4294967296^t=nat (a.drop t)/2:=by
  rw[Nat.div_div_eq_div_mul,Nat.mul_comm,←Nat.div_div_eq_div_mul,Al a t (by omega)]
 have g2:nat (a.drop t)/2%4294967296=(wd a (t+1)*4294967296+wd a t)/2%4294967296:=by
  rw[py a t,py a (t+1)]
  generalize nat (a.drop (t+1+1))=r
  generalize wd a (t+1)=y
  generalize wd a t=x
  omega
 have g3:=Nat.mod_mul (a:=4294967296^t) (b:=4294967296) (x:=nat a/2)
 rw[Nat.pow_succ,g3,g1,g2]
theorem Dh(a:Words)(len:Nat)(hlen:len=a.length)(ha:a.length≤2199023255553) :
  av bT 279 [.row 100000 0 len 1] [(100000,ws a)] (.row 100000 0 (words (nat a/2)).length 1) [(100000,ws (words (nat a/2)))]:=by
 subst hlen
 have e1:(2:Nat)^min 1 64=2:=by decide
 have loop:∀(j t:Nat) (U:Words),a.length-t=j→t≤a.length→U.length=a.length→(∀q,t≤q→wd U q=wd a q)→nat (U.take t)=(nat a/2)%4294967296^t →
   kY.aj a.length t U [(100000,ws a)] (.row 100000 0 (words (nat a/2)).length 1) [(100000,ws (words (nat a/2)))]:=by
  intro j
  induction j with
  |zero =>
   intro t U hj ht hl mQ hinv
   have CY:t=a.length:=by omega
   subst CY
   rw[b9 (by omega),Nat.mod_eq_of_lt (Nat.lt_of_le_of_lt (Nat.div_le_self _ _) (jM a))] at hinv
   have hc:=cut U (by omega)
   rw[hinv,hl] at hc
   have:=kY.dw a.length a.length U (words (nat a/2)) (words (nat a/2)).length (sin:=[(100000,ws a)]) rfl rfl (Nat.le_refl _) hc
   rw[List.take_of_length_le (Nat.le_refl _)] at this
   exact this
  |succ j ih =>
   intro t U hj ht hl mQ hinv
   have h1:=tV a t
   have h2:=tV a (t+1)
   obtain⟨w,hw⟩:=mZ ((wd a (t+1)*4294967296+wd a t)/2%4294967296) (Nat.mod_lt _ (by omega))
   have hA:=atR U t a.length hl.symm
   have hB:=atR U (t+1) a.length hl.symm
   rw[mQ t (Nat.le_refl t)] at hA
   rw[mQ (t+1) (by omega)] at hB
   refine kY.l10 a.length t U U _ _ U _ _ ((wd a (t+1)*4294967296+wd a t)/2) w rfl (by omega) hA (by rw[e1]) (by omega) hB rfl (Py h1 h2) hw.symm (by omega) ?_
   exact ih (t+1) (U.set t w) (by omega) (by omega) (by simpa using hl) (fun q hq=>by rw[AY (by omega)];exact mQ q (by omega)) (Pz (by omega) hl hinv hw)
 exact kY.e0 a a.length (loop _ 0 a rfl (by omega) rfl (fun _ _=>rfl) (by simp[nat,Nat.mod_one]))
end Am
end Go.Proofs.YtllmkadmohkbfaaGreatDoor.Sym
