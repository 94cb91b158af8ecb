/- The comparison of algebraic numbers is a total order that agrees with the comparison with fractions. The law AlgebraicOrder returns true for every input, with the tables of numerals of the Go library that the row lists as they are laid. -/
import Derived.Test.YtllmkadmohkbfaaGreatDoorM3
import Derived.Test.YtllmkadmohkbfaaGreatDoorM2
import Derived.Test.YtllmkadmohkbfaaGreatDoorRows
import Derived.Test.YtllmkadmohkbfaaGreatDoorCards
import Derived.Test.YtllmkadmohkbfaaGreatDoorTie
import Derived.Deep.DeepHandedRow
import Derived.SevenTiedAt
import Derived.LaidLaws
import Derived.Test.YtllmkadmohkbfaaGreatDoorM0
import Derived.JoinedCond
namespace Go.Proofs.YtllmkadmohkbfaaGreatDoor.Sym
open Go Path bN
set_option linter.unusedVariables false
namespace LM
theorem of(l:List Int)(h:∀n∈l,ax n)(hl:l.length≤1000):Cp 59 [cT fU l] (pq (l.map (fun n=>((n:Int):Rat)))):=by
 have loop:∀d t:Nat,l.length-t=d→t≤l.length→gJ.ah (((l.take t).map (fun n=>((n:Int):Rat))).map aN) l t (pq (l.map (fun n=>((n:Int):Rat)))):=by
  intro d
  induction d with
  |zero =>
   intro t hd ht
   have:t=l.length:=by omega
   subst this
   rw[List.take_length]
   exact gJ.cV _ _ _ (Nat.le_refl _)
  |succ d ih =>
   intro t hd ht
   obtain⟨v,hv⟩:∃v,l[t]? = some v:=⟨_,List.getElem?_eq_getElem (by omega)⟩
   have:=ih (t+1) (by omega) (by omega)
   rw[List.take_add_one,hv] at this
   refine gJ.l10 _ l t v (aN ((v:Int):Rat)) (by omega) hv (Ad.Of v (h v (List.mem_of_getElem? hv))) ?_ (by omega) ?_
   ·rw[List.length_append,List.length_map,List.length_map,List.length_take,List.length_singleton];omega
   ·simpa using this
 exact gJ.e0 l (loop _ 0 rfl (by omega))
def Lo(a:af):Prop:=a.num.length≤1∧a.den.length≤1∧nat a.num≤1000∧nat a.den≤1000
theorem Ih{l:Words}{v:UInt32}(hl:l.length<2)(h:l[0]? = some v):nat l=v.toNat:=by
 match l,hl,h with
 |[w],_,h=>simp at h;subst h;simp[nat]
theorem AR{l:Words}(h:l.length=0):nat l=0:=by rw[List.eq_nil_of_length_eq_zero h];rfl
theorem low(x:af):∃b,Cp 74 [x.pv,vW 1000,vW 1000] (vB b)∧(b=true→Lo x):=by
 have e:(1000:UInt32).toNat=1000:=rfl
 by_cases h1:x.num.length<2
 ·by_cases h2:x.den.length<2
  ·have den:nat x.num≤1000→∀v u:UInt32,x.den[0]? = some u→decide (u.toNat≤(1000:UInt32).toNat)=true→Lo x:=fun h v u hu hd=>⟨by omega,by omega,h,by rw[Ih h2 hu];have:=of_decide_eq_true hd;omega⟩
   by_cases h3:x.num.length=0
   ·have hn:nat x.num≤1000:=by rw[AR h3];omega
    by_cases h4:x.den.length=0
    ·exact⟨_,dy.e0 x _ _ h1 h2 h3 h4,fun _=>⟨by omega,by omega,hn,by rw[AR h4];omega⟩⟩
    ·obtain⟨v,hv⟩:∃v,x.den[0]? = some v:=⟨_,List.getElem?_eq_getElem (by omega)⟩
     exact⟨_,dy.e1 x _ _ v h1 h2 h3 h4 hv,fun h=>den hn v v hv (by have h':=of_decide_eq_true h;exact decide_eq_true (by omega))⟩
   ·obtain⟨v,hv⟩:∃v,x.num[0]? = some v:=⟨_,List.getElem?_eq_getElem (by omega)⟩
    by_cases h5:v.toNat≤(1000:UInt32).toNat
    ·have hn:nat x.num≤1000:=by rw[Ih h1 hv];omega
     by_cases h4:x.den.length=0
     ·exact⟨_,dy.e2 x _ _ v h1 h2 h3 hv h5 h4,fun _=>⟨by omega,by omega,hn,by rw[AR h4];omega⟩⟩
     ·obtain⟨u,hu⟩:∃v,x.den[0]? = some v:=⟨_,List.getElem?_eq_getElem (by omega)⟩
      exact⟨_,dy.e3 x _ _ v u h1 h2 h3 hv h5 h4 hu,fun h=>den hn v u hu (by have h':=of_decide_eq_true h;exact decide_eq_true (by omega))⟩
    ·exact⟨_,dy.e4 x _ _ v h1 h2 h3 hv (by omega),fun h=>by cases h⟩
  ·exact⟨_,dy.e5 x _ _ h1 (by omega),fun h=>by cases h⟩
 ·exact⟨_,dy.e6 x _ _ (by omega),fun h=>by cases h⟩
theorem short(l:List af):∃b,Cp 20 [ae l] (vB b)∧(b=true→l.length≤6∧∀a∈l,Lo a):=by
 by_cases h6:l.length≤6
 ·have loop:∀d t:Nat,l.length-t=d→∃b,dq.ah l t (vB b)∧(b=true→∀a∈l.drop t,Lo a):=by
   intro d
   induction d with
   |zero=>intro t hd;exact⟨true,dq.kI l t (by omega),fun _=>by rw[List.drop_of_length_le (by omega)];intro a ha;cases ha⟩
   |succ d ih =>
    intro t hd
    obtain⟨v,hv⟩:∃v,l[t]? = some v:=⟨_,List.getElem?_eq_getElem (by omega)⟩
    obtain⟨b1,h1,h2⟩:=low v
    cases b1 with
    |false=>exact⟨false,dq.l10 l t v _ (by omega) hv h1 rfl,fun h=>by cases h⟩
    |true =>
     obtain⟨b,g1,g2⟩:=ih (t+1) (by omega)
     refine⟨b,dq.cV l t v _ (by omega) hv h1 rfl (by omega) g1,fun h a ha => ?_⟩
     rw[drop_cons hv] at ha
     rcases List.mem_cons.1 ha with rfl|ha
     ·exact h2 rfl
     ·exact g2 h a ha
  obtain⟨b,h1,h2⟩:=loop _ 0 rfl
  rw[List.drop_zero] at h2
  exact⟨b,dq.e1 l h6 h1,fun h=>⟨h6,h2 h⟩⟩
 ·exact⟨false,dq.e0 l (by omega),fun h=>by cases h⟩
theorem small(l:List aQ)(hl:l.length≤1000):∃b,Cp 11 [cT aQ.cells l] (vB b)∧(b=true→∀a∈l,Sh a∧(∀x∈a.p,Lo x)∧Lo a.rV.lo∧Lo a.rV.hi):=by
 have loop:∀d t:Nat,l.length-t=d→∃b,dw.ah l t (vB b)∧(b=true→∀a∈l.drop t,Sh a∧(∀x∈a.p,Lo x)∧Lo a.rV.lo∧Lo a.rV.hi):=by
  intro d
  induction d with
  |zero=>intro t hd;exact⟨true,dw.ta l t (by omega),fun _=>by rw[List.drop_of_length_le (by omega)];intro a ha;cases ha⟩
  |succ d ih =>
   intro t hd
   obtain⟨v,hv⟩:∃v,l[t]? = some v:=⟨_,List.getElem?_eq_getElem (by omega)⟩
   obtain⟨b1,h1,h2⟩:=short v.p
   cases b1 with
   |false=>exact⟨false,dw.l10 l t v _ (by omega) hv h1 rfl,fun h=>by cases h⟩
   |true =>
    obtain⟨b2,k1,k2⟩:=short [v.rV.lo,v.rV.hi]
    cases b2 with
    |false=>exact⟨false,dw.cV l t v _ _ (by omega) hv h1 rfl k1 rfl,fun h=>by cases h⟩
    |true =>
     obtain⟨b,g1,g2⟩:=ih (t+1) (by omega)
     refine⟨b,dw.kI l t v _ _ (by omega) hv h1 rfl k1 rfl (by omega) g1,fun h a ha => ?_⟩
     rw[drop_cons hv] at ha
     rcases List.mem_cons.1 ha with rfl|ha
     ·obtain⟨p1,p2⟩:=h2 rfl
      obtain⟨q1,q2⟩:=k2 rfl
      have lo:=q2 a.rV.lo (by simp)
      have hi:=q2 a.rV.hi (by simp)
      exact⟨⟨p1,fun x hx=>⟨(p2 x hx).1,(p2 x hx).2.1⟩,⟨lo.1,lo.2.1⟩,⟨hi.1,hi.2.1⟩⟩,p2,lo,hi⟩
     ·exact g2 h a ha
 obtain⟨b,h1,h2⟩:=loop _ 0 rfl
 rw[List.drop_zero] at h2
 exact⟨b,dw.e0 l h1,h2⟩
theorem valid(l:List aQ)(hl:l.length≤1000):∃b,Cp 29 [cT aQ.cells l] (vB b)∧(b=true→∀a∈l,Sh a∧qP a=0):=by
 have loop:∀d t:Nat,l.length-t=d→∃b,dx.ah l t (vB b)∧(b=true→∀a∈l.drop t,Sh a∧qP a=0):=by
  intro d
  induction d with
  |zero=>intro t hd;exact⟨true,dx.ta l t (by omega),fun _=>by rw[List.drop_of_length_le (by omega)];intro a ha;cases ha⟩
  |succ d ih =>
   intro t hd
   obtain⟨v,hv⟩:∃v,l[t]? = some v:=⟨_,List.getElem?_eq_getElem (by omega)⟩
   obtain⟨b1,h1,h2⟩:=small [v] (by simp)
   cases b1 with
   |false=>exact⟨false,dx.l10 l t v _ (by omega) hv h1 rfl,fun h=>by cases h⟩
   |true =>
    have hs:=(h2 rfl v (by simp)).1
    have hc:=Yy.Check hs
    by_cases h0:qP v=0
    ·obtain⟨b,g1,g2⟩:=ih (t+1) (by omega)
     refine⟨b,dx.kI l t v _ _ (by omega) hv h1 rfl hc h0 (by omega) g1,fun h a ha => ?_⟩
     rw[drop_cons hv] at ha
     rcases List.mem_cons.1 ha with rfl|ha
     ·exact⟨hs,h0⟩
     ·exact g2 h a ha
    ·exact⟨false,dx.cV l t v _ _ (by omega) hv h1 rfl hc h0,fun h=>by cases h⟩
 obtain⟨b,h1,h2⟩:=loop _ 0 rfl
 rw[List.drop_zero] at h2
 exact⟨b,dx.e0 l h1,h2⟩
end LM
def Ii(v:Rat):aQ:=iK [-v,1] v v
theorem DK(v x:Rat):bb [-v,1] v v x=fJ v x:=by unfold bb;rw[if_pos rfl]
theorem NH(a:Rat){c:Rat}(h:c≠0):aK [a,c]=false:=decide_eq_false h
theorem NI(a:Rat):aK [a,1]=false:=NH a (by decide)
theorem Qx{v:Rat}(h:ht v≤1):Sh (Ii v)∧qP (Ii v)=0:=by
 have hf:Fl 1 [-v,1]:=fun x hx=>by
  simp at hx
  rcases hx with rfl|rfl
  ·rw[uk];exact h
  ·decide
 have z:=NI (-v)
 have oX:=fW hf
 refine⟨⟨by unfold Ii iK;simp,oX,⟨bk h,bk h⟩⟩,?_⟩
 have hv:bj (Ii v).p=[-v,1]:=dN _
 have hc:n8 [-v,1] (ak [-v,1]):=⟨[],[1],fun x=>by
  have e:ak [-v,1]=[1]:=by
   refine iZ (ba _) (by decide) (fun j => ?_)
   rw[qO]
   match j with
   |0=>show((1:Int):Rat)*1=1;grind
   |j+1=>show _*(0:Rat)=0;grind
  rw[e,dp]
  show(0:Rat)*_+1*1=1
  grind⟩
 have hg:=An z (ba _) hc
 have he:uz (Ii v).p=0:=by
  unfold uz
  rw[show oJ (Ii v).p=0 from eK z (by simp),if_pos rfl,if_neg (by unfold Ii iK;simp)]
 have hi:nT [-v,1] (Ii v).rV=true:=by
  unfold nT
  have e1:(Ii v).rV=pf v v:=rfl
  rw[e1,AB Rat.le_refl,sf Rat.le_refl,si Rat.le_refl,Bool.true_and]
  refine IY ?_
  rw[Fp z (by simp) hc,aT]
  have:evalL [-v,1] v=0:=by show(0*v+1)*v + -v=0;grind
  rw[this,Rat.mul_zero]
 unfold qP
 rw[hv,hg,if_neg (by omega),if_neg (by simp),if_pos hi]
theorem qN.Of{v:Rat}(h:ht v≤1):Cp 26 [(aN v).pv] (Ii v).pv :=
 vM.e0 (aN v) (aN (-v)) (aN 1) (pf v v) (QF.Neg v (by omega)) (rO.Of 1 ⟨by decide,by decide⟩) (Oo.H2 v (by omega))
def M3(s:Int)(a b:aQ):Prop:=(s=0∧GL (bj a.p) (jX a.rV) (l9 a.rV) (bj b.p) (jX b.rV) (l9 b.rV))∨(s = -1∧AX (bj a.p) (jX a.rV) (l9 a.rV) (bj b.p) (jX b.rV) (l9 b.rV))∨(s=1∧AX (bj b.p) (jX b.rV) (l9 b.rV) (bj a.p) (jX a.rV) (l9 a.rV))
abbrev NA(a:aQ):Prop:=gi (bj a.p) (jX a.rV) (l9 a.rV)
theorem M3.swap{s t:Int}{a b:aQ}(A:NA a)(B:NA b)(h:M3 s a b)(k:M3 t b a):s = -t:=by
 have sym:∀{x y:aQ},GL (bj x.p) (jX x.rV) (l9 x.rV) (bj y.p) (jX y.rV) (l9 y.rV)→GL (bj y.p) (jX y.rV) (l9 y.rV) (bj x.p) (jX x.rV) (l9 x.rV):=fun e z=>(e z).symm
 rcases h with ⟨h1,h2⟩|⟨h1,h2⟩|⟨h1,h2⟩<;>rcases k with ⟨k1,k2⟩|⟨k1,k2⟩|⟨k1,k2⟩
 ·omega
 ·exact absurd (sym h2) (mZ B A k2)
 ·exact absurd h2 (mZ A B k2)
 ·exact absurd (sym k2) (mZ A B h2)
 ·exact absurd k2 (vA A B h2)
 ·omega
 ·exact absurd k2 (mZ B A h2)
 ·omega
 ·exact absurd k2 (vA B A h2)
theorem AX.trans{f g k:List Rat}{a b c d e h:Rat}(A:gi f a b)(B:gi g c d)(h1:AX f a b g c d)(h2:AX g c d k e h):AX f a b k e h:=by
 obtain⟨x,x1,x2⟩:=h1
 obtain⟨y,y1,y2⟩:=h2
 exact⟨y,A.mono (B.r6 x2 y1) (by omega),y2⟩
theorem M3.trans{x z w:Int}{a b c:aQ}(A:NA a)(B:NA b)(C:NA c)(h1:M3 x a b)(h2:M3 z b c)(h3:M3 w a c):(x≤0→z≤0→w≤0)∧(x=0→z=w):=by
 have no:∀{p:Prop},AX (bj c.p) (jX c.rV) (l9 c.rV) (bj a.p) (jX a.rV) (l9 a.rV)→AX (bj a.p) (jX a.rV) (l9 a.rV) (bj c.p) (jX c.rV) (l9 c.rV)→p:=fun u v=>absurd v (vA C A u)
 rcases h1 with ⟨a1,a2⟩|⟨a1,a2⟩|⟨a1,a2⟩
 ·
  rcases h2 with ⟨b1,b2⟩|⟨b1,b2⟩|⟨b1,b2⟩<;>rcases h3 with ⟨c1,c2⟩|⟨c1,c2⟩|⟨c1,c2⟩
  ·omega
  ·exact absurd (fun y=>(a2 y).trans (b2 y)) (mZ A C c2)
  ·exact absurd (fun y=>((a2 y).trans (b2 y)).symm) (mZ C A c2)
  ·exact absurd (fun y=>(a2 y).symm.trans (c2 y)) (mZ B C b2)
  ·omega
  ·obtain⟨y,y1,y2⟩:=b2
   exact no c2 ⟨y,by rw[a2 y];exact y1,y2⟩
  ·exact absurd (fun y=>((a2 y).symm.trans (c2 y)).symm) (mZ C B b2)
  ·obtain⟨y,y1,y2⟩:=b2
   exact no ⟨y,y1,by rw[a2 y];exact y2⟩ c2
  ·omega
 ·refine⟨fun _ hz => ?_,fun h=>by omega⟩
  rcases h3 with ⟨c1,c2⟩|⟨c1,c2⟩|⟨c1,c2⟩
  ·omega
  ·omega
  ·rcases h2 with ⟨b1,b2⟩|⟨b1,b2⟩|⟨b1,b2⟩
   ·obtain⟨y,y1,y2⟩:=a2
    exact no c2 ⟨y,y1,by rw[←b2 y];exact y2⟩
   ·exact no c2 (a2.trans A B b2)
   ·omega
 ·exact⟨fun h=>by omega,fun h=>by omega⟩
namespace LM
theorem yb(aw:Cp 12 [] (vB true))(a b c:aQ):Cp 6 [a.pv,b.pv,c.pv] (vB true):=by
 obtain⟨b1,h1,g1⟩:=valid [a,b,c] (by simp)
 cases b1 with
 |false=>exact aO.e0 a b c _ _ h1 rfl aw
 |true =>
  obtain⟨sa,ka⟩:=g1 rfl a (by simp)
  obtain⟨sb,kb⟩:=g1 rfl b (by simp)
  obtain⟨sc,kc⟩:=g1 rfl c (by simp)
  have A:=sa.acc ka
  have B:=sb.acc kb
  have C:=sc.acc kc
  obtain⟨x,x1,x2⟩:=qN.rb sa sb ka kb
  obtain⟨y,y1,y2⟩:=qN.rb sb sa kb ka
  obtain⟨z,z1,z2⟩:=qN.rb sb sc kb kc
  obtain⟨w,w1,w2⟩:=qN.rb sa sc ka kc
  obtain⟨o,o1,o2⟩:=qN.rb sa sa ka ka
  obtain⟨so,ko⟩:=Qx C.h1
  obtain⟨s,s1,s2⟩:=qN.rb sa so ka ko
  have r1:=qN.Qc sa ka (x:=jX c.rV) (by have:=C.h1;omega)
  have ho:=qN.Of C.h1
  have YD:aN (jX c.rV)=c.rV.lo:=by
   have:=congrArg (fun t:aQ=>t.rV.lo) C.e
   exact this.symm
  rw[YD] at r1 ho
  have wP:x = -y:=M3.swap A.w6 B.w6 x2 y2
  have Sx:o=0:=by
   have:=M3.swap A.w6 A.w6 o2 o2
   omega
  have ht:=M3.trans A.w6 B.w6 C.w6 x2 z2 w2
  have CH:bb (bj a.p) (jX a.rV) (l9 a.rV) (jX c.rV)=s:=by
   have ev:bj (Ii (jX c.rV)).p=[-(jX c.rV),1]:=dN _
   have el:jX (Ii (jX c.rV)).rV=jX c.rV:=sf Rat.le_refl
   have eh:l9 (Ii (jX c.rV)).rV=jX c.rV:=si Rat.le_refl
   rw[ev,el,eh] at s2
   generalize jX c.rV=v at *
   rcases s2 with ⟨q1,q2⟩|⟨q1,q2⟩|⟨q1,q2⟩
   ·rw[q2 v,DK,jc,q1]
   ·obtain⟨t,t1,t2⟩:=q2
    rw[DK] at t2
    rw[q1]
    rcases eF v t with m|m|m
    ·omega
    ·omega
    ·exact A.w6.mono m.1 (by omega)
   ·obtain⟨t,t1,t2⟩:=q2
    rw[DK] at t1
    rw[q1]
    rcases eF v t with m|m|m
    ·exact A.w6.lB m.1 (by omega)
    ·omega
    ·omega
  have hy:ax (-y):=by
   unfold ax
   rcases y2 with q|q|q<;>omega
  refine aO.e2 a b c _ _ x none y none z none w none o none _ none (Ii (jX c.rV)) s none h1 rfl aw rfl x1 y1 z1 w1 o1 r1 ho s1 ?_
  refine aO.l10 _ _ _ _ _ _ _ 0 _ _ _ _ _ _ _ (by omega) rfl (by omega) ?_
  refine aO.l10 _ _ _ _ _ _ _ 1 _ _ _ _ _ _ _ (by omega) rfl (by omega) ?_
  refine aO.l10 _ _ _ _ _ _ _ 2 _ _ _ _ _ _ _ (by omega) rfl (by omega) ?_
  refine aO.l10 _ _ _ _ _ _ _ 3 _ _ _ _ _ _ _ (by omega) rfl (by omega) ?_
  refine aO.l10 _ _ _ _ _ _ _ 4 _ _ _ _ _ _ _ (by omega) rfl (by omega) ?_
  refine aO.l10 _ _ _ _ _ _ _ 5 _ _ _ _ _ _ _ (by omega) rfl (by omega) ?_
  refine aO.l10 _ _ _ _ _ _ _ 6 _ _ _ _ _ _ _ (by omega) rfl (by omega) ?_
  by_cases k1:0<x
  ·exact aO.cV x y z w o _ s 7 none none none none none none none (by omega) hy wP Sx CH k1 (by omega)
  ·by_cases k2:0<z
   ·by_cases k3:x=0
    ·have e:(z==w)=true:=beq_iff_eq.2 (ht.2 k3)
     have:=aO.GB x y z w o _ s 7 none none none none none none none (by omega) hy wP Sx CH (by omega) k2 k3
     rwa[e] at this
    ·exact aO.ta x y z w o _ s 7 none none none none none none none (by omega) hy wP Sx CH (by omega) k2 k3
   ·have k4:=ht.1 (by omega) (by omega)
    by_cases k3:x=0
    ·have e:(z==w)=true:=beq_iff_eq.2 (ht.2 k3)
     have:=aO.Vy x y z w o _ s 7 none none none none none none none (by omega) hy wP Sx CH (by omega) (by omega) k4 k3
     rwa[e] at this
    ·exact aO.Vx x y z w o _ s 7 none none none none none none none (by omega) hy wP Sx CH (by omega) (by omega) k4 k3
end LM
end Go.Proofs.YtllmkadmohkbfaaGreatDoor.Sym
namespace Go.Proofs.YtllmkadmohkbfaaGreatDoor.Sym
open Go Path bN
set_option linter.unusedVariables false
namespace LM
theorem WZ:vL 7 6:=by decide +kernel
theorem Ox{q:List Rat}(z:aK q=false)(h0:q≠[])(hl:q.length≤6)(hf:Fl 1 q):dz 7 6 q:=⟨z,h0,hl,(Ch.E7 hf).mono (by omega),by omega,by omega,by decide +kernel⟩
theorem Sy(a b:Rat)(dm:a≤b)(ha:a.num.natAbs<100)(hb:b.num.natAbs<100)(YE:a.den<100)(sk:b.den<100)(s1:(ratT a).size<1000)(s2:(ratT b).size<1000):Cp 60 [(pf a b).pv] (.str (ratT a++ByteArray.mk #[46,46]++ratT b)):=by
 have h1:ht a≤1:=Nat.max_le.2 ⟨eu (by omega),eu (by rw[Int.natAbs_natCast];omega)⟩
 have h2:ht b≤1:=Nat.max_le.2 ⟨eu (by omega),eu (by rw[Int.natAbs_natCast];omega)⟩
 have hc:=Oo.clean (pf a b) (H0 (Nat.le_trans h1 (by omega)) (Nat.le_trans h2 (by omega)))
 rw[sf dm,si dm] at hc
 have e2:(ByteArray.mk #[46,46]).size=2:=rfl
 exact tB.e0 _ (pf a b) _ _ hc (Tf.sj a ha YE) (by omega) (Tf.sj b hb sk) (by rw[ByteArray.size_append];omega)
abbrev Fi:List Rat:=[-2,0,1]
abbrev GU:List Rat:=[-3,0,1]
theorem VC:qL 7 6 Fi=[(-4,0),(0,4)]:=by decide +kernel
theorem VD:qL 7 6 GU=[(-4,0),(0,4)]:=by decide +kernel
def a2:aQ:=iK (bx Fi) 0 4
def a3:aQ:=iK (bx GU) 0 4
theorem SA:bx Fi=Fi:=by decide +kernel
theorem SB:bx GU=GU:=by decide +kernel
theorem NJ:a2=iK Fi 0 4:=by unfold a2;rw[SA]
theorem NK:a3=iK GU 0 4:=by unfold a3;rw[SB]
theorem Cr:bj a2.p=Fi:=by rw[NJ];exact dN _
theorem LN:bj a3.p=GU:=by rw[NK];exact dN _
theorem Ly:jX a2.rV=0:=sf (by decide +kernel)
theorem tg:l9 a2.rV=4:=si (by decide +kernel)
theorem W0:jX a3.rV=0:=sf (by decide +kernel)
theorem Mr:l9 a3.rV=4:=si (by decide +kernel)
theorem SD:Sh a2:=by
 have hf:Fl 1 Fi:=by decide +kernel
 rw[NJ]
 exact⟨by unfold iK;simp,fW hf,⟨bk (by decide +kernel),bk (by decide +kernel)⟩⟩
theorem VE:Sh a3:=by
 have hf:Fl 1 GU:=by decide +kernel
 rw[NK]
 exact⟨by unfold iK;simp,fW hf,⟨bk (by decide +kernel),bk (by decide +kernel)⟩⟩
theorem x8:qP a2=0:=by
 have z:aK Fi=false:=by decide +kernel
 have he:uz a2.p=0:=by
  unfold uz
  rw[show oJ a2.p=0 from by rw[NJ];exact eK z (by simp),if_pos rfl,if_neg (by rw[NJ];unfold iK;simp)]
 have hg:(bX Fi (ak Fi)).length=1:=by decide +kernel
 have hi:nT Fi a2.rV=true:=by
  unfold nT
  rw[show a2.rV=pf 0 4 from rfl,AB (by decide +kernel),sf (by decide +kernel),si (by decide +kernel),Bool.true_and]
  decide +kernel
 unfold qP
 rw[Cr,if_neg (by omega),if_neg (by omega),if_pos hi]
theorem Qy:qP a3=0:=by
 have z:aK GU=false:=by decide +kernel
 have he:uz a3.p=0:=by
  unfold uz
  rw[show oJ a3.p=0 from by rw[NK];exact eK z (by simp),if_pos rfl,if_neg (by rw[NK];unfold iK;simp)]
 have hg:(bX GU (ak GU)).length=1:=by decide +kernel
 have hi:nT GU a3.rV=true:=by
  unfold nT
  rw[show a3.rV=pf 0 4 from rfl,AB (by decide +kernel),sf (by decide +kernel),si (by decide +kernel),Bool.true_and]
  decide +kernel
 unfold qP
 rw[LN,if_neg (by omega),if_neg (by omega),if_pos hi]
theorem VF:bb Fi 0 4 (iJ 1 0)=1:=by decide +kernel
theorem VG:bb Fi 0 4 (iJ 2 0) = -1:=by decide +kernel
theorem Qz:bb Fi 0 4 (iJ 2 1)=1:=by decide +kernel
theorem QA:bb Fi 0 4 (iJ 3 1) = -1:=by decide +kernel
theorem VH:bb GU 0 4 (iJ 2 0) = -1:=by decide +kernel
theorem SE:bb GU 0 4 (iJ 3 1)=1:=by decide +kernel
theorem Oy:Cp 35 [a2.pv,a3.pv] (.aE [vI (-1),.az]):=by
 have A:=(SD.acc x8).w6
 have B:=(VE.acc Qy).w6
 obtain⟨s,s1,s2⟩:=qN.rb SD VE x8 Qy
 have lt:AX (bj a2.p) (jX a2.rV) (l9 a2.rV) (bj a3.p) (jX a3.rV) (l9 a3.rV):=by
  rw[Cr,LN,Ly,tg,W0,Mr]
  exact⟨iJ 3 1,QA,SE⟩
 rcases s2 with ⟨_,q⟩|⟨q,_⟩|⟨_,q⟩
 ·exact absurd q (mZ A B lt)
 ·rw[q] at s1;exact s1
 ·exact absurd q (vA A B lt)
theorem SF:Cp 13 [a2.pv,vI 1] (.aE [(pf 1 (Rat.divInt 3 2)).pv,.az]):=by
 have A:=(SD.acc x8).w6
 obtain⟨n,_,n2,n3,n4⟩:=qN.Vu SD x8 (b:=1) (by omega)
 have e:n=2:=by
  refine AM A n2 n3 ?_ ?_
  ·rw[Cr,Ly,tg,Qz];omega
  ·rw[Cr,Ly,tg];exact QA
 subst e
 rw[Cr,Ly,tg,if_neg (by rw[Qz];omega)] at n4
 rw[show iJ 2 1=1 from by decide +kernel,show iJ (2+1) 1=Rat.divInt 3 2 from by decide +kernel] at n4
 exact n4
theorem QB:Cp 14 [a2.pv,a3.pv] (.aE [(aN (Rat.divInt 3 2)).pv,.az]):=by
 have A:=SD.acc x8
 have B:=VE.acc Qy
 rw[Cr,Ly,tg] at A
 rw[LN,W0,Mr] at B
 have s0:=qN.Ci A B (t:=0) (by omega) (n:=1) (by rw[VF];omega) VG
 have s1:=qN.Ci A B (t:=1) (by omega) (n:=2) (by rw[Qz];omega) QA
 have r:=s0.2 (by show bb GU 0 4 (iJ 2 0)≠1;rw[VH];omega) _ (s1.1 SE)
 rw[show iJ (2+1) 1=Rat.divInt 3 2 from by decide +kernel] at r
 exact dY.e1 a2 a3 _ Oy (by omega) r
theorem n1:numT 1=ByteArray.mk #[49]:=by unfold numT;rw[if_neg (by decide),show(1:Int).natAbs=1 from rfl,sY (by omega)];rfl
theorem n2:numT 2=ByteArray.mk #[50]:=by unfold numT;rw[if_neg (by decide),show(2:Int).natAbs=2 from rfl,sY (by omega)];rfl
theorem n3:numT 3=ByteArray.mk #[51]:=by unfold numT;rw[if_neg (by decide),show(3:Int).natAbs=3 from rfl,sY (by omega)];rfl
theorem t1:ratT 1=ByteArray.mk #[49]:=by unfold ratT;rw[if_pos (by decide),show(1:Rat).num=1 from rfl,n1]
theorem t32:ratT (Rat.divInt 3 2)=ByteArray.mk #[51,47,50]:=by
 have en:(Rat.divInt 3 2).num=3:=by decide +kernel
 have ed:((Rat.divInt 3 2).den:Int)=2:=by decide +kernel
 unfold ratT
 rw[if_neg (by rw[ed];decide),en,ed,n3,n2]
 decide +kernel
theorem SG(q:List Rat)(hl:q.length≤1000)(hf:Fl 68719476736 q):Cp 42 [pq q,pq q] (vB true):=by
 have:=WC.UX (q.map aN) (q.map aN) (by rw[bF];omega) (fun a ha=>by
  obtain⟨x,hx,rfl⟩:=List.mem_map.1 ha
  have:=bk (hf x hx)
  omega)
 rw[IT] at this
 exact nL.e0 _ _ _ this
theorem QC(mi:Cp 38 [(⟨[[aN 2]]⟩:bn).pv,pq [1,1]] (.aE [pq [-1, -2,1],.az])):Cp 12 [] (vB true):=by
 have h2:=of [-2,0,1] (by unfold ax;decide) (by decide)
 have h3:=of [-3,0,1] (by unfold ax;decide) (by decide)
 have g1:=of [2] (by unfold ax;decide) (by decide)
 have g2:=of [1,1] (by unfold ax;decide) (by decide)
 have g3:=of [-1, -2,1] (by unfold ax;decide) (by decide)
 have F2:Fl 1 Fi:=by decide +kernel
 have F3:Fl 1 GU:=by decide +kernel
 have r2:=qN.Ow (Ox (by decide +kernel) (by simp) (by decide) F2) F2.bd WZ
 have r3:=qN.Ow (Ox (by decide +kernel) (by simp) (by decide) F3) F3.bd WZ
 rw[VC] at r2
 rw[VD] at r3
 have x1:=Sy 1 (Rat.divInt 3 2) (by decide +kernel) (by decide +kernel) (by decide +kernel) (by decide +kernel) (by decide +kernel) (by rw[t1];decide) (by rw[t32];decide)
 rw[t1,t32] at x1
 have x2:=Tf.sj (Rat.divInt 3 2) (by decide +kernel) (by decide +kernel)
 rw[t32] at x2
 have sm:=SG [-1, -2,1] (by decide) (by decide +kernel)
 exact mR.e2 _ _ _ _ _ _ _ a2 a3 (-1) (pf 1 (Rat.divInt 3 2)) (aN (Rat.divInt 3 2)) _ _ _ _ h2 r2 h3 r3 g1 g2 mi rfl rfl rfl rfl Oy SF QB rfl x1 (by decide +kernel) x2 rfl g3 sm
end LM
end Go.Proofs.YtllmkadmohkbfaaGreatDoor.Sym
namespace Go.Proofs.YtllmkadmohkbfaaGreatDoor.Sym
open Go Path bN
set_option linter.unusedVariables false
def ef:bn:=⟨[[aN 2]]⟩
abbrev tc(q:List Rat):Prop:=Fl 1073741824 q
theorem tc.fl{q:List Rat}(h:tc q):Fl 68719476736 q:=LD.Sr h (by omega)
namespace LD
theorem SH:Cp 119 [(⟨[]⟩:bn).pv,pq [2]] (vI 1):=by
 have f:Fl 1073741824 [(2:Rat)]:=by decide +kernel
 have s:=w7 [2] (by decide) f
 rw[show NC [2]=[2] from by decide +kernel] at s
 have g:=QF.Sign 2 (by decide +kernel)
 rw[show fJ 2 0=1 from by decide +kernel] at g
 exact AN.e1 ⟨[]⟩ [aN 2] [aN 2] (aN 2) 1 s (by simp) (by simp) (by simp) g
theorem LO:Cp 193 [ef.pv] .az:=by
 have n:=number ⟨[]⟩ [2] (by decide +kernel) (by decide) (Or.inr ⟨0,by decide,rfl⟩)
 exact oS.e1 ef (by decide) (oS.kI ef 0 [aN 2] 1 (by decide) rfl (by omega) (by decide) rfl (by omega) n SH (by omega) (by omega) (oS.GB ef 1 (by decide)))
def Lv(q:List Rat):Prop:=q=[]∨∃k,k≤1∧q.length=2^k
theorem QD{q:List Rat}(f:tc q)(h:Lv q):Cp 194 [ef.pv,pq q] .az:=number ef q (tc.fl f) (by decide) h
theorem DL{p:List Rat}(fp:tc p)(hp:Lv p):Cp 115 [ef.pv,cT (aC af.cells) [p.map aN]] .az :=
 gd.e0 ef _ LO (gd.l10 _ 0 ef (p.map aN) (by simp) rfl (QD fp hp) (by omega) (gd.kI _ 1 ef (by simp)))
theorem sR{p q:List Rat}(fp:tc p)(hp:Lv p)(fq:tc q)(hq:Lv q):Cp 115 [ef.pv,cT (aC af.cells) [p.map aN,q.map aN]] .az :=
 gd.e0 ef _ LO (gd.l10 _ 0 ef (p.map aN) (by simp) rfl (QD fp hp) (by omega) (gd.l10 _ 1 ef (q.map aN) (by simp) rfl (QD fq hq) (by omega) (gd.kI _ 2 ef (by simp))))
theorem QE{q:List Rat}(h:q.length≤1):Lv q:=by
 match q,h with
 |[],_=>exact Or.inl rfl
 |[x],_=>exact Or.inr ⟨0,by omega,rfl⟩
theorem mulC(p q r m:List Rat)(hp:p.length≤1)(hq:q.length≤1)(fp:tc p)(fq:tc q)(hm:Qg p q=m)(lm:m.length≤1)(fm:tc m)(hr:NC m=r):Cp 47 [ef.pv,pq p,pq q] (.aE [pq r,.az]):=by
 subst hr hm
 exact Ck.e0 ef _ _ _ _ (sR fp (QE hp) fq (QE hq)) (Qh ef p q hp hq (tc.fl fp) (tc.fl fq)) (w7 _ lm fm)
theorem NL(p q r m:List Rat)(hp:p.length≤1)(hq:q.length≤1)(fp:tc p)(fq:tc q)(hm:H9 p q=m)(lm:m.length≤1)(fm:tc m)(hr:NC m=r):Cp 48 [ef.pv,pq p,pq q] (.aE [pq r,.az]):=by
 subst hr hm
 exact Cm.e0 ef _ _ _ _ (sR fp (QE hp) fq (QE hq)) (plus p q (by omega) (by omega) (tc.fl fp) (tc.fl fq)) (w7 _ lm fm)
theorem NM(p q r m n:List Rat)(hp:p.length≤1)(hq:q.length≤1)(fp:tc p)(fq:tc q)(hn:q.map (- ·)=n)(fn:tc n)(hm:H9 p n=m)(lm:m.length≤1)(fm:tc m)(hr:NC m=r):Cp 251 [ef.pv,pq p,pq q] (.aE [pq r,.az]):=by
 subst hr hm hn
 exact Cl.e0 ef _ _ _ _ _ (sR fp (QE hp) fq (QE hq)) (minus q (by omega) (tc.fl fq)) (plus p _ (by omega) (by rw[List.length_map];omega) (tc.fl fp) (tc.fl fn)) (w7 _ lm fm)
theorem QG(x:Rat)(h:x≠0)(f:tc [x]):Cp 181 [ef.pv,pq [x]] (.aE [(aN x).pv,vB true]):=by
 have s:=w7 [x] (by simp) f
 rw[show NC [x]=[x] from by unfold NC ya;rw[if_neg (by simp[h])]] at s
 exact Cn.e2 ef [aN x] true [aN x] (aN x) (xK.e0 ef _ (DL f (QE (by simp)))) rfl s (by simp) (by simp) (by simp)
end LD
end Go.Proofs.YtllmkadmohkbfaaGreatDoor.Sym
namespace Go.Proofs.YtllmkadmohkbfaaGreatDoor.Sym
open Go Path bN
set_option linter.unusedVariables false
namespace LD
abbrev Li(l:List Rat):List af:=l.map aN
abbrev cA:List (List af):=[Li [-1],Li [1]]
abbrev cB:List (List af):=[Li [-1],Li [0]]
abbrev cC:List (List af):=[Li [-1, -1],Li [1]]
theorem step(i k:Nat)(p1 p2 q1 q2 a b c d o r:List Rat)(s s':List (List af)){R:PV}
  (hk:k<2) (hi:i<2) (e1:cA[i]? = some (Li p1)) (e2:cA[k]? = some (Li p2)) (e3:cB[i]? = some (Li q1)) (e4:cB[k]? = some (Li q2))
  (hs:s.length=3) (eo:s[i+k]? = some (Li o))
  (m1:Cp 47 [ef.pv,pq p1,pq p2] (.aE [pq a,.az]))
  (m2:Cp 47 [ef.pv,pq q1,pq q2] (.aE [pq b,.az]))
  (m3:Cp 47 [ef.pv,pq b,pq [2]] (.aE [pq c,.az]))
  (m4:Cp 251 [ef.pv,pq a,pq c] (.aE [pq d,.az]))
  (m5:Cp 48 [ef.pv,pq o,pq d] (.aE [pq r,.az]))
  (Io:s.set (i+k) (Li r)=s')
  (hL:cq.lJ cC 1 cA cB 3 i i (k+1) ef s' R):cq.lJ cC 1 cA cB 3 i i k ef s R:=by
 subst Io
 exact cq.US cC 1 cA cB 3 i i k ef s (Li p1) (Li p2) (Li a) (Li q1) (Li q2) (Li b) 0 (Li [2]) (Li c) (Li d) (Li o) (Li r) (by show k<2;exact hk) (by show i<2;exact hi) e1 (by show k<2;exact hk) e2 m1 (by show i<2;exact hi) e3 (by show k<2;exact hk) e4 m2 (by unfold ax;omega) rfl rfl m3 m4 (by omega) (by omega) eo m5 (by omega) (by omega) hL
theorem SI:Cp 180 [ef.pv,cT (aC af.cells) cC,vI 1] (.aE [cT (aC af.cells) [Li [-1],Li [-2],Li [1]],.az]):=by
 have L2:cq.bA cC 1 cA cB 3 0 ef [[],[],[]] (.aE [cT (aC af.cells) [Li [-1],Li [-2],Li [1]],.az]):=by
  refine cq.yj cC 1 cA cB 3 0 ef _ (by decide) ?_
  refine step 0 0 [-1] [-1] [-1] [-1] [1] [1] [2] [-1] [] [-1] _ [Li [-1],[],[]] (by omega) (by omega) rfl rfl rfl rfl rfl rfl
   (mulC _ _ _ [1] (by decide) (by decide) (by decide +kernel) (by decide +kernel) (by decide +kernel) (by decide) (by decide +kernel) (by decide +kernel))
   (mulC _ _ _ [1] (by decide) (by decide) (by decide +kernel) (by decide +kernel) (by decide +kernel) (by decide) (by decide +kernel) (by decide +kernel))
   (mulC _ _ _ [2] (by decide) (by decide) (by decide +kernel) (by decide +kernel) (by decide +kernel) (by decide) (by decide +kernel) (by decide +kernel))
   (NM _ _ _ [-1] [-2] (by decide) (by decide) (by decide +kernel) (by decide +kernel) (by decide +kernel) (by decide +kernel) (by decide +kernel) (by decide) (by decide +kernel) (by decide +kernel))
   (NL _ _ _ [-1] (by decide) (by decide) (by decide +kernel) (by decide +kernel) (by decide +kernel) (by decide) (by decide +kernel) (by decide +kernel)) rfl ?_
  refine step 0 1 [-1] [1] [-1] [0] [-1] [] [] [-1] [] [-1] _ [Li [-1],Li [-1],[]] (by omega) (by omega) rfl rfl rfl rfl rfl rfl
   (mulC _ _ _ [-1] (by decide) (by decide) (by decide +kernel) (by decide +kernel) (by decide +kernel) (by decide) (by decide +kernel) (by decide +kernel))
   (mulC _ _ _ [] (by decide) (by decide) (by decide +kernel) (by decide +kernel) (by decide +kernel) (by decide) (by decide +kernel) (by decide +kernel))
   (mulC _ _ _ [] (by decide) (by decide) (by decide +kernel) (by decide +kernel) (by decide +kernel) (by decide) (by decide +kernel) (by decide +kernel))
   (NM _ _ _ [-1] [] (by decide) (by decide) (by decide +kernel) (by decide +kernel) (by decide +kernel) (by decide +kernel) (by decide +kernel) (by decide) (by decide +kernel) (by decide +kernel))
   (NL _ _ _ [-1] (by decide) (by decide) (by decide +kernel) (by decide +kernel) (by decide +kernel) (by decide) (by decide +kernel) (by decide +kernel)) rfl ?_
  refine cq.WY cC 1 cA cB 3 0 0 2 ef _ (by decide) (by omega) ?_
  refine cq.yj cC 1 cA cB 3 1 ef _ (by decide) ?_
  refine step 1 0 [1] [-1] [0] [-1] [-1] [] [] [-1] [-1] [-2] _ [Li [-1],Li [-2],[]] (by omega) (by omega) rfl rfl rfl rfl rfl rfl
   (mulC _ _ _ [-1] (by decide) (by decide) (by decide +kernel) (by decide +kernel) (by decide +kernel) (by decide) (by decide +kernel) (by decide +kernel))
   (mulC _ _ _ [] (by decide) (by decide) (by decide +kernel) (by decide +kernel) (by decide +kernel) (by decide) (by decide +kernel) (by decide +kernel))
   (mulC _ _ _ [] (by decide) (by decide) (by decide +kernel) (by decide +kernel) (by decide +kernel) (by decide) (by decide +kernel) (by decide +kernel))
   (NM _ _ _ [-1] [] (by decide) (by decide) (by decide +kernel) (by decide +kernel) (by decide +kernel) (by decide +kernel) (by decide +kernel) (by decide) (by decide +kernel) (by decide +kernel))
   (NL _ _ _ [-2] (by decide) (by decide) (by decide +kernel) (by decide +kernel) (by decide +kernel) (by decide) (by decide +kernel) (by decide +kernel)) rfl ?_
  refine step 1 1 [1] [1] [0] [0] [1] [] [] [1] [] [1] _ [Li [-1],Li [-2],Li [1]] (by omega) (by omega) rfl rfl rfl rfl rfl rfl
   (mulC _ _ _ [1] (by decide) (by decide) (by decide +kernel) (by decide +kernel) (by decide +kernel) (by decide) (by decide +kernel) (by decide +kernel))
   (mulC _ _ _ [] (by decide) (by decide) (by decide +kernel) (by decide +kernel) (by decide +kernel) (by decide) (by decide +kernel) (by decide +kernel))
   (mulC _ _ _ [] (by decide) (by decide) (by decide +kernel) (by decide +kernel) (by decide +kernel) (by decide) (by decide +kernel) (by decide +kernel))
   (NM _ _ _ [1] [] (by decide) (by decide) (by decide +kernel) (by decide +kernel) (by decide +kernel) (by decide +kernel) (by decide +kernel) (by decide) (by decide +kernel) (by decide +kernel))
   (NL _ _ _ [1] (by decide) (by decide) (by decide +kernel) (by decide +kernel) (by decide +kernel) (by decide) (by decide +kernel) (by decide +kernel)) rfl ?_
  refine cq.WY cC 1 cA cB 3 1 1 2 ef _ (by decide) (by omega) ?_
  exact cq.Be cC 1 cA cB 3 2 ef _ (by decide) rfl
 refine cq.e0 ef cC 1 0 (by unfold ax;omega) rfl (by omega) (by decide) ?_
 refine cq.l10 cC 1 0 [] [] 0 ef (Li [-1, -1]) 0 (by decide) rfl (by decide) (by decide) (by unfold ax;decide) (by decide) (by decide) (by decide) (by decide) (by decide) (by decide) (by omega) ?_
 refine cq.l10 cC 1 0 _ _ 1 ef (Li [1]) 1 (by decide) rfl (by decide) (by decide) (by unfold ax;decide) (by decide) (by decide) (by decide) (by decide) (by decide) (by decide) (by omega) ?_
 refine cq.cV cC 1 0 _ _ 2 ef 3 (by decide) (by decide) (by unfold ax;decide) (by decide) (by omega) ?_
 exact L2
theorem LP:Cp 38 [ef.pv,pq [1,1]] (.aE [pq [-1, -2,1],.az]):=by
 have f1:tc [1,1]:=by unfold tc;decide +kernel
 have fm:tc [-1, -1]:=by unfold tc;decide +kernel
 have lv:Lv [1,1]:=Or.inr ⟨1,by omega,rfl⟩
 have s1:=LF (a:=Li [1,1]) (k:=1) (by omega) rfl (fun y hy=>by
  have h:y=aN 1:=by simpa using hy
  subst h
  exact⟨by decide +kernel,by decide +kernel⟩)
 rw[show Md (Li [1,1]) 1=Li [1,1] from by unfold Md;rw[if_neg (by decide +kernel)];rfl] at s1
 have s2:=LF (a:=Li [-1, -1]) (k:=1) (by omega) rfl (fun y hy=>by
  have h:y=aN (-1):=by simpa using hy
  subst h
  exact⟨by decide +kernel,by decide +kernel⟩)
 rw[show Md (Li [-1, -1]) 1=Li [-1, -1] from by unfold Md;rw[if_neg (by decide +kernel)];rfl] at s2
 have mi:=minus [1,1] (by decide) (tc.fl f1)
 rw[show ([1,1]:List Rat).map (- ·)=[-1, -1] from by decide +kernel] at mi
 have ng:=Cj.e0 ef (Li [1,1]) _ _ (DL f1 lv) mi s2
 have cp:=copied (Li [1,1]) (by decide) (fun y hy=>by
  have h:y=aN 1:=by simpa using hy
  subst h
  exact⟨by decide +kernel,by decide +kernel⟩)
 have w:=wide [1,1] 2 (by omega)
 have lf:=AQ.e0 ef (Li [1,1]) _ _ (DL f1 lv) cp (by decide) (by decide) w
 have o1:=rO.Of 1 ⟨by decide,by decide⟩
 have sh:=w7 [1] (by decide) (by decide +kernel)
 rw[show NC [1]=[1] from by decide +kernel] at sh
 have to:=Fq.e0 (aN 1) (aN 1) _ (QF.x7 1 (by decide +kernel)) sh
 have tr:=yz.Trim (k:=100) [-1, -2,1] (by decide) (by decide +kernel) (by omega)
 rw[show aJ [-1, -2,1]=[-1, -2,1] from by decide +kernel] at tr
 refine oT.e0 ef (Li [1,1]) _ (Li [-1, -2,1]) none lf ?_
 refine cE.e0 ef _ _ s1 ?_
 refine cE.l10 _ 0 ef (by omega) (by decide) (by decide) (by omega) ?_
 refine cE.cV _ 1 ef _ _ _ (by omega) (by decide) (by decide) ng o1 to ?_
 refine cE.yj cC 1 ef _ (by omega) SI (by unfold ax;omega) ?_
 refine cE.Kt _ _ ef (by omega) ?_
 refine cE.R2 [] _ _ 0 ef (Li [-1]) (aN (-1)) true (by decide) rfl (QG _ (by decide +kernel) (by unfold tc;decide +kernel)) rfl (by decide) (by omega) ?_
 refine cE.R2 _ _ _ 1 ef (Li [-2]) (aN (-2)) true (by decide) rfl (QG _ (by decide +kernel) (by unfold tc;decide +kernel)) rfl (by decide) (by omega) ?_
 refine cE.R2 _ _ _ 2 ef (Li [1]) (aN 1) true (by decide) rfl (QG _ (by decide +kernel) (by unfold tc;decide +kernel)) rfl (by decide) (by omega) ?_
 exact cE.YB _ _ _ 3 ef _ (by decide) tr
end LD
theorem LM.SJ:Cp 12 [] (vB true):=LM.QC LD.LP
theorem LM.AS(a b c:aQ):Cp 6 [a.pv,b.pv,c.pv] (vB true):=LM.yb LM.SJ a b c
end Go.Proofs.YtllmkadmohkbfaaGreatDoor.Sym
namespace Go.Proofs.YtllmkadmohkbfaaGreatDoor.Sym
open Go Go.RowKit Go.ChangeShapes Go.WideShapes Go.ChangeAt
set_option linter.unusedVariables false
namespace RowAlgebraicOrder
theorem own:ownKnob Tryz.prog.godebug=none:=by kernel_rfl
theorem laid:laidOutB bp=true:=by kernel_rfl
theorem LQ{P:Program}{W:World}{base:Nat}{ps:Array TypeId}{args:Array Value}(Bm:∀(j:Nat) t v,ps[j]? = some t→args[j]? = some v→Value.okWide P W .any base t v)(j:Nat){t:TypeId}{v:Value}(h1:ps[j]? = some t)(h2:args[j]? = some v):Value.okWide P W .any base t v:=Bm j t v h1 h2
set_option maxRecDepth 100000 in
theorem LR(H:Type)(enc:TypeId×Value→H)(W:World)(base:Nat)(args:Array Value)(ds gs:List (DataW H))(before:List MemPlace)
  (Bm:∀(j:Nat) t v,Tryz.f6.params[j]? = some t→args[j]? = some v→Value.okWide Tryz.prog W .any base t v)
  (hW:DataW.Whole enc Tryz.prog Tryz.f6.params.toList Rows.algebraicOrderSpec.vars false W args.toList ds gs before)
  (hz:(DataW.weightsEach Tryz.prog (Tryz.f6.params.toList++Rows.algebraicOrderSpec.plain.varTypes Tryz.prog) (ds++gs)).all (·≤reachBytes)=true) :
  Calls Tryz.prog 6 args W fun e W'=>∃v,e = .returned v∧Rows.algebraicOrderSpec.post enc Tryz.prog Tryz.f6 false true false false W args v W':=by
 have YF:=hW
 obtain⟨p,q,hA,hV,rfl,Zc,ye⟩:=hW
 have hp:Tryz.f6.params = #[30,30,30]:=by kernel_rfl
 rw[hp] at hA Bm hz
 obtain⟨v0,Zd,d0,Ze,p0,q0,jz,rfl,rfl,h0,r0⟩:=trodAll_cons hA
 obtain⟨v1,Zf,d1,Zg,p1,q1,rfl,rfl,rfl,h1,r1⟩:=trodAll_cons r0
 obtain⟨v2,Zh,d2,Zi,p2,q2,rfl,rfl,rfl,h2,r2⟩:=trodAll_cons r1
 obtain⟨rfl,rfl,rfl⟩:=trodAll_nil r2
 obtain rfl:args = #[v0,v1,v2]:=by cases args;simp_all
 obtain⟨rfl,rfl⟩:=trodVars_none hV
 obtain⟨n0,UU⟩:=h0
 have Fw:∀k∈d0.weights bp 30,k≤reachBytes:=by
  intro k hk
  have:=List.all_eq_true.1 hz k (DataW.weights_mem_each (j:=0) rfl rfl k hk)
  simpa using this
 obtain⟨x0,NX,b0⟩:=ua enc W 0 (fun _=>true) true n0 _ _ UU Fw
 obtain⟨Zj,Mp,_⟩:=nc (show rD (bp.underlying 30)=some [(23,0),(28,1)] by kernel_rfl)
 have Uj:Value.okWide Tryz.prog W .any base 30 v0:=LQ Bm 0 (by simp) (by simp)
 have VI:Rd (Old W) W x0.pv v0:=wC (P:=Tryz.prog) (cs:=x0.cells) Mp Uj NX
 obtain⟨n1,Ro⟩:=h1
 have Jg:∀k∈d1.weights bp 30,k≤reachBytes:=by
  intro k hk
  have:=List.all_eq_true.1 hz k (DataW.weights_mem_each (j:=1) rfl rfl k hk)
  simpa using this
 obtain⟨x1,PX,b1⟩:=ua enc W 0 (fun _=>true) true n1 _ _ Ro Jg
 obtain⟨Zk,YG,_⟩:=nc (show rD (bp.underlying 30)=some [(23,0),(28,1)] by kernel_rfl)
 have zZ:Value.okWide Tryz.prog W .any base 30 v1:=LQ Bm 1 (by simp) (by simp)
 have VJ:Rd (Old W) W x1.pv v1:=wC (P:=Tryz.prog) (cs:=x1.cells) YG zZ PX
 obtain⟨n2,Jh⟩:=h2
 have zx:∀k∈d2.weights bp 30,k≤reachBytes:=by
  intro k hk
  have:=List.all_eq_true.1 hz k (DataW.weights_mem_each (j:=2) rfl rfl k hk)
  simpa using this
 obtain⟨x2,JU,b2⟩:=ua enc W 0 (fun _=>true) true n2 _ _ Jh zx
 obtain⟨Zl,Cw,_⟩:=nc (show rD (bp.underlying 30)=some [(23,0),(28,1)] by kernel_rfl)
 have BP:Value.okWide Tryz.prog W .any base 30 v2:=LQ Bm 2 (by simp) (by simp)
 have VK:Rd (Old W) W x2.pv v2:=wC (P:=Tryz.prog) (cs:=x2.cells) Cw BP JU
 have hc:=LM.AS x0 x1 x2
 refine(hc.2 (Old W) W (fun _=>none) #[v0,v1,v2] (fun b hb=>hb) (sq _ _ _) rfl ?_).mono ?_
 ·intro j e v he hv
  cases j with
  |zero=>simp at he hv;subst he hv;exact VI
  |succ j =>
   cases j with
   |zero=>simp at he hv;subst he hv;exact VJ
   |succ j =>
    cases j with
    |zero=>simp at he hv;subst he hv;exact VK
    |succ j=>simp at he
 ·intro e W' ⟨v,β',he,_,hk,_,hv,_⟩
  subst he
  have hv:Rd _ W' (vB true) v:=hv
  cases hv
  have It:kx (fun _=>False) W W':=⟨hk.os,hk.tape,hk.output,hk.size,fun k h1 _=>hk.block k h1 (fun ⟨y,hy,_⟩=>absurd hy pZ),hk.shape,hk.drawn⟩
  refine⟨_,rfl,II (tb:=4) YF It rfl (by kernel_rfl) (by kernel_rfl) rfl rfl rfl laid ?_⟩
  rw[hp]
  intro t ht
  have:t=30∨t=30∨t=30:=by simpa using ht
  rcases this with rfl|rfl|rfl
  all_goals exact⟨by kernel_rfl,of_decide_eq_true (by kernel_rfl)⟩
def LS:DataW Unit→Array Value
 |.agg l=>(l.map fun d=>match d with
  |.lit (.int k n)=>Value.int k n
  |_=>Value.nilIface).toArray
 |_ => #[]
def GV(b:Nat)(d:DataW Unit)(h:Array Obj):Array Obj:=h.modify b fun
 |.cells _ t fr => .cells (LS d) t fr
 |o=>o
noncomputable def w8(os:Os):World :=
 { World.holding Tryz.prog os ⟨#[],#[],[]⟩ with heap:=GV 0 Rows.laid_internal_strconv_uint64pow10 (GV 2 Rows.laid_math_bits_deBruijn32tab (GV 3 Rows.laid_math_bits_deBruijn64tab (World.holding Tryz.prog os ⟨#[],#[],[]⟩).heap)) }
theorem LU(os:Os):laidMet Tryz.prog Rows.algebraicOrderRow.laid ((w8 os).forCall (fun _ _=>0) ⟨#[],#[.agg #[.slice none 0 0,.bool false,.slice none 0 0,.slice none 0 0,.bool false,.slice none 0 0,.slice none 0 0],.agg #[.slice none 0 0,.bool false,.slice none 0 0,.slice none 0 0,.bool false,.slice none 0 0,.slice none 0 0],.agg #[.slice none 0 0,.bool false,.slice none 0 0,.slice none 0 0,.bool false,.slice none 0 0,.slice none 0 0]],[]⟩).memory :=
 laidMet_of_run' 8 (by kernel_rfl) (by kernel_rfl)
theorem reads(os:Os){H:Type}(enc:TypeId×Value→H):(DataW.whole enc Tryz.prog ((w8 os).forCall (fun _ _=>0) ⟨#[],#[.agg #[.slice none 0 0,.bool false,.slice none 0 0,.slice none 0 0,.bool false,.slice none 0 0,.slice none 0 0],.agg #[.slice none 0 0,.bool false,.slice none 0 0,.slice none 0 0,.bool false,.slice none 0 0,.slice none 0 0],.agg #[.slice none 0 0,.bool false,.slice none 0 0,.slice none 0 0,.bool false,.slice none 0 0,.slice none 0 0]],[]⟩).memory Tryz.f6.params.toList Rows.algebraicOrderSpec.vars false (#[.agg #[.slice none 0 0,.bool false,.slice none 0 0,.slice none 0 0,.bool false,.slice none 0 0,.slice none 0 0],.agg #[.slice none 0 0,.bool false,.slice none 0 0,.slice none 0 0,.bool false,.slice none 0 0,.slice none 0 0],.agg #[.slice none 0 0,.bool false,.slice none 0 0,.slice none 0 0,.bool false,.slice none 0 0,.slice none 0 0]]:Array Value).toList 8).isSome=true:=by kernel_rfl
set_option maxRecDepth 100000 in
theorem lifted(os:Os)(started:os.Started)(H:Type)(enc:TypeId×Value→H)(F:Stop.Interp) :
  ReturnsInHanded {} Tryz.checked os 6 .any ((OpenSpec.ofChange Rows.algebraicOrderSpec).preRow enc Tryz.prog Tryz.f6 Rows.algebraicOrderRow.domain false Rows.algebraicOrderRow.laid) (((OpenSpec.ofChange Rows.algebraicOrderSpec).at F).post enc Tryz.prog Tryz.f6 false true false false):=by
 obtain⟨x,hx⟩:=Option.isSome_iff_exists.1 (reads os enc)
 refine returnsInHanded_of_row (C:=Tryz.checked) (s:=OpenSpec.ofChange Rows.algebraicOrderSpec) own started (by kernel_rfl) Tryz.func6
  (witness_row_at (enc:=enc) (C:=Tryz.checked) false (w8 os) #[.agg #[.slice none 0 0,.bool false,.slice none 0 0,.slice none 0 0,.bool false,.slice none 0 0,.slice none 0 0],.agg #[.slice none 0 0,.bool false,.slice none 0 0,.slice none 0 0,.bool false,.slice none 0 0,.slice none 0 0],.agg #[.slice none 0 0,.bool false,.slice none 0 0,.slice none 0 0,.bool false,.slice none 0 0,.slice none 0 0]] rfl (by kernel_rfl) (by kernel_rfl) (by kernel_rfl)
   (OpenSpec.preRow_of_cond 8 hx (by kernel_rfl) (fun k hk=>by cases hk) (by kernel_rfl) (LU os))) ?_
 intro W base args ds gs before Bm hW _ _ hz hL _ _
 exact LR H enc W base args ds gs before Bm hW hz
theorem j1:(Rows.algebraicOrderRow.inPlace==Tryz.prog.inPlace 6)=true:=by kernel_rfl
theorem j2:(Rows.algebraicOrderRow.unfollowed==Tryz.prog.unfollowed 6)=true:=by kernel_rfl
theorem j3:(Rows.algebraicOrderRow.recurses==Tryz.prog.recurses 6)=true:=by kernel_rfl
theorem j4:(Rows.algebraicOrderRow.named==Tryz.prog.varsNamed 6)=true:=by kernel_rfl
theorem closed:joinedFacts Tryz.prog 6 Tryz.f6 Rows.algebraicOrderSpec Rows.algebraicOrderRow=true:=by
 unfold joinedFacts
 rw[j1,j2,j3,j4]
 kernel_rfl
set_option maxRecDepth 100000 in
theorem said:Rows.AlgebraicOrderSaid :=
 OpenClaim.holds_of_cond 6 Tryz.f6 rfl rfl rfl rfl rfl rfl rfl ⟨rfl,rfl,rfl,rfl,rfl⟩ rfl rfl rfl rfl rfl (by kernel_rfl) Tryz.func6 closed
  (of_decide_eq_true (by kernel_rfl)) (by unfold Func.isWrapper;first|(rw [if_pos (by decide +kernel)];kernel_rfl)|(rw [if_neg (by decide +kernel)];exact⟨rfl,rfl⟩))
  (fun os started H enc _ F=>by rw[OpenClaim.pre_eq_preRow];exact lifted os started H enc F)
theorem QH(f:FuncId)(fn:Func)(hf:Tryz.pinned.checked.prog.funcNamed Rows.algebraicOrderRow.func=some f)(YH:Tryz.pinned.checked.prog.funcs[f]? = some fn) :
  true=Tryz.pinned.checked.prog.looks []∧∀(j:Nat) t,fn.params[j]? = some t→Tryz.pinned.checked.prog.wantsStandIn t=false:=by
 obtain rfl:f=6:=Option.some.inj ((show Tryz.prog.funcNamed Rows.algebraicOrderRow.func=some 6 by kernel_rfl).symm.trans hf) |>.symm
 obtain rfl:fn=Tryz.f6:=(Option.some.inj (Tryz.func6.symm.trans YH)).symm
 refine⟨by kernel_rfl,fun j t ht => ?_⟩
 have hp:Tryz.f6.params = #[30,30,30]:=by kernel_rfl
 rw[hp] at ht
 have:t=30∨t=30∨t=30:=by simpa using Array.mem_of_getElem? ht
 rcases this with rfl|rfl|rfl
 all_goals exact(show Tryz.prog.wantsStandIn _=false by kernel_rfl)
theorem proved:Rows.AlgebraicOrderCardSaid :=
 Claim7.holds_tied_plain_at .later [] _ _ _ _ said (fun _ h=>by cases h) (by kernel_rfl) (fun _ h=>by cases h) algebraicOrder_row_tie rfl ⟨rfl,rfl⟩ (by kernel_rfl) rfl QH (by kernel_rfl)
end RowAlgebraicOrder
end Go.Proofs.YtllmkadmohkbfaaGreatDoor.Sym
