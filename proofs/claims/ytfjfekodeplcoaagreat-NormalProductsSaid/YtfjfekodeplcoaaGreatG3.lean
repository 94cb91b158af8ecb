/- Lemmas for the statements of this seat. -/
import Derived.Test.YtfjfekodeplcoaaGreatG2
import Derived.Test.YtfjfekodeplcoaaGreatP3
import Derived.Test.YtfjfekodeplcoaaGreatG0
import Derived.Test.YtfjfekodeplcoaaGreatWSymM
import Derived.Shelf.SlSortCmp.InsertionK
import Derived.Sort.AssemblyPlain
import Derived.Shelf.SlicesE.Clone
namespace Go.Proofs.YtfjfekodeplcoaaGreat.Sym
open Go Path fB
set_option linter.unusedVariables false
theorem DQ{a:aK}(h1:a.num.length=0)(h2:a.den.length=0):a.valid = !a.neg:=by
 unfold aK.valid;rw[df,df,decide_eq_true h1,decide_eq_true h2];rfl
theorem DR{a:aK}(h1:a.num.length=0)(h2:a.den.length≠0):a.valid=false:=by
 unfold aK.valid;rw[df,df,decide_eq_true h1,decide_eq_false h2];rfl
theorem DS{a:aK}(h1:a.num.length≠0)(h2:a.den.length=0):a.valid=false:=by
 unfold aK.valid;rw[df,df,decide_eq_false h1,decide_eq_true h2];rfl
theorem DT{a:aK}(h1:a.num.length≠0)(h2:a.den.length≠0):a.valid=(cn a.num&&(cn a.den&&Nat.beq (Nat.gcd (nat a.num) (nat a.den)) 1)):=by
 unfold aK.valid;rw[df,df,decide_eq_false h1,decide_eq_false h2];rfl
theorem ui{m:Words}(h:m.length≠0):(⟨false,m⟩:aC).valid=cn m:=by
 unfold aC.valid
 rw[df,decide_eq_false h];rfl
theorem vq{m:Words}(h:m.length≠0)(hc:cn m=true):(⟨false,m⟩:aC).val=(nat m:Int):=by
 unfold aC.val
 rw[ui h,hc];rfl
theorem Gs(g:Nat):(dW (g:Int) 1==0)=Nat.beq g 1:=by
 by_cases h:g=1
 ·subst h;rfl
 ·rw[vo.2 h]
  unfold dW
  split
  ·rfl
  ·rw[if_neg (by omega)];rfl
theorem DU{a:aK}(hv:a.valid=true)(h0:a.num.length≠0):Sym.whole a.val.num=⟨a.neg,a.num⟩∧Sym.whole (a.val.den:Int)=⟨false,a.den⟩:=by
 have N8:a.num≠[]:=by intro e;rw[e] at h0;exact h0 rfl
 obtain⟨g1,g2,g3,g4⟩:=mG hv N8
 obtain⟨e1,e2⟩:=sL hv N8
 have hp:=pA g2 N8
 rw[e1,e2]
 refine⟨?_,?_⟩
 ·unfold Sym.whole
  cases hn:a.neg
  ·simp only[cond_false,Int.natAbs_natCast,eK g2,aC.mk.injEq,and_true,decide_eq_false_iff_not];omega
  ·simp only[cond_true,Int.natAbs_neg,Int.natAbs_natCast,eK g2,aC.mk.injEq,and_true,decide_eq_true_eq];omega
 ·unfold Sym.whole
  simp only[Int.natAbs_natCast,eK g3,aC.mk.injEq,and_true,decide_eq_false_iff_not];omega
theorem wJ{a b:Int}{k:Nat}(ha:wl a≤k)(hb:wl b≤k):wl ((Nat.gcd a.natAbs b.natAbs:Nat):Int)≤k:=by
 by_cases h:b=0
 ·subst h
  rw[Int.natAbs_zero,Nat.gcd_zero_right]
  show(words _).length≤k
  rw[Int.natAbs_natCast];exact ha
 ·exact Nat.le_trans (uf (by rw[Int.natAbs_natCast];exact Nat.le_of_dvd (by omega) (Nat.gcd_dvd_right _ _))) hb
theorem formed{n d:Int}(hn:n≠0)(hd:0<d)(g:Nat)(hg:g=Nat.gcd n.natAbs d.natAbs):gN (Rat.divInt n d)=⟨decide (n/(g:Int)<0),(Sym.whole (n/(g:Int))).cP,(Sym.whole (d/(g:Int))).cP⟩:=by
 obtain⟨e1,e2⟩:=Cu (n:=n) hd g hg
 have iO:Rat.divInt n d≠0:=by
  intro e
  rw[e] at e1
  have e1:(0:Int)=n/(g:Int):=e1
  have h1:(g:Int)∣n:=by rw[hg];exact Int.ofNat_dvd_left.2 (Nat.gcd_dvd_left _ _)
  have:=Int.ediv_mul_cancel h1
  rw[←e1] at this
  omega
 rw[pB iO,e1]
 unfold Sym.whole
 simp only[aK.mk.injEq,true_and]
 rw[←e2,Int.natAbs_natCast]
theorem Aa{n:Int}(hn:n≠0)(g:Nat)(hg:g∣n.natAbs):decide (n/(g:Int)<0)=decide (n<0)∧(n/(g:Int)).natAbs=((n.natAbs:Int)/(g:Int)).natAbs:=by
 have h1:(g:Int)∣n:=Int.ofNat_dvd_left.2 hg
 have h2:=Int.ediv_mul_cancel h1
 have Db:0<g:=Nat.pos_of_dvd_of_pos hg (by omega)
 refine⟨?_,?_⟩
 ·congr 1
  refine propext ⟨fun h => ?_,fun h => ?_⟩
  ·have:=Int.mul_neg_of_neg_of_pos h (show (0:Int)<g by omega)
   omega
  ·exact Int.ediv_neg_of_neg_of_pos h (by omega)
 ·rw[Int.natAbs_ediv_of_dvd h1,Int.natAbs_natCast,←Int.natCast_ediv,Int.natAbs_natCast]
namespace xi
theorem one:Cp 78 [] (Sym.whole 1).pv:=vc.e0 _ (fB.Of 1 (by unfold aO;omega))
theorem Valid(a:aK)(h:l8 a):Cp 34 [a.pv] (vB a.valid):=by
 obtain⟨l1,l2⟩:=h
 by_cases h1:a.num.length=0
 ·by_cases h2:a.den.length=0
  ·rw[DQ h1 h2];exact fL.e0 a h1 h2
  ·rw[DR h1 h2];exact fL.e1 a h1 h2
 ·by_cases h2:a.den.length=0
  ·rw[DS h1 h2];exact fL.e2 a h1 h2
  ·rw[DT h1 h2]
   have v1:=fB.Valid ⟨false,a.num⟩ (show a.num.length≤_ by omega)
   have v2:=fB.Valid ⟨false,a.den⟩ (show a.den.length≤_ by omega)
   rw[ui h1] at v1
   rw[ui h2] at v2
   cases hc1:cn a.num with
   |false=>rw[Bool.false_and];exact fL.e3 a _ h1 h2 v1 hc1
   |true =>
    rw[Bool.true_and]
    cases EU:cn a.den with
    |false=>rw[Bool.false_and];exact fL.e4 a _ _ h1 h2 v1 hc1 v2 EU
    |true =>
     have hg:=fB.Gcd ⟨false,a.num⟩ ⟨false,a.den⟩ (show a.num.length≤_ by omega) (show a.den.length≤_ by omega)
     rw[vq h1 hc1,vq h2 EU,Int.natAbs_natCast,Int.natAbs_natCast] at hg
     have gl:=wJ (a:=(nat a.num:Int)) (b:=(nat a.den:Int)) (k:=274877906944) (by show(words _).length≤_;rw[Int.natAbs_natCast,eK hc1];exact l1) (by show(words _).length≤_;rw[Int.natAbs_natCast,eK EU];exact l2)
     rw[Int.natAbs_natCast,Int.natAbs_natCast] at gl
     have hc:=fB.Hd (Sym.whole (Nat.gcd (nat a.num) (nat a.den):Nat)) (Sym.whole 1) (show wl _≤_ by omega) (show wl 1≤_ by decide)
     rw[aU,aU] at hc
     rw[Bool.true_and,←Gs]
     exact fL.e5 a _ _ _ _ _ h1 h2 v1 hc1 v2 EU hg one hc
theorem om(a:aK)(h:l8 a):Cp 57 [a.pv] (.bx [(Sym.whole a.val.num).pv,(Sym.whole (a.val.den:Int)).pv]):=by
 have hv:=Valid a h
 cases hc:a.valid with
 |false=>rw[Cs hc];exact lx.e0 a _ _ hv hc one
 |true =>
  by_cases h0:a.num.length=0
  ·rw[yf (List.eq_nil_of_length_eq_zero h0)];exact lx.e1 a _ _ hv hc h0 one
  ·obtain⟨e1,e2⟩:=DU hc h0
   rw[e1,e2]
   exact lx.e2 a _ hv hc h0 (by have:=h.1;simp;omega) (by have:=h.2;simp;omega)
theorem form(n d:aC)(hn:n.cP.length≤1099511627776)(hd:d.cP.length≤1099511627776)(h0:d.val≠0):Cp 58 [n.pv,d.pv] (gN (Rat.divInt n.val d.val)).pv:=by
 have sn:=fB.Sign n hn
 have sd:=fB.Sign d hd
 have wn:=bu n
 have Wn:=bu d
 by_cases hz:n.val=0
 ·rw[hz,Rat.zero_divInt]
  exact iG.e0 n d _ sn (by rw[hz];rfl)
 ·have C8:o8 n.val≠0:=by unfold o8 dW;split<;>(try split)<;>omega
  by_cases hneg:d.val<0
  ·have e:Rat.divInt n.val d.val=Rat.divInt (-n.val) (-d.val):=by rw[Rat.divInt_neg',Int.neg_neg]
   have n1:=fB.Neg n hn
   have d1:=fB.Neg d hd
   have l1:(Sym.whole (-n.val)).cP.length≤1099511627776:=by show wl _≤_;rw[kt];omega
   have l2:(Sym.whole (-d.val)).cP.length≤1099511627776:=by show wl _≤_;rw[kt];omega
   have g:=fB.Gcd _ _ l1 l2
   rw[aU,aU] at g
   have As:=wJ (a := -n.val) (b := -d.val) (k:=1099511627776) (by rw[kt];omega) (by rw[kt];omega)
   have s2:=fB.Sign _ l1
   rw[aU] at s2
   rw[e,formed (by omega) (by omega) _ rfl]
   obtain⟨f1,f2⟩:=Aa (n := -n.val) (by omega) (Nat.gcd (-n.val).natAbs (-d.val).natAbs) (Nat.gcd_dvd_left _ _)
   have Db:((Nat.gcd (-n.val).natAbs (-d.val).natAbs:Nat):Int)≠0:=by
    have:=Nat.gcd_pos_of_pos_left (-d.val).natAbs (show 0<(-n.val).natAbs by omega)
    omega
   rw[f1,show(Sym.whole (-n.val/((Nat.gcd (-n.val).natAbs (-d.val).natAbs:Nat):Int))).cP=(Sym.whole (((-n.val).natAbs:Int)/((Nat.gcd (-n.val).natAbs (-d.val).natAbs:Nat):Int))).cP from by unfold Sym.whole;rw[f2]]
   generalize hG:((Nat.gcd (-n.val).natAbs (-d.val).natAbs:Nat):Int)=G at *
   have dd:=fB.Div (Sym.whole (-d.val)) (Sym.whole G) l2 As (by rw[aU];exact Db)
   rw[aU,aU] at dd
   by_cases hs : -n.val<0
   ·have n2:=fB.Neg _ l1
    rw[aU] at n2
    have dn:=fB.Div (Sym.whole (- -n.val)) (Sym.whole G) (by show wl _≤_;rw[kt,kt];omega) As (by rw[aU];exact Db)
    rw[aU,aU] at dn
    rw[show ((-n.val).natAbs:Int) = - -n.val from by omega]
    have:=iG.e1 n d _ _ _ _ _ _ _ _ _ none _ _ none sn C8 sd (by unfold o8 dW;rw[if_pos hneg];omega) n1 d1 g s2 (by unfold o8 dW;rw[if_pos hs];omega) n2 dn dd
    rw[show decide (o8 (-n.val)<0)=decide (-n.val<0) from by unfold o8 dW;rw[if_pos hs,decide_eq_true hs];rfl] at this
    exact this
   ·have dn:=fB.Div (Sym.whole (-n.val)) (Sym.whole G) l1 As (by rw[aU];exact Db)
    rw[aU,aU] at dn
    rw[show ((-n.val).natAbs:Int) = -n.val from by omega]
    have OE:o8 (-n.val)=1:=by unfold o8 dW;rw[if_neg hs,if_neg (by omega)]
    have:=iG.e2 n d _ _ _ _ _ _ _ _ none _ _ none sn C8 sd (by unfold o8 dW;rw[if_pos hneg];omega) n1 d1 g s2 (by rw[OE];omega) dn dd
    rw[show decide (o8 (-n.val)<0)=decide (-n.val<0) from by rw[OE,decide_eq_false hs];rfl] at this
    exact this
  ·have g:=fB.Gcd _ _ hn hd
   have As:=wJ (a:=n.val) (b:=d.val) (k:=1099511627776) (by omega) (by omega)
   rw[formed hz (by omega) _ rfl]
   obtain⟨f1,f2⟩:=Aa hz (Nat.gcd n.val.natAbs d.val.natAbs) (Nat.gcd_dvd_left _ _)
   have Db:((Nat.gcd n.val.natAbs d.val.natAbs:Nat):Int)≠0:=by
    have:=Nat.gcd_pos_of_pos_left d.val.natAbs (show 0<n.val.natAbs by omega)
    omega
   rw[f1,show(Sym.whole (n.val/((Nat.gcd n.val.natAbs d.val.natAbs:Nat):Int))).cP=(Sym.whole ((n.val.natAbs:Int)/((Nat.gcd n.val.natAbs d.val.natAbs:Nat):Int))).cP from by unfold Sym.whole;rw[f2]]
   generalize hG:((Nat.gcd n.val.natAbs d.val.natAbs:Nat):Int)=G at *
   have dd:=fB.Div d (Sym.whole G) hd As (by rw[aU];exact Db)
   rw[aU] at dd
   have QW:0≤o8 d.val:=by unfold o8 dW;rw[if_neg hneg];split<;>omega
   by_cases hs:n.val<0
   ·have n2:=fB.Neg _ hn
    have dn:=fB.Div (Sym.whole (-n.val)) (Sym.whole G) (by show wl _≤_;rw[kt];omega) As (by rw[aU];exact Db)
    rw[aU,aU] at dn
    rw[show (n.val.natAbs:Int) = -n.val from by omega]
    have:=iG.e3 n d _ _ _ _ _ _ _ none _ _ none sn C8 sd QW g sn (by unfold o8 dW;rw[if_pos hs];omega) n2 dn dd
    rw[show decide (o8 n.val<0)=decide (n.val<0) from by unfold o8 dW;rw[if_pos hs,decide_eq_true hs];rfl] at this
    exact this
   ·have dn:=fB.Div n (Sym.whole G) hn As (by rw[aU];exact Db)
    rw[aU] at dn
    rw[show (n.val.natAbs:Int)=n.val from by omega]
    have OE:o8 n.val=1:=by unfold o8 dW;rw[if_neg hs,if_neg (by omega)]
    have:=iG.e4 n d _ _ _ _ _ _ none _ _ none sn C8 sd QW g sn (by rw[OE];omega) dn dd
    rw[show decide (o8 n.val<0)=decide (n.val<0) from by rw[OE,decide_eq_false hs];rfl] at this
    exact this
theorem xj(n d:Int)(hn:wl n≤1099511627776)(hd:wl d≤1099511627776)(h0:d≠0):Cp 58 [(Sym.whole n).pv,(Sym.whole d).pv] (gN (Rat.divInt n d)).pv:=by
 have:=form (Sym.whole n) (Sym.whole d) hn hd (by rw[aU];exact h0)
 rwa[aU,aU] at this
theorem Neg(a:aK)(h:l8 a):Cp 82 [a.pv] (gN (-a.val)).pv:=by
 have hp:=om a h
 have hh:=eY h.1 h.2 (by omega)
 have h1:=gn a.val
 have h2:=ir a.val
 have hn:=fB.Neg (Sym.whole a.val.num) (show wl _≤_ by omega)
 rw[aU] at hn
 have hf:=xj (-a.val.num) a.val.den (by rw[kt];omega) (by omega) (by have:=a.val.den_nz;omega)
 rw[←Rat.neg_divInt,Rat.num_divInt_den] at hf
 exact vd.e0 a _ _ _ _ hp hn hf
theorem Sign(a:aK)(h:l8 a):Cp 35 [a.pv] (vI (iM a.val 0)):=by
 have hp:=om a h
 have hh:=eY h.1 h.2 (by omega)
 have h1:=gn a.val
 have hs:=fB.Sign (Sym.whole a.val.num) (show wl _≤_ by omega)
 rw[aU,wH] at hs
 exact tu.e0 a _ _ _ hp hs
theorem Add(a b:aK)(ha:l8 a)(hb:l8 b):Cp 38 [a.pv,b.pv] (gN (a.val+b.val)).pv:=by
 have pa:=om a ha
 have pb:=om b hb
 have la:=eY ha.1 ha.2 (by omega)
 have lb:=eY hb.1 hb.2 (by omega)
 have h1:=gn a.val
 have h2:=ir a.val
 have h3:=gn b.val
 have h4:=ir b.val
 have m1:=fB.Mul (Sym.whole a.val.num) (Sym.whole (b.val.den:Int)) (show wl _≤_ by omega) (show wl _≤_ by omega)
 have m2:=fB.Mul (Sym.whole b.val.num) (Sym.whole (a.val.den:Int)) (show wl _≤_ by omega) (show wl _≤_ by omega)
 have m3:=fB.Mul (Sym.whole (a.val.den:Int)) (Sym.whole (b.val.den:Int)) (show wl _≤_ by omega) (show wl _≤_ by omega)
 rw[aU,aU] at m1 m2 m3
 have w1:=iq a.val.num b.val.den
 have w2:=iq b.val.num a.val.den
 have w3:=iq (a.val.den:Int) b.val.den
 have s:=fB.Add (Sym.whole (a.val.num*b.val.den)) (Sym.whole (b.val.num*a.val.den)) (show wl _≤_ by omega) (show wl _≤_ by omega)
 rw[aU,aU] at s
 have w4:=Cq (a.val.num*b.val.den) (b.val.num*a.val.den)
 have hf:=xj (a.val.num*b.val.den+b.val.num*a.val.den) ((a.val.den:Int)*(b.val.den:Int)) (by omega) (by omega) (by
  have:=a.val.den_nz
  have:=b.val.den_nz
  exact Int.mul_ne_zero (by omega) (by omega))
 rw[←Int.natCast_mul,Rat.divInt_ofNat,←Rat.add_def',Int.natCast_mul] at hf
 exact u9.e0 a b _ _ _ _ _ _ _ _ _ pa pb m1 m2 s m3 hf
theorem Sub(a b:aK)(ha:l8 a)(hb:l8 b):Cp 37 [a.pv,b.pv] (gN (a.val-b.val)).pv:=by
 have hn:=Neg b hb
 have lb:=eY hb.1 hb.2 (by omega)
 have hs:=Add a (gN (-b.val)) ha (gh (by rw[FB];exact lb))
 rw[dm,←Rat.sub_eq_add_neg] at hs
 exact u7.e0 a b _ _ hn hs
theorem Mul(a b:aK)(ha:l8 a)(hb:l8 b):Cp 24 [a.pv,b.pv] (gN (a.val*b.val)).pv:=by
 have pa:=om a ha
 have pb:=om b hb
 have la:=eY ha.1 ha.2 (by omega)
 have lb:=eY hb.1 hb.2 (by omega)
 have h1:=gn a.val
 have h2:=ir a.val
 have h3:=gn b.val
 have h4:=ir b.val
 have m1:=fB.Mul (Sym.whole a.val.num) (Sym.whole b.val.num) (show wl _≤_ by omega) (show wl _≤_ by omega)
 have m3:=fB.Mul (Sym.whole (a.val.den:Int)) (Sym.whole (b.val.den:Int)) (show wl _≤_ by omega) (show wl _≤_ by omega)
 rw[aU,aU] at m1 m3
 have w1:=iq a.val.num b.val.num
 have w3:=iq (a.val.den:Int) b.val.den
 have hf:=xj (a.val.num*b.val.num) ((a.val.den:Int)*(b.val.den:Int)) (by omega) (by omega) (by
  have:=a.val.den_nz
  have:=b.val.den_nz
  exact Int.mul_ne_zero (by omega) (by omega))
 rw[←Int.natCast_mul,Rat.divInt_ofNat,←Rat.mul_def',Int.natCast_mul] at hf
 exact u6.e0 a b _ _ _ _ _ _ _ pa pb m1 m3 hf
theorem Hd(a b:aK)(ha:l8 a)(hb:l8 b):Cp 113 [a.pv,b.pv] (vI (iM a.val b.val)):=by
 have pa:=om a ha
 have pb:=om b hb
 have la:=eY ha.1 ha.2 (by omega)
 have lb:=eY hb.1 hb.2 (by omega)
 have h1:=gn a.val
 have h2:=ir a.val
 have h3:=gn b.val
 have h4:=ir b.val
 have m1:=fB.Mul (Sym.whole a.val.num) (Sym.whole (b.val.den:Int)) (show wl _≤_ by omega) (show wl _≤_ by omega)
 have m2:=fB.Mul (Sym.whole b.val.num) (Sym.whole (a.val.den:Int)) (show wl _≤_ by omega) (show wl _≤_ by omega)
 rw[aU,aU] at m1 m2
 have w1:=iq a.val.num b.val.den
 have w2:=iq b.val.num a.val.den
 have hc:=fB.Hd (Sym.whole (a.val.num*b.val.den)) (Sym.whole (b.val.num*a.val.den)) (show wl _≤_ by omega) (show wl _≤_ by omega)
 rw[aU,aU,Ju] at hc
 exact ve.e0 a b _ _ _ _ _ _ _ pa pb m1 m2 hc
end xi
namespace yi
theorem one:Cp 46 [] (Sym.whole 1).pv:=oW.e0 _ (wD.Of 1 (by unfold aO;omega))
theorem plain(m:Words)(h:m.length≤274877906944):Cp 43 [aa m] (vB (!m.isEmpty&&cn m)):=by
 rw[df]
 by_cases h0:m.length=0
 ·rw[decide_eq_true h0,Bool.not_true,Bool.false_and]
  exact jZ.e1 m (by omega)
 ·rw[decide_eq_false h0,Bool.not_false,Bool.true_and]
  obtain⟨v,hv⟩:∃v,m[m.length-1]? = some v:=⟨_,List.getElem?_eq_getElem (by omega)⟩
  have:=jZ.e0 m (m.length-1) v (by omega) (by unfold aO;omega) (by omega) hv
  have e:cn m=((v.toNat:Int) != 0):=by
   have h1:=mf hv
   by_cases h2:v.toNat=0
   ·have h3:((v.toNat:Int) != 0)=false:=by simp[h2]
    rw[h3]
    cases hc:cn m with
    |true=>exact absurd h2 (h1.1 hc)
    |false=>rfl
   ·have h3:((v.toNat:Int) != 0)=true:=by simp;omega
    rw[h3];exact h1.2 h2
  rw[e];exact this
theorem Jy{m:Words}(h:m.length≤274877906944)(h0:m.length≠0):Cp 43 [aa m] (vB (cn m)):=by
 have:=plain m h
 rwa[df,decide_eq_false h0,Bool.not_false,Bool.true_and] at this
theorem Jz{m:Words}(h0:m.length=0):Cp 43 [aa m] (vB false):=by
 have:=plain m (by omega)
 rwa[df,decide_eq_true h0,Bool.not_true,Bool.false_and] at this
theorem Valid(a:aK)(h:l8 a):Cp 15 [a.pv] (vB a.valid):=by
 obtain⟨l1,l2⟩:=h
 by_cases h1:a.num.length=0
 ·by_cases h2:a.den.length=0
  ·rw[DQ h1 h2];exact cS.e0 a h1 h2
  ·rw[DR h1 h2];exact cS.e3 a _ h1 h2 (Jz h1) rfl
 ·have p1:=Jy l1 h1
  by_cases h2:a.den.length=0
  ·rw[DS h1 h2]
   cases hc1:cn a.num with
   |false=>exact cS.e6 a _ h1 p1 hc1
   |true=>exact cS.e5 a _ _ h1 p1 hc1 (Jz h2) rfl
  ·have p2:=Jy l2 h2
   rw[DT h1 h2]
   cases hc1:cn a.num with
   |false=>rw[Bool.false_and];exact cS.e6 a _ h1 p1 hc1
   |true =>
    rw[Bool.true_and]
    cases EU:cn a.den with
    |false=>rw[Bool.false_and];exact cS.e5 a _ _ h1 p1 hc1 p2 EU
    |true =>
     have hg:=wD.Gcd ⟨false,a.num⟩ ⟨false,a.den⟩ (show a.num.length≤_ by omega) (show a.den.length≤_ by omega)
     rw[vq h1 hc1,vq h2 EU,Int.natAbs_natCast,Int.natAbs_natCast] at hg
     have gl:=wJ (a:=(nat a.num:Int)) (b:=(nat a.den:Int)) (k:=274877906944) (by show(words _).length≤_;rw[Int.natAbs_natCast,eK hc1];exact l1) (by show(words _).length≤_;rw[Int.natAbs_natCast,eK EU];exact l2)
     rw[Int.natAbs_natCast,Int.natAbs_natCast] at gl
     have hc:=wD.Hd (Sym.whole (Nat.gcd (nat a.num) (nat a.den):Nat)) (Sym.whole 1) (show wl _<_ by omega) (show wl 1<_ by decide)
     rw[aU,aU] at hc
     rw[Bool.true_and,←Gs]
     exact cS.e4 a _ _ _ _ _ h1 p1 hc1 p2 EU hg one hc
theorem om(a:aK)(h:l8 a):Cp 47 [a.pv] (.bx [(Sym.whole a.val.num).pv,(Sym.whole (a.val.den:Int)).pv]):=by
 have hv:=Valid a h
 cases hc:a.valid with
 |false=>rw[Cs hc];exact gC.e0 a _ _ hv hc one
 |true =>
  by_cases h0:a.num.length=0
  ·rw[yf (List.eq_nil_of_length_eq_zero h0)];exact gC.e1 a _ _ hv hc h0 one
  ·obtain⟨e1,e2⟩:=DU hc h0
   rw[e1,e2]
   exact gC.e2 a _ hv hc h0
theorem form(n d:aC)(hn:n.cP.length≤1099511627776)(hd:d.cP.length≤1099511627776)(h0:d.val≠0):Cp 73 [n.pv,d.pv] (gN (Rat.divInt n.val d.val)).pv:=by
 have sn:=wD.Sign n hn
 have sd:=wD.Sign d hd
 have wn:=bu n
 have Wn:=bu d
 by_cases hz:n.val=0
 ·rw[hz,Rat.zero_divInt]
  exact il.e0 n d _ sn (by rw[hz];rfl)
 ·have C8:o8 n.val≠0:=by unfold o8 dW;split<;>(try split)<;>omega
  by_cases hneg:d.val<0
  ·have e:Rat.divInt n.val d.val=Rat.divInt (-n.val) (-d.val):=by rw[Rat.divInt_neg',Int.neg_neg]
   have n1:=wD.Neg n hn
   have d1:=wD.Neg d hd
   have l1:(Sym.whole (-n.val)).cP.length≤1099511627776:=by show wl _≤_;rw[kt];omega
   have l2:(Sym.whole (-d.val)).cP.length≤1099511627776:=by show wl _≤_;rw[kt];omega
   have g:=wD.Gcd _ _ l1 l2
   rw[aU,aU] at g
   have As:=wJ (a := -n.val) (b := -d.val) (k:=1099511627776) (by rw[kt];omega) (by rw[kt];omega)
   rw[e,formed (by omega) (by omega) _ rfl]
   have Db:((Nat.gcd (-n.val).natAbs (-d.val).natAbs:Nat):Int)≠0:=by
    have:=Nat.gcd_pos_of_pos_left (-d.val).natAbs (show 0<(-n.val).natAbs by omega)
    omega
   generalize hG:((Nat.gcd (-n.val).natAbs (-d.val).natAbs:Nat):Int)=G at *
   have dd:=wD.Div (Sym.whole (-d.val)) (Sym.whole G) l2 As (by rw[aU];exact Db)
   have dn:=wD.Div (Sym.whole (-n.val)) (Sym.whole G) l1 As (by rw[aU];exact Db)
   rw[aU,aU] at dd dn
   exact il.e1 n d _ _ _ _ _ _ _ _ _ _ _ sn C8 sd (by unfold o8 dW;rw[if_pos hneg];omega) n1 d1 g dn dd
  ·have g:=wD.Gcd _ _ hn hd
   have As:=wJ (a:=n.val) (b:=d.val) (k:=1099511627776) (by omega) (by omega)
   rw[formed hz (by omega) _ rfl]
   have Db:((Nat.gcd n.val.natAbs d.val.natAbs:Nat):Int)≠0:=by
    have:=Nat.gcd_pos_of_pos_left d.val.natAbs (show 0<n.val.natAbs by omega)
    omega
   generalize hG:((Nat.gcd n.val.natAbs d.val.natAbs:Nat):Int)=G at *
   have dd:=wD.Div d (Sym.whole G) hd As (by rw[aU];exact Db)
   have dn:=wD.Div n (Sym.whole G) hn As (by rw[aU];exact Db)
   rw[aU] at dd dn
   have QW:0≤o8 d.val:=by unfold o8 dW;rw[if_neg hneg];split<;>omega
   exact il.e2 n d _ _ _ _ _ _ _ _ _ sn C8 sd QW g dn dd
theorem xj(n d:Int)(hn:wl n≤1099511627776)(hd:wl d≤1099511627776)(h0:d≠0):Cp 73 [(Sym.whole n).pv,(Sym.whole d).pv] (gN (Rat.divInt n d)).pv:=by
 have:=form (Sym.whole n) (Sym.whole d) hn hd (by rw[aU];exact h0)
 rwa[aU,aU] at this
theorem Of(n:Int)(h:aO n):Cp 33 [vI n] (gN (n:Rat)).pv:=by
 have hw:wl n≤2:=Gh (by unfold aO at h;omega)
 have:=xj n 1 (by omega) (by decide) (by omega)
 rw[show Rat.divInt n 1=(n:Rat) from by rw[Rat.divInt_eq_div];grind] at this
 exact pZ.e0 n _ _ _ (wD.Of n h) one this
theorem Neg(a:aK)(h:l8 a):Cp 135 [a.pv] (gN (-a.val)).pv:=by
 have hp:=om a h
 have hh:=eY h.1 h.2 (by omega)
 have h1:=gn a.val
 have h2:=ir a.val
 have hn:=wD.Neg (Sym.whole a.val.num) (show wl _≤_ by omega)
 rw[aU] at hn
 have hf:=xj (-a.val.num) a.val.den (by rw[kt];omega) (by omega) (by have:=a.val.den_nz;omega)
 rw[←Rat.neg_divInt,Rat.num_divInt_den] at hf
 exact o3.e0 a _ _ _ _ hp hn hf
theorem Sign(a:aK)(h:l8 a):Cp 16 [a.pv] (vI (iM a.val 0)):=by
 have hp:=om a h
 have hh:=eY h.1 h.2 (by omega)
 have h1:=gn a.val
 have hs:=wD.Sign (Sym.whole a.val.num) (show wl _≤_ by omega)
 rw[aU,wH] at hs
 exact oc.e0 a _ _ _ hp hs
theorem Add(a b:aK)(ha:l8 a)(hb:l8 b):Cp 95 [a.pv,b.pv] (gN (a.val+b.val)).pv:=by
 have pa:=om a ha
 have pb:=om b hb
 have la:=eY ha.1 ha.2 (by omega)
 have lb:=eY hb.1 hb.2 (by omega)
 have h1:=gn a.val
 have h2:=ir a.val
 have h3:=gn b.val
 have h4:=ir b.val
 have m1:=wD.Mul (Sym.whole a.val.num) (Sym.whole (b.val.den:Int)) (show wl _≤_ by omega) (show wl _≤_ by omega)
 have m2:=wD.Mul (Sym.whole b.val.num) (Sym.whole (a.val.den:Int)) (show wl _≤_ by omega) (show wl _≤_ by omega)
 have m3:=wD.Mul (Sym.whole (a.val.den:Int)) (Sym.whole (b.val.den:Int)) (show wl _≤_ by omega) (show wl _≤_ by omega)
 rw[aU,aU] at m1 m2 m3
 have w1:=iq a.val.num b.val.den
 have w2:=iq b.val.num a.val.den
 have w3:=iq (a.val.den:Int) b.val.den
 have s:=wD.Add (Sym.whole (a.val.num*b.val.den)) (Sym.whole (b.val.num*a.val.den)) (show wl _≤_ by omega) (show wl _≤_ by omega)
 rw[aU,aU] at s
 have w4:=Cq (a.val.num*b.val.den) (b.val.num*a.val.den)
 have hf:=xj (a.val.num*b.val.den+b.val.num*a.val.den) ((a.val.den:Int)*(b.val.den:Int)) (by omega) (by omega) (by
  have:=a.val.den_nz
  have:=b.val.den_nz
  exact Int.mul_ne_zero (by omega) (by omega))
 rw[←Int.natCast_mul,Rat.divInt_ofNat,←Rat.add_def',Int.natCast_mul] at hf
 exact oZ.e0 a b _ _ _ _ _ _ _ _ _ pa pb m1 m2 s m3 hf
theorem Sub(a b:aK)(ha:l8 a)(hb:l8 b):Cp 94 [a.pv,b.pv] (gN (a.val-b.val)).pv:=by
 have hn:=Neg b hb
 have lb:=eY hb.1 hb.2 (by omega)
 have hs:=Add a (gN (-b.val)) ha (gh (by rw[FB];exact lb))
 rw[dm,←Rat.sub_eq_add_neg] at hs
 exact oY.e0 a b _ _ hn hs
theorem Mul(a b:aK)(ha:l8 a)(hb:l8 b):Cp 51 [a.pv,b.pv] (gN (a.val*b.val)).pv:=by
 have pa:=om a ha
 have pb:=om b hb
 have la:=eY ha.1 ha.2 (by omega)
 have lb:=eY hb.1 hb.2 (by omega)
 have h1:=gn a.val
 have h2:=ir a.val
 have h3:=gn b.val
 have h4:=ir b.val
 have m1:=wD.Mul (Sym.whole a.val.num) (Sym.whole b.val.num) (show wl _≤_ by omega) (show wl _≤_ by omega)
 have m3:=wD.Mul (Sym.whole (a.val.den:Int)) (Sym.whole (b.val.den:Int)) (show wl _≤_ by omega) (show wl _≤_ by omega)
 rw[aU,aU] at m1 m3
 have w1:=iq a.val.num b.val.num
 have w3:=iq (a.val.den:Int) b.val.den
 have hf:=xj (a.val.num*b.val.num) ((a.val.den:Int)*(b.val.den:Int)) (by omega) (by omega) (by
  have:=a.val.den_nz
  have:=b.val.den_nz
  exact Int.mul_ne_zero (by omega) (by omega))
 rw[←Int.natCast_mul,Rat.divInt_ofNat,←Rat.mul_def',Int.natCast_mul] at hf
 exact oX.e0 a b _ _ _ _ _ _ _ pa pb m1 m3 hf
theorem Hd(a b:aK)(ha:a.num.length≤68719476736∧a.den.length≤68719476736)(hb:b.num.length≤68719476736∧b.den.length≤68719476736):Cp 125 [a.pv,b.pv] (vI (iM a.val b.val)):=by
 have la:=eY ha.1 ha.2 (by omega)
 have lb:=eY hb.1 hb.2 (by omega)
 have hs:=Sub a b ⟨by omega,by omega⟩ ⟨by omega,by omega⟩
 have hl:=ug a.val b.val
 have hg:=Sign (gN (a.val-b.val)) (gh (by omega))
 rw[dm,←wH,DJ] at hg
 exact o0.e0 a b _ _ hs hg
end yi
def fi(a:aK):Prop:=a.num.length≤1000∧a.den.length≤1000
theorem fi.r{a:aK}(h:fi a):l8 a:=by unfold l8;have:=h.1;have:=h.2;omega
structure lM (l:aj):Prop where
 name:l.name.size<9223372036854775808
 ab:∀b∈l.ab,b.name.size<9223372036854775808∧∀m∈b.points,m.name.size<9223372036854775808∧fi m.x∧fi m.y
 aq:∀j∈l.aq,j.name.size<9223372036854775808
 an:∀d∈l.an,d.name.size<9223372036854775808
theorem jA{α β:Type}{p:α→Bool}{xs:List α}{L:Nat→β→Prop}{A B:β}
  (KL:∀g v,g<xs.length→xs[g]? = some v→p v=true→L g A)
  (step:∀g v r,g<xs.length→xs[g]? = some v→p v=false→L (g+1) r→L g r)
  (stop:xs.any p=false→L xs.length B):L 0 (if xs.any p=true then A else B):=by
 have key:∀(n g:Nat),g+n=xs.length→((xs.drop g).any p=false→L xs.length B)→L g (if (xs.drop g).any p=true then A else B):=by
  intro n
  induction n with
  |zero =>
   intro g hg hs
   have e:xs.drop g=[]:=List.drop_eq_nil_of_le (by omega)
   rw[e] at hs ⊢
   have:g=xs.length:=by omega
   subst this
   exact hs rfl
  |succ n ih =>
   intro g hg hs
   have cQ:g<xs.length:=by omega
   have e:=List.drop_eq_getElem_cons cQ
   have hv:=List.getElem?_eq_getElem cQ
   rw[e,List.any_cons] at hs ⊢
   cases hp:p xs[g] with
   |true=>rw[Bool.true_or,if_pos rfl];exact KL g _ cQ hv hp
   |false =>
    rw[hp,Bool.false_or] at hs
    rw[Bool.false_or]
    exact step g _ _ cQ hv hp (ih (g+1) (by omega) hs)
 exact key xs.length 0 (by omega) (by simpa using stop)
theorem jR{β:Type}{f:Nat→Int}{len:Nat}{L:Nat→β→Prop}{R:Int→β}{r0:β}
  (one:∀i r,i<len→(f i=0→L (i+1) r)→L i (if f i=0 then r else R (f i))) :
  ∀(n i:Nat),i+n=len→(scan f n i=0→L len r0)→L i (if scan f n i=0 then r0 else R (scan f n i))
 |0,i,h,hs=>by
  have:i=len:=by omega
  subst this
  exact hs rfl
 |n+1,i,h,hs=>by
  unfold scan at hs ⊢
  have h1:=one i (if scan f n (i+1)=0 then r0 else R (scan f n (i+1))) (by omega)
  by_cases h0:f i=0
  ·rw[if_pos h0] at hs ⊢
   rw[if_pos h0] at h1
   exact h1 (fun _=>jR one n (i+1) (by omega) hs)
  ·rw[if_neg h0] at hs ⊢
   rw[if_neg h0] at h1
   rw[if_neg h0]
   exact h1 (fun e=>absurd e h0)
def N9(e:Int):PV:=if e=0 then .cd else .iface 74 (vI e)
theorem qP{e:Int}(h:e≠0):N9 e = .iface 74 (vI e):=if_neg h
abbrev iE(e:Int):PV := .iface 74 (vI e)
theorem Ta(e:Int):(if e=0 then vI 0 else vI e)=vI e:=by
 split
 ·rename_i h;rw[h]
 ·rfl
namespace fF
theorem ab(l:List ah)(hf:∀b∈l,b.name.size<9223372036854775808∧∀m∈b.points,m.name.size<9223372036854775808∧fi m.x∧fi m.y)(hlen:l.length<9223372036854775808):Cp 54 [bG ah.cells l] (N9 (nE l)):=by
 refine bU.e0 l ?_
 refine jR (L:=fun i r=>bU.au l i r) (R:=iE) (r0 := .cd) (fun i r hi hn => ?_) l.length 0 (by omega) (fun _=>bU.nr l l.length (Nat.le_refl _))
 have hv:=List.getElem?_eq_getElem hi
 generalize l[i]=v at hv
 have rl:=hf v (List.mem_of_getElem? hv)
 have e:Bp l i=if dQ v.name=false then 5 else if (l.take i).any (fun x=>decide (x.name=v.name))=true then 6 else jQ v.points:=by unfold Bp;rw[hv]
 rw[e] at hn ⊢
 by_cases h1:dQ v.name=false
 ·rw[if_pos h1]
  exact bU.eo l i v _ hi hv (Name _ rl.1) h1
 ·rw[if_neg h1] at hn ⊢
  refine bU.ew l i v _ hi hv (Name _ rl.1) (by simpa using h1) (by omega) ?_
  have key:=jA (p:=fun x=>decide (x.name=v.name)) (xs:=l.take i) (L:=fun g r=>bU.aM l i (l.take i) (l.take i).length g v r) (A:=iE 6) (B:=if jQ v.points=0 then r else iE (jQ v.points))
   (fun g w hg hw hp=>bU.mX l i _ _ g v w hg hw (of_decide_eq_true hp))
   (fun g w r hg hw hp hL=>bU.mY l i _ _ g v w hg hw (of_decide_eq_false hp) (by rw[List.length_take] at hg;omega) hL)
   (fun s7 => ?_)
  ·by_cases ha:(l.take i).any (fun x=>decide (x.name=v.name))=true
   ·rw[if_pos ha] at key ⊢
    exact key
   ·rw[if_neg ha] at key ⊢
    exact key
  ·rw[if_neg (by rw[s7];simp)] at hn
   unfold jQ at hn ⊢
   by_cases h8:8<v.points.length
   ·rw[if_pos h8]
    exact bU.xR l i _ _ _ v (Nat.le_refl _) h8
   ·rw[if_neg h8] at hn ⊢
    refine bU.IS l i _ _ _ v (Nat.le_refl _) (by omega) ?_
    refine jR (L:=fun c r=>bU.fp l i v c r) (R:=iE) (r0:=r) (fun c r hc hn => ?_) v.points.length 0 (by omega) (fun h0=>bU.PR l i v v.points.length (Nat.le_refl _) (by omega) (hn h0))
    have vm:=List.getElem?_eq_getElem hc
    generalize v.points[c]=v1 at vm
    obtain⟨f1,f2,f3⟩:=rl.2 v1 (List.mem_of_getElem? vm)
    have e:Bo v.points c=if dQ v1.name=false then 5 else if (v.points.take c).any (fun x=>decide (x.name=v1.name))=true then 6 else if v1.x.valid=true∧v1.y.valid=true then 0 else 3:=by unfold Bo;rw[vm]
    rw[e] at hn ⊢
    by_cases h1:dQ v1.name=false
    ·rw[if_pos h1]
     exact bU.KV l i v c v1 _ hc vm (Name _ f1) h1
    ·rw[if_neg h1] at hn ⊢
     refine bU.KW l i v c v1 _ hc vm (Name _ f1) (by simpa using h1) (by omega) ?_
     have key:=jA (p:=fun x=>decide (x.name=v1.name)) (xs:=v.points.take c) (L:=fun g r=>bU.kF l i v c (v.points.take c) (v.points.take c).length g v1 r) (A:=iE 6) (B:=if (if v1.x.valid=true∧v1.y.valid=true then (0:Int) else 3)=0 then r else iE (if v1.x.valid=true∧v1.y.valid=true then 0 else 3))
      (fun g w hg hw hp=>bU.PL l i v c _ _ g v1 w hg hw (of_decide_eq_true hp))
      (fun g w r hg hw hp hL=>bU.PM l i v c _ _ g v1 w hg hw (of_decide_eq_false hp) (by rw[List.length_take] at hg;omega) hL)
      (fun s7 => ?_)
     ·by_cases ha:(v.points.take c).any (fun x=>decide (x.name=v1.name))=true
      ·rw[if_pos ha] at key ⊢
       exact key
      ·rw[if_neg ha] at key ⊢
       exact key
     ·rw[if_neg (by rw[s7];simp)] at hn
      by_cases hx:v1.x.valid=true
      ·by_cases hy:v1.y.valid=true
       ·have ev:(if v1.x.valid=true∧v1.y.valid=true then (0:Int) else 3)=0:=if_pos ⟨hx,hy⟩
        rw[if_pos ev]
        exact bU.VW l i v c _ _ _ v1 _ _ (Nat.le_refl _) (xi.Valid _ f2.r) hx (xi.Valid _ f3.r) hy (by omega) (hn ev)
       ·have ev:(if v1.x.valid=true∧v1.y.valid=true then (0:Int) else 3)=3:=if_neg (fun h=>hy h.2)
        rw[ev,if_neg (by decide)]
        exact bU.VV l i v c _ _ _ v1 _ _ (Nat.le_refl _) (xi.Valid _ f2.r) hx (xi.Valid _ f3.r) (by simpa using hy)
      ·have ev:(if v1.x.valid=true∧v1.y.valid=true then (0:Int) else 3)=3:=if_neg (fun h=>hx h.1)
       rw[ev,if_neg (by decide)]
       exact bU.VU l i v c _ _ _ v1 _ (Nat.le_refl _) (xi.Valid _ f2.r) (by simpa using hx)
abbrev JA(i n:Int):Bool:=decide (0≤i∧i<n)
theorem ma(i n:Int):Cp 98 [vI i,vI n] (vB (JA i n)):=by
 by_cases h:0≤i
 ·rw[show JA i n=decide (i<n) by unfold JA;rw[Bool.eq_iff_iff,decide_eq_true_iff,decide_eq_true_iff];omega]
  exact zN.e0 i n h
 ·rw[show JA i n=false from decide_eq_false (by omega)]
  exact zN.e1 i n (by omega)
theorem dh{α:Type}{xs:List α}{i:Int}{x:α}(h:nth xs i=some x):JA i (xs.length:Int)=true:=decide_eq_true (FC.1 ⟨x,h⟩)
theorem dF{α:Type}{xs:List α}{i:Int}(h:nth xs i=none):JA i (xs.length:Int)=false:=decide_eq_false (zZ.1 h)
theorem JB(l:aj)(hf:lM l)(j:ak):Cp 97 [l.pv,j.pv] (N9 (jE l j)):=by
 unfold jE
 by_cases h0:j.kind=0
 ·rw[if_neg (by omega)]
  cases hA:nth l.ab j.a with
  |none=>exact cC.Sr l j _ h0 (ma _ _) (dF hA)
  |some A =>
   have iA:=dh hA
   obtain⟨kA,eA,gA⟩:=dg hA
   cases hB:nth l.ab j.b with
   |none=>exact cC.VY l j _ _ h0 (ma _ _) iA (ma _ _) (dF hB)
   |some B =>
    have iB:=dh hB
    obtain⟨kB,eB,gB⟩:=dg hB
    dsimp only
    by_cases lE:j.a=j.b
    ·rw[if_pos lE];exact cC.Ss l j _ _ h0 (ma _ _) iA (ma _ _) iB lE
    rw[if_neg lE]
    cases hP:nth A.points j.dx with
    |none=>exact cC.VZ l j _ _ _ _ _ _ _ h0 (ma _ _) iA (ma _ _) iB lE eB gB eA gA (ma _ _) (dF hP)
    |some P =>
     have iP:=dh hP
     cases hQ:nth B.points j.ou with
     |none=>exact cC.OM l j _ _ _ _ _ _ _ _ h0 (ma _ _) iA (ma _ _) iB lE eB gB eA gA (ma _ _) iP (ma _ _) (dF hQ)
     |some Q =>
      have iQ:=dh hQ
      dsimp only
      rw[if_pos h0]
      by_cases ht:j.mR=0
      ·rw[if_neg (by omega)];exact cC.V0 l j _ _ _ _ _ _ _ _ h0 (ma _ _) iA (ma _ _) iB lE eB gB eA gA (ma _ _) iP (ma _ _) iQ ht
      ·rw[if_pos ht];exact cC.Su l j _ _ _ _ _ _ _ _ h0 (ma _ _) iA (ma _ _) iB lE eB gB eA gA (ma _ _) iP (ma _ _) iQ ht
 ·by_cases h1:j.kind=1
  ·rw[if_neg (by omega)]
   cases hA:nth l.ab j.a with
   |none=>exact cC.e1 l j _ h0 h1 (ma _ _) (dF hA)
   |some A =>
    have iA:=dh hA
    obtain⟨kA,eA,gA⟩:=dg hA
    cases hB:nth l.ab j.b with
    |none=>exact cC.e2 l j _ _ h0 h1 (ma _ _) iA (ma _ _) (dF hB)
    |some B =>
     have iB:=dh hB
     obtain⟨kB,eB,gB⟩:=dg hB
     dsimp only
     by_cases lE:j.a=j.b
     ·rw[if_pos lE];exact cC.e3 l j _ _ h0 h1 (ma _ _) iA (ma _ _) iB lE
     rw[if_neg lE]
     cases hP:nth A.points j.dx with
     |none=>exact cC.e4 l j _ _ _ _ _ _ _ h0 h1 (ma _ _) iA (ma _ _) iB lE eB gB eA gA (ma _ _) (dF hP)
     |some P =>
      have iP:=dh hP
      cases hQ:nth B.points j.ou with
      |none=>exact cC.e5 l j _ _ _ _ _ _ _ _ h0 h1 (ma _ _) iA (ma _ _) iB lE eB gB eA gA (ma _ _) iP (ma _ _) (dF hQ)
      |some Q =>
       have iQ:=dh hQ
       dsimp only
       rw[if_neg h0]
       obtain⟨kQ,eQ,gQ⟩:=dg hQ
       cases hR:nth B.points j.mR with
       |none=>exact cC.e8 l j _ _ _ _ _ _ _ _ _ h0 h1 (ma _ _) iA (ma _ _) iB lE eB gB eA gA (ma _ _) iP (ma _ _) iQ (ma _ _) (dF hR)
       |some R =>
        have iR:=dh hR
        obtain⟨kR,eR,gR⟩:=dg hR
        dsimp only
        have fQ:=(hf.ab B (pc hB)).2 Q (pc hQ)
        have fR:=(hf.ab B (pc hB)).2 R (pc hR)
        by_cases hx:iM Q.x.val R.x.val=0
        ·by_cases hy:iM Q.y.val R.y.val=0
         ·rw[if_pos ⟨hx,hy⟩];exact cC.e9 l j _ _ _ _ _ _ _ _ _ _ _ _ _ _ _ h0 h1 (ma _ _) iA (ma _ _) iB lE eB gB eA gA (ma _ _) iP (ma _ _) iQ (ma _ _) iR eQ gQ eR gR (xi.Hd _ _ fQ.2.1.r fR.2.1.r) hx (xi.Hd _ _ fQ.2.2.r fR.2.2.r) hy
         ·rw[if_neg (fun h=>hy h.2)];exact cC.Sq l j _ _ _ _ _ _ _ _ _ _ _ _ _ _ _ h0 h1 (ma _ _) iA (ma _ _) iB lE eB gB eA gA (ma _ _) iP (ma _ _) iQ (ma _ _) iR eQ gQ eR gR (xi.Hd _ _ fQ.2.1.r fR.2.1.r) hx (xi.Hd _ _ fQ.2.2.r fR.2.2.r) hy
        ·rw[if_neg (fun h=>hx h.1)];exact cC.VX l j _ _ _ _ _ _ _ _ _ _ _ _ _ _ h0 h1 (ma _ _) iA (ma _ _) iB lE eB gB eA gA (ma _ _) iP (ma _ _) iQ (ma _ _) iR eQ gQ eR gR (xi.Hd _ _ fQ.2.1.r fR.2.1.r) hx
  ·rw[if_pos ⟨h0,h1⟩];exact cC.e0 l j h0 h1
theorem aq(l:aj)(hf:lM l):Cp 55 [l.pv] (N9 (pd l)):=by
 unfold pd
 by_cases fP:16<l.aq.length
 ·rw[if_pos fP];exact dH.e0 l fP
 ·rw[if_neg fP]
  refine dH.e1 l (by omega) ?_
  refine jR (L:=fun i r=>dH.au l i r) (R:=iE) (r0 := .cd) (fun i r hi hn => ?_) l.aq.length 0 (by omega) (fun _=>dH.nr l l.aq.length (Nat.le_refl _))
  have hv:=List.getElem?_eq_getElem hi
  generalize l.aq[i]=v at hv
  have rl:=hf.aq v (List.mem_of_getElem? hv)
  have e:pC l i=if dQ v.name=false then 5 else if (l.aq.take i).any (fun x=>decide (x.name=v.name))=true then 6 else jE l v:=by unfold pC;rw[hv]
  rw[e] at hn ⊢
  by_cases h1:dQ v.name=false
  ·rw[if_pos h1]
   exact dH.eo l i v _ hi hv (Name _ rl) h1
  ·rw[if_neg h1] at hn ⊢
   refine dH.ew l i v _ hi hv (Name _ rl) (by simpa using h1) (by omega) ?_
   have key:=jA (p:=fun x=>decide (x.name=v.name)) (xs:=l.aq.take i) (L:=fun g r=>dH.aM l i (l.aq.take i) (l.aq.take i).length g v r) (A:=iE 6) (B:=if jE l v=0 then r else iE (jE l v))
    (fun g w hg hw hp=>dH.mX l i _ _ g v w hg hw (of_decide_eq_true hp))
    (fun g w r hg hw hp hL=>dH.mY l i _ _ g v w hg hw (of_decide_eq_false hp) (by rw[List.length_take] at hg;omega) hL)
    (fun s7 => ?_)
   ·by_cases ha:(l.aq.take i).any (fun x=>decide (x.name=v.name))=true
    ·rw[if_pos ha] at key ⊢
     exact key
    ·rw[if_neg ha] at key ⊢
     exact key
   ·rw[if_neg (by rw[s7];simp)] at hn
    have hj:=JB l hf v
    by_cases h0:jE l v=0
    ·rw[if_pos h0]
     rw[h0] at hj
     exact dH.xR l i _ _ _ v (Nat.le_refl _) hj (by omega) (hn h0)
    ·rw[if_neg h0]
     rw[qP h0] at hj
     exact dH.IS l i _ _ _ v _ (Nat.le_refl _) hj
theorem an(l:aj)(hf:lM l):Cp 56 [l.pv] (N9 (oi l)):=by
 unfold oi
 by_cases fP:2<l.an.length
 ·rw[if_pos fP];exact bH.e0 l fP
 ·rw[if_neg fP]
  refine bH.e1 l (by omega) ?_
  refine jR (L:=fun i r=>bH.au l i r) (R:=iE) (r0 := .cd) (fun i r hi hn => ?_) l.an.length 0 (by omega) (fun _=>bH.nr l l.an.length (Nat.le_refl _))
  have hv:=List.getElem?_eq_getElem hi
  generalize l.an[i]=v at hv
  have rl:=hf.an v (List.mem_of_getElem? hv)
  have e:nG l i=if dQ v.name=false then 5 else if (l.an.take i).any (fun x=>decide (x.name=v.name))=true then 6 else dE l i v:=by unfold nG;rw[hv]
  rw[e] at hn ⊢
  by_cases h1:dQ v.name=false
  ·rw[if_pos h1]
   exact bH.eo l i v _ hi hv (Name _ rl) h1
  ·rw[if_neg h1] at hn ⊢
   refine bH.ew l i v _ hi hv (Name _ rl) (by simpa using h1) (by omega) ?_
   by_cases ha:(l.an.take i).any (fun x=>decide (x.name=v.name))=true
   ·rw[if_pos ha]
    have key:=jA (p:=fun x=>decide (x.name=v.name)) (xs:=l.an.take i) (L:=fun g r=>bH.aM i l i (l.an.take i) (l.an.take i).length g v r) (A:=iE 6) (B:=iE 6)
     (fun g w hg hw hp=>bH.mX i l i _ _ g v w hg hw (of_decide_eq_true hp))
     (fun g w r hg hw hp hL=>bH.mY i l i _ _ g v w hg hw (of_decide_eq_false hp) (by rw[List.length_take] at hg;omega) hL)
     (fun s7=>absurd ha (by rw[s7];simp))
    rw[if_pos ha] at key
    exact key
   ·rw[if_neg ha] at hn ⊢
    have go:∀{B:PV},bH.aM i l i (l.an.take i) (l.an.take i).length (l.an.take i).length v B→bH.aM i l i (l.an.take i) (l.an.take i).length 0 v B:=fun {B} hB=>by
     have key:=jA (p:=fun x=>decide (x.name=v.name)) (xs:=l.an.take i) (L:=fun g r=>bH.aM i l i (l.an.take i) (l.an.take i).length g v r) (A:=iE 6) (B:=B)
      (fun g w hg hw hp=>bH.mX i l i _ _ g v w hg hw (of_decide_eq_true hp))
      (fun g w r hg hw hp hL=>bH.mY i l i _ _ g v w hg hw (of_decide_eq_false hp) (by rw[List.length_take] at hg;omega) hL)
      (fun _=>hB)
     rw[if_neg ha] at key
     exact key
    refine go ?_
    unfold dE at hn ⊢
    cases hb:nth l.ab v.body with
    |none =>
     exact bH.xR i l i _ _ _ v _ (Nat.le_refl _) (ma _ _) (dF hb)
    |some b =>
     rw[hb] at hn
     dsimp only at hn ⊢
     by_cases h0:v.body=0
     ·rw[if_pos h0]
      exact bH.IS i l i _ _ _ v _ (Nat.le_refl _) (ma _ _) (dh hb) h0
     ·rw[if_neg h0] at hn ⊢
      refine bH.OL i l i _ _ _ v _ (Nat.le_refl _) (ma _ _) (dh hb) h0 (by omega) ?_
      have key:=jA (p:=fun x=>decide (x.body=v.body)) (xs:=l.an.take i) (L:=fun g r=>bH.fp l i (l.an.take i) (l.an.take i).length g v r) (A:=iE 6) (B:=r)
       (fun g w hg hw hp=>bH.KV l i _ _ g v w hg hw (of_decide_eq_true hp))
       (fun g w r hg hw hp hL=>bH.KW l i _ _ g v w hg hw (of_decide_eq_false hp) (by rw[List.length_take] at hg;omega) hL)
       (fun s7=>bH.PR l i _ _ _ v (Nat.le_refl _) (by omega) (hn (by rw[if_neg (by rw[s7];simp)])))
      by_cases hc:(l.an.take i).any (fun x=>decide (x.body=v.body))=true
      ·rw[if_pos hc] at key ⊢
       exact key
      ·rw[if_neg hc] at key ⊢
       exact key
theorem JC(e:Int):N9 e=bL (if e=0 then none else some e):=by
 by_cases h:e=0
 ·subst h;rfl
 ·rw[qP h,if_neg h];rfl
theorem Check(l:aj)(hf:lM l):Cp 23 [l.pv] (N9 (sZ l)):=by
 unfold sZ
 have hN:=Name _ hf.name
 by_cases h1:dQ l.name=false
 ·rw[if_pos h1];exact jx.e0 l _ hN h1
 ·rw[if_neg h1]
  have h1:dQ l.name=true:=by simpa using h1
  by_cases h2:l.ab.length=0
  ·rw[if_pos h2];exact jx.e1 l _ hN h1 h2
  ·rw[if_neg h2]
   by_cases h3:8<l.ab.length
   ·rw[if_pos h3];exact jx.e2 l _ hN h1 h2 h3
   ·rw[if_neg h3]
    have hB:=ab l.ab hf.ab (by omega)
    by_cases h4:nE l.ab=0
    ·rw[if_neg (by omega)]
     rw[h4] at hB
     have hJ:=aq l hf
     by_cases h5:pd l=0
     ·rw[if_neg (by omega)]
      rw[h5] at hJ
      rw[JC]
      refine jx.e3 l _ _ hN h1 h2 (by omega) hB hJ ?_
      rw[←JC];exact an l hf
     ·rw[if_pos h5,qP h5]
      rw[qP h5] at hJ
      exact jx.e4 l _ _ hN h1 h2 (by omega) hB hJ
    ·rw[if_pos h4,qP h4]
     rw[qP h4] at hB
     exact jx.e5 l _ _ hN h1 h2 (by omega) hB
end fF
end Go.Proofs.YtfjfekodeplcoaaGreat.Sym
namespace Go.Proofs.YtfjfekodeplcoaaGreat.Sym
open Go
set_option linter.unusedVariables false
section
variable {α:Type} (lt:α→α→Bool)
def Ab(x:α):List α→List α
 |[]=>[x]
 |y::rp=>bif lt x y then Ab x rp++[y] else rp.reverse++[y,x]
def isort:List α→List α→List α
 |D,[]=>D
 |D,x::T=>isort (Ab lt x D.reverse) T
variable {lt}
theorem sM(x:α):∀(rp:List α),(Ab lt x rp).Perm (x::rp.reverse)
 |[] => .refl _
 |y::rp=>by
  unfold Ab
  cases lt x y with
  |true =>
   rw[cond_true,List.reverse_cons]
   exact(sM x rp).append_right [y]
  |false =>
   rw[cond_false,List.reverse_cons]
   have:(rp.reverse++[y,x]).Perm ([x]++(rp.reverse++[y])):=by
    rw[show rp.reverse++[y,x]=(rp.reverse++[y])++[x] by simp]
    exact List.perm_append_comm
   exact this
theorem DV(x:α)(rp:List α):(Ab lt x rp).length=rp.length+1:=by rw[(sM x rp).length_eq,List.length_cons,List.length_reverse]
theorem uj:∀(T D:List α),(isort lt D T).Perm (D++T)
 |[],D=>by rw[isort,List.append_nil]
 |x::T,D=>by
  rw[isort]
  refine(uj T _).trans ?_
  have:=(sM (lt:=lt) x D.reverse).append_right T
  rw[List.reverse_reverse] at this
  exact this.trans List.perm_middle.symm
theorem Gt(Qg:∀a b c,lt b a=false→lt c b=false→lt c a=false)(has:∀a b,lt a b=true→lt b a=false)(x:α):∀(rp:List α),rp.reverse.Pairwise (fun a b=>lt b a=false)→(Ab lt x rp).Pairwise (fun a b=>lt b a=false)
 |[],_=>by simp[Ab]
 |y::rp,h=>by
  rw[List.reverse_cons,List.pairwise_append] at h
  obtain⟨h1,_,h2⟩:=h
  unfold Ab
  cases hc:lt x y with
  |true =>
   rw[cond_true,List.pairwise_append]
   refine⟨Gt Qg has x rp h1,by simp,fun a ha b hb => ?_⟩
   have hb:b=y:=by simpa using hb
   subst hb
   rcases List.mem_cons.1 ((sM x rp).mem_iff.1 ha) with rfl|ha
   ·exact has _ _ hc
   ·exact h2 a ha b (List.mem_cons_self ..)
  |false =>
   rw[cond_false,List.pairwise_append]
   refine⟨h1,by simp[hc],fun a ha b hb => ?_⟩
   have hy:=h2 a ha y (List.mem_cons_self ..)
   rcases List.mem_cons.1 hb with rfl|hb
   ·exact hy
   ·have hb:b=x:=by simpa using hb
    subst hb
    exact Qg _ _ _ hy hc
theorem Ac(Qg:∀a b c,lt b a=false→lt c b=false→lt c a=false)(has:∀a b,lt a b=true→lt b a=false):∀(T D:List α),D.Pairwise (fun a b=>lt b a=false)→(isort lt D T).Pairwise (fun a b=>lt b a=false)
 |[],D,h=>h
 |x::T,D,h=>Ac Qg has T _ (Gt Qg has x D.reverse (by rw[List.reverse_reverse];exact h))
theorem cM{p s:List α}{x:α}{j:Nat}(h:p.length=j):(p++x::s)[j]? = some x:=by
 subst h;rw[List.getElem?_append_right (Nat.le_refl _),Nat.sub_self];rfl
theorem sJ{p s:List α}{x y:α}{j:Nat}(h:p.length=j):(p++x::s).set j y=p++y::s:=by
 subst h;rw[List.set_append_right _ _ (Nat.le_refl _),Nat.sub_self];rfl
theorem DW{L1:List α→Prop}{L2:Nat→List α→Prop}
  (h0:∀X,L1 X→L2 0 X)
  (cQ:∀j X x y,X[j+1]? = some x→X[j]? = some y→lt x y=true→L2 j ((X.set (j+1) y).set j x)→L2 (j+1) X)
  (rz:∀j X x y,X[j+1]? = some x→X[j]? = some y→lt x y=false→L1 X→L2 (j+1) X) (x:α) :
  ∀(rp s:List α),L1 (Ab lt x rp++s)→L2 rp.length (rp.reverse++x::s)
 |[],s,h=>h0 _ h
 |y::rp,s,h=>by
  have e:(y::rp).reverse++x::s=rp.reverse++y::x::s:=by simp
  have e1:(rp.reverse++y::x::s)[rp.length]? = some y:=cM (List.length_reverse ..)
  have e2:(rp.reverse++y::x::s)[rp.length+1]? = some x:=by
   have:rp.reverse++y::x::s=(rp.reverse++[y])++x::s:=by simp
   rw[this];exact cM (by simp)
  rw[e]
  unfold Ab at h
  cases hc:lt x y with
  |true =>
   rw[hc,cond_true] at h
   refine cQ rp.length _ x y e2 e1 hc ?_
   have e3:((rp.reverse++y::x::s).set (rp.length+1) y).set rp.length x=rp.reverse++x::y::s:=by
    have:rp.reverse++y::x::s=(rp.reverse++[y])++x::s:=by simp
    rw[this,sJ (by simp),show(rp.reverse++[y])++y::s=rp.reverse++y::y::s by simp,sJ (List.length_reverse ..)]
   rw[e3]
   refine DW h0 cQ rz x rp (y::s) ?_
   rwa[List.append_assoc] at h
  |false =>
   rw[hc,cond_false] at h
   refine rz rp.length _ x y e2 e1 hc ?_
   rwa[List.append_assoc] at h
theorem uk{L1:Nat→List α→Prop}{L2:Nat→Nat→List α→Prop}{n:Nat}
  (enter:∀i X,i<n→X.length=n→L2 i i X→L1 i X)
  (h0:∀i X,i<n→X.length=n→L1 (i+1) X→L2 i 0 X)
  (cQ:∀i j X x y,i<n→j+1≤i→X.length=n→X[j+1]? = some x→X[j]? = some y→lt x y=true→L2 i j ((X.set (j+1) y).set j x)→L2 i (j+1) X)
  (rz:∀i j X x y,i<n→j+1≤i→X.length=n→X[j+1]? = some x→X[j]? = some y→lt x y=false→L1 (i+1) X→L2 i (j+1) X) :
  ∀(T D:List α),D.length+T.length=n→L1 n (isort lt D T)→L1 D.length (D++T)
 |[],D,hn,h=>by
  have:D.length=n:=by simpa using hn
  rw[List.append_nil,this];exact h
 |x::T,D,hn,h=>by
  rw[List.length_cons] at hn
  have hlen:(D++x::T).length=n:=by rw[List.length_append,List.length_cons];omega
  refine enter D.length _ (by omega) hlen ?_
  have key:=DW (lt:=lt) (L1:=fun X=>X.length=n→L1 (D.length+1) X) (L2:=fun j X=>j≤D.length→X.length=n→L2 D.length j X)
   (fun X hX _ hl=>h0 _ X (by omega) hl (hX hl))
   (fun j X x y hx hy hc hX hj hl=>cQ _ j X x y (by omega) hj hl hx hy hc (hX (by omega) (by rw[List.length_set,List.length_set];exact hl)))
   (fun j X x y hx hy hc hX hj hl=>rz _ j X x y (by omega) hj hl hx hy hc (hX hl)) x D.reverse T
   (fun _=>by
    have:=uk enter h0 cQ rz T (Ab lt x D.reverse) (by rw[DV,List.length_reverse];omega) h
    rwa[DV,List.length_reverse] at this)
  rw[List.reverse_reverse,List.length_reverse] at key
  exact key (Nat.le_refl _) hlen
end
end Go.Proofs.YtfjfekodeplcoaaGreat.Sym
namespace Go.Proofs.YtfjfekodeplcoaaGreat.Sym
open Go Go.RowKit Go.Shelf
set_option linter.unusedVariables false
theorem ur.grow(hS:Ou){w w':World}(h:ur w.heap.size w w'):∃q Uw,w'=Sort.grow (w.drewN q) Uw:=by
 refine⟨w'.drawn-w.drawn,w'.heap.extract w.heap.size w'.heap.size,?_⟩
 obtain⟨⟨h1,h2,h3,h4,h5⟩,h6⟩:=h
 have h6:=h6 hS
 obtain⟨hp,tp,dr,os,out⟩:=w
 obtain⟨hp',Xm,Ux,Uw,Wo⟩:=w'
 simp only[Sort.grow,World.drewN] at *
 subst h1;subst h2;subst h3
 have e1:dr+(Ux-dr)=Ux:=by omega
 have e2:hp++hp'.extract hp.size hp'.size=hp':=by
  apply Array.ext_getElem?
  intro i
  by_cases hi:i<hp.size
  ·rw[Array.getElem?_append_left hi,h5 i hi]
  ·rw[Array.getElem?_append_right (by omega),Array.getElem?_extract]
   by_cases hj:i<hp'.size
   ·rw[if_pos (by omega)]
    congr 1;omega
   ·rw[if_neg (by omega),Array.getElem?_eq_none (by omega)]
 rw[e1,e2]
def s8(arr:Array Value)(off k n x:Nat):List Value:=(List.range k).map fun j=>arr.getD (off+((bif Nat.blt x n then x else 0)*k+j)) undef
theorem vr(arr:Array Value)(off k n x:Nat):(s8 arr off k n x).length=k:=by simp[s8]
def HB(n x:Nat):Nat:=bif Nat.blt x n then x else 0
theorem qQ{n x:Nat}(h:0<n):HB n x<n:=by
 unfold HB
 cases hb:Nat.blt x n with
 |true=>exact Nat.le_of_ble_eq_true hb
 |false=>exact h
theorem Cz{n x:Nat}(h:x<n):HB n x=x:=by
 unfold HB
 have:Nat.blt x n=true:=Nat.ble_eq_true_of_le h
 rw[this];rfl
theorem Ad{arr:Array Value}{off k n x j:Nat}(hj:j<k):(s8 arr off k n x)[j]? = some (arr.getD (off+(HB n x*k+j)) undef):=by
 unfold s8
 rw[List.getElem?_map,List.getElem?_range hj]
 rfl
def Hi(c:List PV→List PV→Int)(xs:List (List PV))(x y:Nat):Int:=c (xs.getD (HB xs.length x) []) (xs.getD (HB xs.length y) [])
structure JD (c:List PV→List PV→Int) (xs:List (List PV)):Prop where
 irrefl:∀a∈xs,¬c a a<0
 trans:∀a∈xs,∀b∈xs,∀d∈xs,c a b<0→c b d<0→c a d<0
 ntrans:∀a∈xs,∀b∈xs,∀d∈xs,¬c a b<0→¬c b d<0→¬c a d<0
theorem mI{α:Type}{xs:List α}{i:Nat}{d:α}(h:i<xs.length):xs.getD i d∈xs:=by
 rw[List.getD_eq_getElem?_getD,List.getElem?_eq_getElem h,Option.getD_some]
 exact List.getElem_mem h
theorem JD.JE{c:List PV→List PV→Int}{xs:List (List PV)}(h:JD c xs)(h0:0<xs.length):Sort.SWO (ltOf (Hi c xs)) where
 irrefl x:=by
  have:=h.irrefl _ (mI (d:=[]) (qQ (x:=x) h0))
  unfold ltOf Hi;exact decide_eq_false this
 trans x y z h1 h2:=by
  unfold ltOf Hi at *
  exact decide_eq_true (h.trans _ (mI (qQ h0)) _ (mI (qQ h0)) _ (mI (qQ h0)) (of_decide_eq_true h1) (of_decide_eq_true h2))
 ntrans x y z h1 h2:=by
  unfold ltOf Hi at *
  exact decide_eq_false (h.ntrans _ (mI (qQ h0)) _ (mI (qQ h0)) _ (mI (qQ h0)) (of_decide_eq_false h1) (of_decide_eq_false h2))
def fV(c:List PV→List PV→Int)(xs:List (List PV)):Array Nat:=Sort.pdq (ltOf (Hi c xs)) (Array.range xs.length) 0 xs.length (Lib.bitLen xs.length) true true
def lF(c:List PV→List PV→Int)(xs:List (List PV)):List (List PV):=(fV c xs).toList.map (xs.getD · [])
section
variable {c:List PV→List PV→Int} {xs:List (List PV)}
theorem mJ(h:JD c xs)(h0:0<xs.length):(fV c xs).toList.Perm (List.range xs.length)∧Sort.SortedIn (ltOf (Hi c xs)) 0 xs.length (fV c xs):=by
 obtain⟨⟨g1,g2,g3⟩,g4⟩:=Sort.pdq_sorts (ltOf (Hi c xs)) (h.JE h0) (Array.range xs.length) 0 xs.length (Lib.bitLen xs.length) true true (Nat.zero_le _) (by simp) (Or.inl rfl)
 refine⟨?_,g4⟩
 rw[Array.size_range] at g1
 have e1:((Sort.pdq (ltOf (Hi c xs)) (Array.range xs.length) 0 xs.length (Lib.bitLen xs.length) true true).extract 0 xs.length)=fV c xs:=by
  show(fV c xs).extract 0 xs.length=_
  have:xs.length=(fV c xs).size:=g1.symm
  generalize fV c xs=z at this
  rw[this]
  exact Array.extract_size
 have e2:(Array.range xs.length).extract 0 xs.length=Array.range xs.length:=by
  conv=>lhs;arg 3;rw[←Array.size_range (n:=xs.length)]
  exact Array.extract_size
 rw[e1,e2,Array.toList_range] at g3
 exact g3
theorem xk(h:JD c xs)(h0:0<xs.length):(fV c xs).size=xs.length:=by
 have:=(mJ h h0).1.length_eq
 simpa using this
theorem sN(h:JD c xs)(h0:0<xs.length){i:Nat}(hi:i∈(fV c xs).toList):i<xs.length:=by
 have:=(mJ h h0).1.mem_iff.1 hi
 simpa using this
theorem Ae{α:Type}(l:List α)(d:α):(List.range l.length).map (l.getD · d)=l:=by
 apply List.ext_getElem?
 intro i
 rw[List.getElem?_map]
 by_cases hi:i<l.length
 ·rw[List.getElem?_range hi,Option.map_some,List.getD_eq_getElem?_getD,List.getElem?_eq_getElem hi];rfl
 ·rw[List.getElem?_eq_none (by simpa using hi),List.getElem?_eq_none (by omega)];rfl
theorem xl(h:JD c xs)(h0:0<xs.length):(lF c xs).Perm xs:=by
 have:=(mJ h h0).1.map (xs.getD · [])
 rw[Ae] at this
 exact this
theorem AQ(h:JD c xs)(h0:0<xs.length):(lF c xs).Pairwise fun a b=>¬c b a<0:=by
 unfold lF
 rw[List.pairwise_map,List.pairwise_iff_getElem]
 intro i j hi hj xN
 have hs:=xk h h0
 have Kh:i<xs.length:=by rw[←hs];simpa using hi
 have Wp:j<xs.length:=by rw[←hs];simpa using hj
 have:=(mJ h h0).2 i j (Nat.zero_le _) xN Wp
 have e:∀(q:Nat) (hq:q<(fV c xs).toList.length),(fV c xs)[q]! = (fV c xs).toList[q]:=fun q hq=>by
  rw[getElem!_pos _ q (by simpa using hq)];rfl
 rw[e j hj,e i hi] at this
 have h1:=of_decide_eq_false (p:=Hi c xs _ _<0) this
 unfold Hi at h1
 rw[Cz (sN h h0 (List.getElem_mem hj)),Cz (sN h h0 (List.getElem_mem hi))] at h1
 exact h1
end
theorem Af(enc:Nat→List Value)(k:Nat)(w:World)(b off m:Nat)(d:Array Nat)(os:Array Obj)(x:Nat)(hx:x<w.heap.size) :
  (sortWorldK enc k w b off m d os).heap[x]? = if b=x then w.heap[x]?.map (Sort.onCells (Sort.putCells id off (Sort.flatK enc k d))) else w.heap[x]? := by
 unfold sortWorldK Sort.putRowK Sort.putRow Sort.mapBlock Sort.grow Sort.ahead
 simp only
 rw[Array.getElem?_append_left (by simpa using hx),Array.getElem?_modify]
theorem um(enc:Nat→List Value)(k:Nat)(w:World)(b off m:Nat)(d:Array Nat)(os:Array Obj) :
  (sortWorldK enc k w b off m d os).heap.size=w.heap.size+os.size:=by
 unfold sortWorldK Sort.putRowK Sort.putRow Sort.mapBlock Sort.grow Sort.ahead
 simp
end Go.Proofs.YtfjfekodeplcoaaGreat.Sym
namespace Go.Proofs.YtfjfekodeplcoaaGreat.Sym
open Go Go.RowKit Go.Shelf Go.Lib
set_option linter.unusedVariables false
theorem JF(b o i:Nat):(⟨b,o,none⟩:Addr).add i=⟨b,o+i,none⟩:=by
 unfold Addr.add
 split
 ·rename_i h;subst h;rfl
 ·rfl
theorem wK{α:Type} : ∀(a:Ask α) (w:World),w.drawn≤(w.ask a).2.drawn
 |.done a,w=>by simp[World.ask]
 |.ask what range k,w=>by
  unfold World.ask
  dsimp only
  split
  ·exact wK (k 0) w
  ·exact Nat.le_trans (Nat.le_succ w.drawn) (wK (k ((Question.extern what range).cut (w.tape w.drawn (Question.extern what range)))) { w with drawn:=w.drawn+1 })
theorem Hj(w:World)(c:Sys):w.drawn≤(w.sys c).2.drawn:=by
 have:=wK (Kernel.perform c w.os) w
 unfold World.sys
 split
 ·exact Nat.le_refl _
 ·rename_i r os w' e
  rw[e] at this
  exact this
theorem Ag{p:Program}{w w':World}{a:Addr}{v:Value}{b:Bool}{t:List Addr}(h:w.farStore p a v b = .ok (w',t)):w'.drawn=w.drawn:=by
 unfold World.farStore at h
 split at h
 ·split at h
  ·rename_i r hr
   injection h with h;subst h
   unfold World.viewStore at hr
   simp only[bind,Except.bind,pure,Except.pure] at hr
   repeat' (split at hr)
   all_goals first|(cases hr;done)|skip
   all_goals
    injection hr with hr
    injection hr with hr _
    rw[←hr]
  ·cases h
 ·cases h
theorem Hk{α:Type}{p:Program}(m:Sem α):∀{w w':World} {v:α},m.run p w = .ok v w'→w.drawn≤w'.drawn:=by
 induction m with
 |pure a=>intro w w' v h;injection h with h1 h2;rw[h2];exact Nat.le_refl _
 |load m a k ih =>
  intro w w' v h
  unfold Sem.run at h
  split at h
  ·exact ih _ h
  ·split at h
   ·exact ih _ h
   ·cases h
 |store m a v k ih =>
  intro w w' x h
  cases v
  case agg=>cases h
  case tuple=>cases h
  all_goals
   unfold Sem.run at h
   split at h
   ·split at h
    ·cases h
    ·exact ih (w:=w.setCell a _) h
   ·split at h
    ·rename_i hf
     have h1:=Ag hf
     have h2:=ih h
     omega
    ·cases h
 |new o k ih=>intro w w' v h;exact ih _ (w := { w with heap:=w.heap.push o }) h
 |shape r k ih=>intro w w' v h;exact ih _ h
 |freeze a n k ih =>
  intro w w' v h
  have h1:=ih (w:=w.freeze a n) h
  have h2:(w.freeze a n).drawn=w.drawn:=by
   unfold World.freeze
   first|rfl|(split<;>rfl)
  omega
 |frozen a k ih=>intro w w' v h;exact ih _ h
 |getObj r k ih =>
  intro w w' v h
  unfold Sem.run at h
  split at h
  ·cases h
  ·exact ih _ h
  ·cases h
 |setObj r o k ih =>
  intro w w' v h
  unfold Sem.run at h
  split at h
  ·cases h
  ·exact ih (w := { w with heap:=w.heap.setIfInBounds r o }) h
  ·cases h
 |choose q k ih =>
  intro w w' v h
  unfold Sem.run at h
  split at h
  ·exact ih _ h
  ·exact Nat.le_trans (Nat.le_succ _) (ih _ (w := { w with drawn:=w.drawn+1 }) h)
 |sys c k ih=>intro w w' v h;exact Nat.le_trans (Hj w c) (ih _ h)
 |program k ih=>intro w w' v h;exact ih _ h
 |mark m k ih=>intro w w' v h;exact ih h
 |halt h'=>intro w w' v h;cases h
section
variable {P:Program} {ρ:Ren}
theorem s9{w:World}{ops:Array Oper}{rest:List Oper}{o:Oper}{a:Act}{Q:Exit→Act→World→Prop}(Wq:o.guard=none)(s x:Operand)(t:TypeId)
  (ho:o.op = .call { callee := .builtin .append,args := #[s,x],argTypes := #[t,t] })
  (base:Nat) (e:TypeId) (i:TypeInfo) (z:Value) (size bytes:Nat) (ht:P.underlying t=some (.slice e)) (hi:P.info? e=some i) (hz:i.zero=some z)
  (pG:i.size=size) (Kc:i.bytes=bytes) (ta:z.cells.size=size) (jC:0<size)
  (v:Value) (n:Nat) (xs:List Value) (hs:a.eval s=v) (JG:w.ownsRow base e size v n xs)
  (ad:Addr) (m c:Nat) (news:List Value) (hx:a.eval x = .slice (some ad) m c) (hl:news.length=m*size) (C3:∀j u,news[j]? = some u→w.cell? (ad.add j)=some u) (h1:∀u∈news,u.oneCell'=true)
  (OZ:n+m≤maxLen) (lU:(n+m)*bytes≤140737488355328) (Qh:base≤w.heap.size)
  (h:∀v' w',w'.ownsRow base e size v' (n+m) (xs++news)→w.grownBy w' v.ownBlock→w.drawn≤w'.drawn→wpList P ops Q rest (a.put o.dst v') w') :
  wpList P ops Q (o::rest) a w:=by
 refine wpList_plain Wq fun K hK => ?_
 obtain⟨v',w',hr,h2,h3,_⟩:=run_append_own (P:=P) w base t o.type e i z size bytes ht hi hz pG Kc ta jC v n xs JG ad m c news hl C3 h1 OZ lU Qh
 unfold Oper.wp execOp
 simp only[ho,resolve,invoke,builtin,Sem.run_bind,Sem.run_pure,Result.andThen_ok,List.map_toArray,List.map_cons,List.map_nil,hs,hx,hr]
 exact hK _ _ (h v' w' h2 h3 (Hk _ hr))
set_option maxHeartbeats 2000000 in
set_option maxRecDepth 100000 in
theorem DX(L:SlLaysE0.n41 P ρ)(i0:TypeInfo)(z:Value)(size bytes:Nat)(hi:P.info? (ρ.t 23)=some i0)(Tb:i0.zero=some z)(Fz:i0.size=size)(HN:i0.bytes=bytes)(ta:z.cells.size=size)(jC:0<size)
  (z23:∀w,(Go.sizeOf (ρ.t 23)).run P w = .ok size w) (ad:Addr) (n c:Nat) (news:List Value) (w:World) (hl:news.length=n*size) (hn:n≤maxLen) (Oa:n*bytes≤140737488355328)
  (hc:∀j u,news[j]? = some u→w.cell? (ad.add j)=some u) (h1:∀u∈news,u.oneCell'=true) :
  Calls P (ρ.f 41) #[.slice (some ad) n c] w fun e w'=>∃v',e = .returned v'∧w'.ownsRow w.heap.size (ρ.t 23) size v' n news∧ur w.heap.size w w':=by
 have mixed:=L.mixed;have t4:=L.t4;have a4:=L.a4;have z4:=L.z4;have v4:=L.v4;have t22:=L.t22;have a22:=L.a22;have z22:=L.z22;have v22:=L.v22
 have Xn:∀(w:World) (a:Option Addr) (n c n' c':Nat),(binOp .eql (ρ.t 22) (.slice a n c) (.slice none n' c')).run P w = .ok (.bool a.isNone) w:=fun w a n c n' c'=>Lib.run_eql_slice_nil w _ _ a n c n' c' L.t22
 have Xo:∀w,Sem.run P (underlying (ρ.t 22)) w = .ok (TypeDesc.slice (ρ.t 23)) w:=run_underlying t22
 have A:Aside (∀j u,news[j]? = some u→w.cell? (ad.add j)=some u):=hc
 clear hc
 obtain⟨_,_,FG⟩:=L.f41
 go_enter FG,SlBodyN.n41_ntmps ρ
 go_wp2_with (at_builtin;refine s9 rfl _ _ (ρ.t 22) rfl w.heap.size (ρ.t 23) i0 z size bytes t22 hi Tb Fz HN ta jC _ _ _ rfl (World.ownsRow_made w #[] 0 (Nat.le_refl _) (Nat.zero_le _) (by simp)) ad n c news rfl ?qc1 ?qc2 ?qc3 ?qc4 ?qc5 ?qc6 ?_)
 case qc1=>exact hl
 case qc2 =>
  intro j u hj
  exact Lib.cell?_alloc_some _ (A.out j u hj)
 case qc3=>exact h1
 case qc4=>rw[Nat.zero_add];exact hn
 case qc5=>rw[Nat.zero_add];exact Oa
 case qc6=>simp
 intro v' w1 JG mm sq
 go_wp2
 go_ret
 refine⟨v',rfl,by simpa using JG,?_,fun _=>sq⟩
 exact((Below.refl _ w).alloc (Nat.le_refl _) _).grown mm (by simp) (by intro k hk;simp[Value.ownBlock] at hk;omega)
theorem Bt{α:Type}{k:Nat} : ∀{xs:List (List α)},(∀row∈xs,row.length=k)→xs.flatten.length=xs.length*k
 |[],_=>by simp
 |x::xs,h=>by rw[List.flatten_cons,List.length_append,h x (List.mem_cons_self ..),Bt (fun r hr=>h r (List.mem_cons_of_mem _ hr)),List.length_cons,Nat.succ_mul];omega
theorem JH(L:SlLaysE0.n41 P ρ)(hf:mj P (ρ.f 41))(i0:TypeInfo)(z:Value)(k bytes:Nat)(hi:P.info? (ρ.t 23)=some i0)(Tb:i0.zero=some z)(Fz:i0.size=k)(HN:i0.bytes=bytes)(ta:z.cells.size=k)(Kx:0<k)
  (z23:∀w,(Go.sizeOf (ρ.t 23)).run P w = .ok k w) (xs:List (List PV)) (hlen:∀row∈xs,row.length=k) (Oa:xs.length*bytes≤140737488355328) (Em:0<bytes) :
  av P (ρ.f 41) [.pv (.list xs)] [] (.row 0 0 xs.length k) [(0,.pure xs.flatten)]:=by
 refine⟨hf,fun I w β vs hI AD hl wR _ => ?_⟩
 obtain⟨v,rfl⟩:∃v,vs = #[v]:=by
  match vs,hl with
  |⟨[v]⟩,_=>exact⟨v,rfl⟩
 have hv:Rd I w (.list xs) v:=wR 0 _ v rfl rfl
 have d0:aS [(0,SC.pure xs.flatten)] 0:=by unfold aS;rw[aG.bY (by omega)];rfl
 have dq:∀q,aS [(0,SC.pure xs.flatten)] q→q=0:=fun q h=>by
  unfold aS at h
  rw[aG.bY (by omega),aG.get_nil] at h
  cases hb:Nat.beq 0 q with
  |true=>exact(Nat.eq_of_beq_eq_true hb).symm
  |false=>simp[hb] at h
 have core:∀(ad:Addr) (c:Nat) (news:List Value),v = .slice (some ad) xs.length c→news.length=xs.length*k→(∀(j:Nat) u,news[j]? = some u→w.cell? (ad.add j)=some u)→(∀u∈news,u.oneCell'=true) →
   (∀(q:Nat) p,xs.flatten[q]? = some p→∃u,news[q]? = some u∧Rd I w p u)→Calls P (ρ.f 41) #[v] w (pH [] [(0,.pure xs.flatten)] (.row 0 0 xs.length k) β I w):=by
  rintro ad c news rfl hnl TX Kg hnr
  have R7:xs.length≤maxLen:=by
   have:xs.length≤xs.length*bytes:=Nat.le_mul_of_pos_right _ Em
   unfold maxLen;omega
  refine(DX L i0 z k bytes hi Tb Fz HN ta Kx z23 ad xs.length c news w hnl R7 Oa TX Kg).mono ?_
  rintro e w' ⟨v',rfl,JG,hbel⟩
  have zR:∀b o,I b→w'.cell? ⟨b,o,none⟩=w.cell? ⟨b,o,none⟩:=fun b o hb=>dM (hbel.block b (hI b hb)) o
  rcases JG.2 with ⟨rfl,NZ⟩|⟨g,cap,cur,rfl,Wr,hg,Tc,QX,ot,Qi⟩
  ·have hx:xs=[]:=List.length_eq_zero_iff.1 NZ
   subst hx
   refine⟨_,fun _=>none,rfl,fun x hx=>absurd hx ez,gS.yC hbel,⟨fun r sc hr=>⟨.inl ⟨rfl,?_⟩,fun b hb=>by cases hb⟩,fun r r' b _ _ hb=>by cases hb⟩,⟨d0,.inl ⟨rfl,rfl,rfl⟩⟩,fun x b _ _ hb=>by cases hb⟩
   have:r=0:=dq r (by unfold aS;rw[hr];rfl)
   subst this
   rw[aG.bY (by omega)] at hr
   injection hr with hr;subst hr;rfl
  ·have LK:g<w'.heap.size:=(Array.getElem?_eq_some_iff.1 hg).1
   have Wt:¬I g:=fun h=>by have:=hI g h;omega
   refine⟨_,fun _=>some g,rfl,fun x hx=>absurd hx ez,gS.yC hbel,⟨fun r sc hr => ?_,fun r r' b h1 h2 _ _=>(dq r h1).trans (dq r' h2).symm⟩,⟨d0,.inr ⟨g,cap,rfl,rfl,Tc,ρ.t 23,cur.size,?_,by omega⟩⟩,fun x b _ _ hb => .inl ?_⟩
   ·have:r=0:=dq r (by unfold aS;rw[hr];rfl)
    subst this
    rw[aG.bY (by omega)] at hr
    injection hr with hr;subst hr
    refine⟨.inr ⟨g,cur,ρ.t 23,rfl,hg,fun j e he => ?_⟩,fun b hb => ?_⟩
    ·unfold SC.jc at he
     rw[List.getElem?_map] at he
     cases hp:xs.flatten[j]? with
     |none=>rw[hp] at he;cases he
     |some p =>
      rw[hp] at he
      injection he with he;subst he
      obtain⟨u,hu,hr⟩:=hnr j p hp
      refine⟨u,?_,Kg u (List.mem_of_getElem? hu),hr.mono (fun b hb => .inl hb) zR⟩
      rw[←Qi,List.getElem?_take] at hu
      split at hu
      ·simpa using hu
      ·cases hu
    ·injection hb with hb;subst hb
     refine⟨LK,fun h => ?_⟩
     rcases h with h|⟨_,h⟩
     ·exact Wt h
     ·exact h 0 d0 rfl
   ·simp[World.shape?,hg]
   ·injection hb with hb;subst hb
    exact⟨Wr,LK⟩
 cases hv with
 |nil a c =>
  cases a with
  |none =>
   refine(AnyE.slices_Clone_nil L 0 c w).mono ?_
   rintro e w' ⟨rfl,rfl⟩
   refine⟨_,fun _=>none,rfl,fun x hx=>absurd hx ez,gS.refl _ _,⟨fun r sc hr=>⟨.inl ⟨rfl,?_⟩,fun b hb=>by cases hb⟩,fun r r' b _ _ hb=>by cases hb⟩,⟨d0,.inl ⟨rfl,rfl,rfl⟩⟩,fun x b _ _ hb=>by cases hb⟩
   have:r=0:=dq r (by unfold aS;rw[hr];rfl)
   subst this
   rw[aG.bY (by omega)] at hr
   injection hr with hr;subst hr;rfl
  |some ad=>exact core ad c [] rfl (by simp) (fun j u h=>by simp at h) (fun u h=>by simp at h) (fun q p h=>by simp at h)
 |list _ b o c s f hc hb hs ho h =>
  by_cases G1:xs=[]
  ·subst G1
   exact core ⟨b,o,none⟩ c [] rfl (by simp) (fun j u h=>by simp at h) (fun u h=>by simp at h) (fun q p h=>by simp at h)
  ·have Wu:s=k:=by
    obtain⟨x,t,rfl⟩:=List.exists_cons_of_ne_nil G1
    rw[←hs 0 x rfl,hlen x (List.mem_cons_self ..)]
   subst Wu
   have Hz:∀q,q<xs.length*s→∃row x,xs[q/s]? = some row∧row[q%s]? = some x∧xs.flatten[q]? = some x:=fun q hq=>by
    have h1:q/s<xs.length:=Nat.div_lt_of_lt_mul (by rw[Nat.mul_comm];exact hq)
    have e1:=List.getElem?_eq_getElem h1
    have h2:q%s<(xs[q/s]).length:=by rw[hlen _ (List.getElem_mem h1)];exact Nat.mod_lt _ Kx
    have e2:=List.getElem?_eq_getElem h2
    refine⟨_,_,e1,e2,?_⟩
    have:=nJ hlen e1 e2
    rw[show q/s*s+q%s=q by rw[Nat.mul_comm];exact Nat.div_add_mod q s] at this
    exact this
   refine core ⟨b,o,none⟩ c ((List.range (xs.length*s)).map fun q=>f (q/s) (q%s)) rfl (by simp) ?_ ?_ ?_
   ·intro j u hj
    rw[List.getElem?_map] at hj
    by_cases C1:j<xs.length*s
    ·rw[List.getElem?_range C1] at hj
     injection hj with hj;subst hj
     obtain⟨row,x,e1,e2,_⟩:=Hz j C1
     have:=(ho _ _ row x e1 e2).2
     rw[JF,←this,show j/s*s+j%s=j by rw[Nat.mul_comm];exact Nat.div_add_mod j s]
    ·rw[List.getElem?_eq_none (by simpa using C1)] at hj;cases hj
   ·intro u hu
    obtain⟨j,hj,rfl⟩:=List.mem_map.1 hu
    obtain⟨row,x,e1,e2,_⟩:=Hz j (by simpa using hj)
    exact(h _ _ row x e1 e2).iN (ho _ _ row x e1 e2).1
   ·intro q p hp
    have hq:q<xs.length*s:=by
     have:=(List.getElem?_eq_some_iff.1 hp).1
     rwa[Bt hlen] at this
    obtain⟨row,x,e1,e2,e3⟩:=Hz q hq
    rw[hp] at e3;injection e3 with e3;subst e3
    exact⟨_,by rw[List.getElem?_map,List.getElem?_range hq];rfl,h _ _ row p e1 e2⟩
end
end Go.Proofs.YtfjfekodeplcoaaGreat.Sym
