/- The comparison of algebraic numbers is a total order that agrees with the comparison with fractions. The law AlgebraicOrder returns true for every input, with the tables of numerals of the Go library that the row lists as they are laid. -/
import Derived.Test.YtllmkadmohkbfaaGreatDoorM1
import Derived.Test.YtllmkadmohkbfaaGreatDoorM0
namespace Go.Proofs.YtllmkadmohkbfaaGreatDoor.Sym
open Go Path bN
set_option linter.unusedVariables false
namespace Jm
theorem x7(a:af)(h:kq a):Cp 70 [a.pv,(⟨false,[],[]⟩:af).pv] (aN a.val).pv:=by
 have hf:=Ad.Add a ⟨false,[],[]⟩ h ⟨by simp,by simp⟩
 rwa[sJ (a:=⟨false,[],[]⟩) rfl,Rat.add_zero] at hf
theorem KS:∀(n:Nat) (q:List Rat),q.length=n→n<4611686018427387904→Fl 274877906944 q→cH.bA (q.map aN) (ae ((aJ q).map aN)):=by
 intro n
 induction n with
 |zero =>
  intro q hq _ _
  have:q=[]:=List.eq_nil_of_length_eq_zero hq
  subst this
  exact cH.Kt [] (by simp)
 |succ n ih =>
  intro q hq hb hf
  obtain⟨v,hv⟩:∃v,q[n]? = some v:=⟨_,List.getElem?_eq_getElem (by omega)⟩
  have hs:=Db hv hq
  have hm:(q.map aN)[n]? = some (aN v):=by rw[List.getElem?_map,hv];rfl
  have zZ:=hf v (List.mem_of_getElem? hv)
  have sg:=Ad.Sign (aN v) (gY zZ)
  rw[bB] at sg
  have hl:(q.map aN).length=n+1:=by rw[List.length_map];exact hq
  by_cases h0:v=0
  ·refine cH.yj (q.map aN) n (aN v) _ n (by omega) (by unfold ax;omega) (by omega) (by omega) hm sg (eS.2 h0) (by omega) (by omega) ?_
   have:=ih (q.take n) (by rw[List.length_take];omega) (by omega) (fun x hx=>hf x (List.mem_of_mem_take hx))
   rw[List.map_take] at this
   rw[hs,h0,qA]
   rw[←hs.symm,←h0,←hs] at *
   exact this
  ·rw[hs,vn h0,←hs]
   exact cH.Be (q.map aN) n (aN v) _ (by omega) (by unfold ax;omega) (by omega) (by omega) hm sg (fun e=>h0 (eS.1 e))
theorem Trim(l:List af)(hl:l.length≤1099511627776)(hf:kr 274877906944 l):Cp 106 [ae l] (ae ((aJ (bj l)).map aN)):=by
 have loop:∀(j t:Nat) (site:List af),l.length-t=j→t≤l.length→site=(l.take t).map (fun a=>aN a.val)→cH.ah site l t (ae ((aJ (bj l)).map aN)):=by
  intro j
  induction j with
  |zero =>
   intro t site hj ht hs
   have uY:t=l.length:=by omega
   subst uY
   refine cH.cV site l _ (Nat.le_refl _) ?_
   rw[List.take_of_length_le (Nat.le_refl _)] at hs
   have:=KS (bj l).length (bj l) rfl (by unfold bj;rw[List.length_map];omega) (qB hf (by omega))
   have e:site=(bj l).map aN:=by rw[hs];unfold bj;rw[List.map_map];rfl
   rw[e];exact this
  |succ j ih =>
   intro t site hj ht hs
   obtain⟨v,hv⟩:∃v,l[t]? = some v:=⟨_,List.getElem?_eq_getElem (by omega)⟩
   have ha:=x7 v (hf v (List.mem_of_getElem? hv))
   have QT:site.length=t:=by rw[hs,List.length_map,List.length_take];omega
   refine cH.l10 site l t v _ (by omega) hv ha (by simp;omega) (by omega) (ih (t+1) _ (by omega) (by omega) ?_)
   rw[hs,List.take_add_one,hv];simp
 exact cH.e0 l (loop _ 0 [] rfl (by omega) rfl)
theorem GC:∀(j:Nat) (p:List af) (t:Nat),p.length-t=j→t≤p.length→p.length≤65→kr 274877906944 p→(p.take t).all af.valid=true →
  (p.all af.valid=false→bl.ah p t (vI 2))∧(p.all af.valid=true→aK (bj p)=true→bl.ah p t (vI 8))∧(p.all af.valid=true→aK (bj p)=false→bl.ah p t (vI 0)):=by
 intro j
 induction j with
 |zero =>
  intro p t hj ht hl hf hv
  have uY:t=p.length:=by omega
  subst uY
  rw[List.take_of_length_le (Nat.le_refl _)] at hv
  refine⟨fun h => ?_,fun _ hz => ?_,fun _ hz => ?_⟩
  ·rw[hv] at h;cases h
  ·obtain⟨v,h0,h1,h2⟩:=Ae hz
   have sg:=Ad.Sign v (hf v (List.mem_of_getElem? h1))
   exact bl.kI p _ (p.length-1) v _ (Nat.le_refl _) h0 (by unfold ax;omega) (by omega) h1 sg (eS.2 h2)
  ·by_cases h0:p.length=0
   ·exact bl.GB p _ (Nat.le_refl _) (by omega)
   ·obtain⟨v,h1,h2⟩:=xC hz h0
    have sg:=Ad.Sign v (hf v (List.mem_of_getElem? h1))
    exact bl.ta p _ (p.length-1) v _ (Nat.le_refl _) (by omega) (by unfold ax;omega) (by omega) h1 sg (fun e=>h2 (eS.1 e))
 |succ j ih =>
  intro p t hj ht hl hf hv
  obtain⟨v,h1⟩:∃v,p[t]? = some v:=⟨_,List.getElem?_eq_getElem (by omega)⟩
  have Ni:=Ad.Valid v (hf v (List.mem_of_getElem? h1))
  cases hc:v.valid with
  |false =>
   have yI:p.all af.valid=false:=by
    rw[List.all_eq_false]
    exact⟨v,List.mem_of_getElem? h1,by rw[hc];simp⟩
   refine⟨fun _=>bl.l10 p t v _ (by omega) h1 Ni hc,fun h => ?_,fun h => ?_⟩
   ·rw[yI] at h;cases h
   ·rw[yI] at h;cases h
  |true =>
   obtain⟨g1,g2,g3⟩:=ih p (t+1) (by omega) (by omega) hl hf (by rw[List.take_add_one,h1];simp[hv,hc])
   exact⟨fun h=>bl.cV p t v _ (by omega) h1 Ni hc (by omega) (g1 h),fun h h'=>bl.cV p t v _ (by omega) h1 Ni hc (by omega) (g2 h h'),fun h h'=>bl.cV p t v _ (by omega) h1 Ni hc (by omega) (g3 h h')⟩
theorem Check(p:List af)(hf:kr 274877906944 p):Cp 56 [ae p] (vI (oJ p)):=by
 unfold oJ
 by_cases hl:p.length≤65
 ·rw[if_neg (by omega)]
  obtain⟨g1,g2,g3⟩:=GC _ p 0 rfl (by omega) hl hf (by simp)
  cases hv:p.all af.valid with
  |false=>exact bl.e1 p hl (g1 hv)
  |true =>
   cases hz:aK (bj p) with
   |true=>exact bl.e1 p hl (g2 hv hz)
   |false=>exact bl.e1 p hl (g3 hv hz)
 ·rw[if_pos (by omega)]
  exact bl.e0 p (by omega)
theorem KT(p:List af)(x:af)(hl:p.length≤65)(hp:kr 1073741824 p)(hx:x.num.length≤1073741824∧x.den.length≤1073741824):∀(n:Nat) (q:Rat),n≤p.length→q=evalL ((bj p).drop n) x.val →
  gG.ah p ((n:Int)-1) x (aN q) (aN (evalL (bj p) x.val)).pv:=by
 intro n
 induction n with
 |zero =>
  intro q _ hq
  rw[List.drop_zero] at hq
  rw[←hq]
  exact gG.cV p _ x _ (by omega)
 |succ n ih =>
  intro q hn hq
  obtain⟨v,hv⟩:∃v,p[n]? = some v:=⟨_,List.getElem?_eq_getElem (by omega)⟩
  have Mb:=hp v (List.mem_of_getElem? hv)
  have b1:=dD Mb.1 Mb.2 (by omega)
  have b2:=dD hx.1 hx.2 (by omega)
  have b3:ht q≤65*2147483649+1:=by
   rw[hq]
   refine Nat.le_trans (mY _ x.val 1073741824 (fun y hy=>qB hp (by omega) y (List.mem_of_mem_drop hy)) b2) ?_
   have:((bj p).drop (n+1)).length≤65:=by unfold bj;simp;omega
   omega
  have m:=Ad.Mul (aN q) x (gY (by omega)) ⟨by omega,by omega⟩
  rw[bB] at m
  have b4:=ll q x.val
  have s:=Ad.Add (aN (q*x.val)) v (gY (by omega)) ⟨by omega,by omega⟩
  rw[bB] at s
  have:=ih (q*x.val+v.val) (by omega) (by rw[hq,BS hv];rfl)
  rw[show ((n+1:Nat):Int)-1=(n:Int) from by omega]
  exact gG.l10 p (n:Int) x _ _ n v _ (by omega) m rfl hv s (by unfold ax;omega) this
theorem At(p:List af)(x:af)(hl:p.length≤65)(hp:kr 1073741824 p)(hx:x.num.length≤1073741824∧x.den.length≤1073741824):Cp 208 [ae p,x.pv] (aN (evalL (bj p) x.val)).pv:=by
 exact gG.e0 p x (by unfold ax;omega) (KT p x hl hp hx p.length 0 (Nat.le_refl _) (by rw[List.drop_of_length_le (by unfold bj;simp)];rfl))
theorem derive(p:List af)(hl:p.length≤65)(hp:kr 137438953472 p):Cp 162 [ae p] (ae ((ak (bj p)).map aN)):=by
 have loop:∀(j i:Nat) (site:List af),p.length-i=j→i≤p.length→site=(fE 1 (((bj p).take i).drop 1)).map aN→dO.ah site p i (ae ((ak (bj p)).map aN)):=by
  intro j
  induction j with
  |zero =>
   intro i site hj h1 hs
   rw[List.take_of_length_le (by unfold bj;rw[List.length_map];omega)] at hs
   have oX:Fl 274877906944 (fE 1 ((bj p).drop 1)):=De (k:=137438953472) (by omega) _ 1 (by unfold bj;simp;omega) (fun y hy=>qB hp (by omega) y (List.mem_of_mem_drop hy))
   have ht:=Trim site (by rw[hs,List.length_map,mu];unfold bj;simp;omega) (by rw[hs];exact Dc oX)
   rw[hs,dN] at ht
   rw[hs]
   exact dO.kI _ p i _ (by omega) ht
  |succ j ih =>
   intro i site hj h1 hs
   obtain⟨v,hv⟩:∃v,p[i]? = some v:=⟨_,List.getElem?_eq_getElem (by omega)⟩
   by_cases hi:i=0
   ·subst hi
    refine dO.cV site p 0 v (by omega) hv (by omega) (by omega) (ih 1 site (by omega) (by omega) ?_)
    rw[hs];simp
   ·have Mb:=hp v (List.mem_of_getElem? hv)
    have ho:=Ad.Of (i:Int) (by unfold ax;omega)
    have b1:ht ((i:Int):Rat)≤2:=by
     rw[wJ]
     have:wl (i:Int)≤2:=pF (by omega)
     omega
    have m:=Ad.Mul (aN ((i:Int):Rat)) v (gY (by omega)) ⟨by omega,by omega⟩
    rw[bB] at m
    have QT:site.length=i-1:=by rw[hs,List.length_map,mu];unfold bj;simp;omega
    refine dO.l10 site p i v _ _ (by omega) hv (by omega) ho m (by simp;omega) (by omega) (ih (i+1) _ (by omega) (by omega) ?_)
    rw[hs,BV hv (by omega)]
    simp
 exact dO.e0 p (loop _ 0 [] rfl (by omega) (by rw[show (((bj p).take 0).drop 1)=[] from by simp];rfl))
theorem qD(p:List af)(hc:oJ p=0)(hp:kr 137438953472 p):Cp 84 [ae p] (.aE [ae ((ak (bj p)).map aN),vI 0]):=by
 have hk:=Check p (fun a ha=>⟨by have:=(hp a ha).1;omega,by have:=(hp a ha).2;omega⟩)
 exact mw.e1 p _ _ hk hc (derive p (Dd hc) hp)
end Jm
end Go.Proofs.YtllmkadmohkbfaaGreatDoor.Sym
namespace Go.Proofs.YtllmkadmohkbfaaGreatDoor.Sym
open Go Path bN
set_option linter.unusedVariables false
theorem Dh{p q:Rat} : 0≤fJ p q↔q≤p:=by
 constructor
 ·intro h
  have:¬p<q:=fun e=>by have:=C9.2 e;omega
  grind
 ·intro h
  refine Int.not_lt.1 fun e => ?_
  have:=C9.1 e
  grind
theorem vp{p q:Rat} : fJ p q≤0↔p≤q:=by
 constructor
 ·intro h
  have:¬q<p:=fun e=>by have:=HC.2 e;omega
  grind
 ·intro h
  refine Int.not_lt.1 fun e => ?_
  have:=HC.1 e
  grind
theorem drop_cons{α:Type}{l:List α}{t:Nat}{v:α}(h:l[t]? = some v):l.drop t=v::l.drop (t+1):=by
 obtain⟨h1,h2⟩:=List.getElem?_eq_some_iff.1 h
 rw[List.drop_eq_getElem_cons h1,h2]
theorem Bj{q:Rat}(h:ht q≤68719476736):kq (aN q):=gY (by omega)
theorem wM(p q:Rat):Bi p q≤p:=by
 unfold Bi;split
 ·exact Rat.le_refl
 ·rename_i h;have:=mt vp.2 h;grind
theorem wN(p q:Rat):Bi p q≤q:=by
 unfold Bi;split
 ·rename_i h;exact vp.1 h
 ·exact Rat.le_refl
namespace QF
theorem Add(p q:Rat)(hp:ht p≤68719476736)(hq:ht q≤68719476736):Cp 91 [(aN p).pv,(aN q).pv] (aN (p+q)).pv:=by
 have h:=rO.Add (aN p) (aN q) ⟨by have:=(bk hp).1;omega,by have:=(bk hp).2;omega⟩ ⟨by have:=(bk hq).1;omega,by have:=(bk hq).2;omega⟩
 rwa[bB,bB] at h
theorem Sub(p q:Rat)(hp:ht p≤68719476736)(hq:ht q≤68719476736):Cp 32 [(aN p).pv,(aN q).pv] (aN (p-q)).pv:=by
 have h:=rO.Sub (aN p) (aN q) ⟨by have:=(bk hp).1;omega,by have:=(bk hp).2;omega⟩ ⟨by have:=(bk hq).1;omega,by have:=(bk hq).2;omega⟩
 rwa[bB,bB] at h
theorem Mul(p q:Rat)(hp:ht p≤68719476736)(hq:ht q≤68719476736):Cp 198 [(aN p).pv,(aN q).pv] (aN (p*q)).pv:=by
 have h:=rO.Mul (aN p) (aN q) ⟨by have:=(bk hp).1;omega,by have:=(bk hp).2;omega⟩ ⟨by have:=(bk hq).1;omega,by have:=(bk hq).2;omega⟩
 rwa[bB,bB] at h
theorem rb(p q:Rat)(hp:ht p≤68719476736)(hq:ht q≤68719476736):Cp 34 [(aN p).pv,(aN q).pv] (vI (fJ p q)):=by
 have h:=rO.rb (aN p) (aN q) ⟨by have:=(bk hp).1;omega,by have:=(bk hp).2;omega⟩ ⟨by have:=(bk hq).1;omega,by have:=(bk hq).2;omega⟩
 rwa[bB,bB] at h
theorem Div(p q:Rat)(hp:ht p≤68719476736)(hq:ht q≤68719476736)(h0:q≠0):Cp 234 [(aN p).pv,(aN q).pv] (.aE [(aN (p/q)).pv,.az]):=by
 have h:=rO.Div (aN p) (aN q) (Bj hp) (Bj hq) (by rw[bB];exact h0)
 rwa[bB,bB] at h
theorem Sign(p:Rat)(hp:ht p≤68719476736):Cp 33 [(aN p).pv] (vI (fJ p 0)):=by
 have h:=rO.Sign (aN p) (Bj hp)
 rwa[bB] at h
theorem Neg(p:Rat)(hp:ht p≤68719476736):Cp 87 [(aN p).pv] (aN (-p)).pv:=by
 have h:=rO.Neg (aN p) (Bj hp)
 rwa[bB] at h
theorem Valid(p:Rat)(hp:ht p≤68719476736):Cp 164 [(aN p).pv] (vB true):=by
 have h:=rO.Valid (aN p) (Bj hp)
 rwa[sH] at h
theorem x7(p:Rat)(hp:ht p≤68719476736):Cp 91 [(aN p).pv,(⟨false,[],[]⟩:af).pv] (aN p).pv:=by
 have h:=Add p 0 hp (by decide)
 rwa[Rat.add_zero] at h
end QF
namespace QR
theorem Add(p q:Rat)(hp:ht p≤68719476736)(hq:ht q≤68719476736):Cp 70 [(aN p).pv,(aN q).pv] (aN (p+q)).pv:=by
 have h:=Ad.Add (aN p) (aN q) ⟨by have:=(bk hp).1;omega,by have:=(bk hp).2;omega⟩ ⟨by have:=(bk hq).1;omega,by have:=(bk hq).2;omega⟩
 rwa[bB,bB] at h
theorem Mul(p q:Rat)(hp:ht p≤68719476736)(hq:ht q≤68719476736):Cp 245 [(aN p).pv,(aN q).pv] (aN (p*q)).pv:=by
 have h:=Ad.Mul (aN p) (aN q) ⟨by have:=(bk hp).1;omega,by have:=(bk hp).2;omega⟩ ⟨by have:=(bk hq).1;omega,by have:=(bk hq).2;omega⟩
 rwa[bB,bB] at h
theorem rb(p q:Rat)(hp:ht p≤68719476736)(hq:ht q≤68719476736):Cp 69 [(aN p).pv,(aN q).pv] (vI (fJ p q)):=by
 have h:=Ad.rb (aN p) (aN q) ⟨by have:=(bk hp).1;omega,by have:=(bk hp).2;omega⟩ ⟨by have:=(bk hq).1;omega,by have:=(bk hq).2;omega⟩
 rwa[bB,bB] at h
theorem Div(p q:Rat)(hp:ht p≤68719476736)(hq:ht q≤68719476736)(h0:q≠0):Cp 148 [(aN p).pv,(aN q).pv] (.aE [(aN (p/q)).pv,vI 0]):=by
 have h:=Ad.Div (aN p) (aN q) (Bj hp) (Bj hq) (by rw[bB];exact h0)
 rwa[bB,bB] at h
theorem Sign(p:Rat)(hp:ht p≤68719476736):Cp 124 [(aN p).pv] (vI (fJ p 0)):=by
 have h:=Ad.Sign (aN p) (Bj hp)
 rwa[bB] at h
theorem Neg(p:Rat)(hp:ht p≤68719476736):Cp 88 [(aN p).pv] (aN (-p)).pv:=by
 have h:=Ad.Neg (aN p) (Bj hp)
 rwa[bB] at h
end QR
theorem QF.Make(n d:Int)(hn:ax n)(hd:ax d)(h0:d≠0):Cp 31 [vI n,vI d] (.aE [(aN (Rat.divInt n d)).pv,.az]):=by
 have hw:wl n≤2:=pF (by unfold ax at hn;omega)
 have zx:wl d≤2:=pF (by unfold ax at hd;omega)
 have hf:=rO.KO (Sym.whole n) (Sym.whole d) (show wl _≤_ by omega) (show wl _≤_ by omega) (by rw[aA];exact h0)
 rw[aA,aA] at hf
 exact tv.e0 n d _ _ _ none (bN.Of n hn) (bN.Of d hd) hf
theorem QF.Yc(p:Rat)(hp:ht p≤68719476736):Cp 235 [(aN p).pv] (aN (if p<0 then -p else p)).pv:=by
 have hs:=QF.Sign p hp
 by_cases h:p<0
 ·rw[if_pos h];exact qz.e0 _ _ _ hs (C9.2 h) (QF.Neg p hp)
 ·rw[if_neg h]
  have WB:=rO.jC (aN p) (Bj hp)
  rw[bB] at WB
  have hf:=rO.tA p.num (p.den:Int) (by have:=dV p;omega) (by have:=eL p;omega) (by have:=p.den_nz;omega)
  rw[Rat.num_divInt_den] at hf
  exact qz.e1 _ _ _ _ _ hs (Dh.2 (by grind)) WB hf
end Go.Proofs.YtllmkadmohkbfaaGreatDoor.Sym
namespace Go.Proofs.YtllmkadmohkbfaaGreatDoor.Sym.Path
open Go
set_option maxRecDepth 20000
set_option linter.unusedVariables false
namespace tB
theorem e0(a b:aj)(c d:ByteArray)(h1:Cp 128 [a.pv] b.pv)(h2:Cp 61 [b.lo.pv] (.str c))(h3:c.size+(ByteArray.mk #[46,46]).size<9223372036854775808)(h4:Cp 61 [b.hi.pv] (.str d))(h5:(c++(ByteArray.mk #[46,46])).size+d.size<9223372036854775808):Cp 60 [a.pv] (.str ((c++(ByteArray.mk #[46,46]))++d)) :=
 eD Tryz.func60 78 [1,1,1,1,1] [.q,.h 1 (.pv b.pv),dr 8 1 [.none,.none,(.pv (.str c)),(.pv (.str (c++(ByteArray.mk #[46,46])))),.none,.none,(.pv (.str d)),(.pv (.str ((c++(ByteArray.mk #[46,46]))++d)))]] (y5 h1 h2 (u0 h3) h4 (u0 h5))
end tB
namespace rR
theorem e0(x a b:af)(h1:Cp 91 [x.pv,(⟨false,[],[]⟩:af).pv] a.pv)(h2:Cp 91 [x.pv,(⟨false,[],[]⟩:af).pv] b.pv):Cp 65 [x.pv] ((⟨a,b⟩:aj).pv) :=
 eD Tryz.func65 72 [1,1] [.q,dr 7 1 [.none,.none,(.pv a.pv),.none,.none,(.pv b.pv)]] (y2 h1 h2)
end rR
namespace jr
theorem e0(a b:af)(c d:Bool)(h1:a.neg=b.neg)(h2:Cp 149 [aa a.num,aa b.num] (vB c))(h3:c=true)(h4:Cp 149 [aa a.den,aa b.den] (vB d)):Cp 73 [a.pv,b.pv] (vB d) :=
 eD Tryz.func73 72 [1,1,1,1,1,1,1,1,1,1,1,1,1,1] [.q,.aV [.o,.o,.o,.o,.o,.o,.o,.o,.o,.o,(.pv (vB c)),(.dec true),.o,.o,.o,.o,.o,(.pv (vB d)),(.dec true)]] (Km (oi h1) (oi h1) (oi h1) (oi h1) (oi h1) h2 (oi h1) h3 h3 h3 h3 h3 h4 h3)
theorem e1(a b:af)(c:Bool)(h1:a.neg=b.neg)(h2:Cp 149 [aa a.num,aa b.num] (vB c))(h3:c=false):Cp 73 [a.pv,b.pv] (vB false) :=
 eD Tryz.func73 72 [1,1,1,1,1,1,1,1,1,1,1,1,1] [.q,.aV [.o,.o,.o,.o,.o,.o,.o,.o,.o,.o,(.pv (vB c)),(.dec true),.o,.skip,.skip,.skip,.skip,.skip,(.dec false)]] (Ht (oi h1) (oi h1) (oi h1) (oi h1) (oi h1) h2 (oi h1) h3 h3 h3 h3 h3 h3)
theorem e2(a b:af)(h1:a.neg≠b.neg):Cp 73 [a.pv,b.pv] (vB false) :=
 eD Tryz.func73 72 [1,1,1,1,1,1,1,1,1,1,1] [.q,.aV [.o,.o,.o,.o,.o,.o,.skip,.skip,.skip,.skip,.skip,(.dec false),.o,.skip,.skip,.skip,.skip,.skip]] (BL (tp h1) (tp h1) (tp h1) (tp h1) (tp h1) (tp h1) (Eq.refl false) (Eq.refl false) (Eq.refl false) (Eq.refl false) (Eq.refl false))
end jr
namespace dW
@[reducible] noncomputable def fn:Func:=Tryz.f108
noncomputable def bf:List eg:=focus [0,2,0,0,2,1,2,0,0,2,0,0] [.code (ay fn)]
def inv1(a b:List af)(zT:Nat):St:=⟨[(0,(.pv (ae a))),(1,(.pv (ae b))),(5,(eI (zT:Int)))],[]⟩
@[reducible] noncomputable def ah(a b:List af)(zT:Nat)(r:PV):Prop:=L bp fn bf (inv1 a b zT) r
theorem e0(a b:Rs)(h1:a.length≠b.length):Cp 108 [ae a,ae b] (vB false) :=
 eD Tryz.func108 84 [1,1,1] [.q,.aV [.o,(iI (a.length:Int)),.o,(iI (b.length:Int))],.t,.q] (y3 (an af.cells a) (an af.cells b) (jF h1))
theorem e1(a b:Rs){r:PV}(h1:a.length=b.length)(hL:ah a b 0 r):Cp 108 [ae a,ae b] r :=
 eG Tryz.func108 96 [1,1,1] [.q,.aV [.o,(iI (a.length:Int)),.o,(iI (b.length:Int))],.f,.q,.aH [0,1,5]] (y3 (an af.cells a) (an af.cells b) (gQ h1)) hL
theorem l10(a b:Rs)(c:Nat)(v v1:af)(d:Bool)(h1:c<a.length)(h2:a[c]? = some v)(h3:b[c]? = some v1)(h4:Cp 73 [v.pv,v1.pv] (vB d))(h5:d=false):ah a b c (vB false) :=
 lD 135 [1,1,3,3,1,1] [.a,.h 2 (iI (a.length:Int)),.t,dr 10 0 [.none,.none,(.row c (af.cells v)),.none,.none,.none,(.row c (af.cells v1)),.none,(.pv (vB d))],.t,.q] (y6 (an af.cells a) (ai h1) (bO af.cells (Eq.refl (((c:Nat):Int):Int)) h2) (bO af.cells (Eq.refl (((c:Nat):Int):Int)) h3) h4 (cf h5))
theorem cV(a b:Rs)(c:Nat)(v v1:af)(d:Bool){r:PV}(h1:c<a.length)(h2:a[c]? = some v)(h3:b[c]? = some v1)(h4:Cp 73 [v.pv,v1.pv] (vB d))(h5:d=true)(h6:(c+1)<9223372036854775808)(hL:ah a b (c+1) r):ah a b c r :=
 lG 138 [1,1,3,3,1,1,1] [.a,.h 2 (iI (a.length:Int)),.t,dr 10 0 [.none,.none,(.row c (af.cells v)),.none,.none,.none,(.row c (af.cells v1)),.none,(.pv (vB d))],.f,.h 1 (iI (((c+1):Nat):Int)),.aH [0,1,5]] (y7 (an af.cells a) (ai h1) (bO af.cells (Eq.refl (((c:Nat):Int):Int)) h2) (bO af.cells (Eq.refl (((c:Nat):Int):Int)) h3) h4 (aU h5) (aL h6)) hL
theorem kI(a b:Rs)(c:Nat)(h1:a.length≤c):ah a b c (vB true) :=
 lD 129 [1,1] [.a,.h 2 (iI (a.length:Int)),.f,.q] (y2 (an af.cells a) (ar h1))
end dW
namespace nN
theorem e0(a:aj)(b:Bool)(h1:Cp 213 [a.pv] (vB b))(h2:b=false):Cp 128 [a.pv] ((⟨(⟨false,[],[]⟩:af),(⟨false,[],[]⟩:af)⟩:aj).pv) :=
 eD Tryz.func128 84 [1,1] [.q,.h 1 (.pv (vB b)),.t,.q] (y2 h1 (cf h2))
theorem e1(a:aj)(b:Bool)(c d:af)(h1:Cp 213 [a.pv] (vB b))(h2:b=true)(h3:Cp 91 [a.lo.pv,(⟨false,[],[]⟩:af).pv] c.pv)(h4:Cp 91 [a.hi.pv,(⟨false,[],[]⟩:af).pv] d.pv):Cp 128 [a.pv] ((⟨c,d⟩:aj).pv) :=
 eD Tryz.func128 87 [1,1,1,1] [.q,.h 1 (.pv (vB b)),.f,dr 9 1 [.none,.none,.none,(.pv c.pv),.none,.none,.none,(.pv d.pv)]] (y4 h1 (aU h2) h3 h4)
end nN
namespace dK
@[reducible] noncomputable def fn:Func:=Tryz.f149
noncomputable def bf:List eg:=focus [0,2,0,0,2,1,2,0,0,2,0,0] [.code (ay fn)]
def inv1(a b:List UInt32)(zT:Nat):St:=⟨[(0,(.pv (aa a))),(1,(.pv (aa b))),(5,(eI (zT:Int)))],[]⟩
@[reducible] noncomputable def ah(a b:List UInt32)(zT:Nat)(r:PV):Prop:=L bp fn bf (inv1 a b zT) r
theorem e0(a b:Ws)(h1:a.length≠b.length):Cp 149 [aa a,aa b] (vB false) :=
 eD Tryz.func149 84 [1,1,1] [.q,.aV [.o,(iI (a.length:Int)),.o,(iI (b.length:Int))],.t,.q] (y3 (an ag a) (an ag b) (jF h1))
theorem e1(a b:Ws){r:PV}(h1:a.length=b.length)(hL:ah a b 0 r):Cp 149 [aa a,aa b] r :=
 eG Tryz.func149 96 [1,1,1] [.q,.aV [.o,(iI (a.length:Int)),.o,(iI (b.length:Int))],.f,.q,.aH [0,1,5]] (y3 (an ag a) (an ag b) (gQ h1)) hL
theorem l10(a b:Ws)(c:Nat)(v v1:UInt32)(h1:c<a.length)(h2:a[c]? = some v)(h3:b[c]? = some v1)(h4:v.toNat≠v1.toNat):ah a b c (vB false) :=
 lD 135 [1,1,3,3,1] [.a,.h 2 (iI (a.length:Int)),.t,dr 9 0 [.none,.none,(.row c (ag v)),.none,.none,.none,(.row c (ag v1))],.t,.q] (y5 (an ag a) (ai h1) (bO ag (Eq.refl (((c:Nat):Int):Int)) h2) (bO ag (Eq.refl (((c:Nat):Int):Int)) h3) (jF h4))
theorem cV(a b:Ws)(c:Nat)(v v1:UInt32){r:PV}(h1:c<a.length)(h2:a[c]? = some v)(h3:b[c]? = some v1)(h4:v.toNat=v1.toNat)(h5:(c+1)<9223372036854775808)(hL:ah a b (c+1) r):ah a b c r :=
 lG 138 [1,1,3,3,1,1] [.a,.h 2 (iI (a.length:Int)),.t,dr 9 0 [.none,.none,(.row c (ag v)),.none,.none,.none,(.row c (ag v1))],.f,.h 1 (iI (((c+1):Nat):Int)),.aH [0,1,5]] (y6 (an ag a) (ai h1) (bO ag (Eq.refl (((c:Nat):Int):Int)) h2) (bO ag (Eq.refl (((c:Nat):Int):Int)) h3) (gQ h4) (aL h5)) hL
theorem kI(a b:Ws)(c:Nat)(h1:a.length≤c):ah a b c (vB true) :=
 lD 129 [1,1] [.a,.h 2 (iI (a.length:Int)),.f,.q] (y2 (an ag a) (ar h1))
end dK
namespace vq
theorem e0(a b:aj)(c d g:af)(h1:Cp 128 [a.pv] b.pv)(h2:Cp 250 [] c.pv)(h3:Cp 91 [b.lo.pv,b.hi.pv] d.pv)(h4:Cp 198 [c.pv,d.pv] g.pv):Cp 176 [a.pv] g.pv :=
 eD Tryz.func176 78 [1,1,1,1] [.q,.h 1 (.pv b.pv),dr 7 1 [(.pv c.pv),.none,.none,.none,.none,(.pv d.pv),(.pv g.pv)]] (y4 h1 h2 h3 h4)
end vq
namespace lx
theorem e0(a:aj)(b c:Bool)(d:Int)(h1:Cp 164 [a.lo.pv] (vB b))(h2:b=true)(h3:Cp 164 [a.hi.pv] (vB c))(h4:c=true)(h5:Cp 34 [a.lo.pv,a.hi.pv] (vI d)):Cp 213 [a.pv] (vB (decide (d≤0))) :=
 eD Tryz.func213 72 [1,1,1,1,1,1,1,1,1,1,1,1,1,1] [.q,.aV [.o,.o,(.pv (vB b)),.o,.o,.o,(.pv (vB c)),(.dec true),.o,.o,.o,.o,.o,(.pv (vI d)),.o,(.dec true)]] (Km h1 h2 h2 h2 h3 h2 h4 h4 h4 h4 h4 h5 h4 h4)
theorem e1(a:aj)(b c:Bool)(h1:Cp 164 [a.lo.pv] (vB b))(h2:b=true)(h3:Cp 164 [a.hi.pv] (vB c))(h4:c=false):Cp 213 [a.pv] (vB false) :=
 eD Tryz.func213 72 [1,1,1,1,1,1,1,1,1,1,1,1,1] [.q,.aV [.o,.o,(.pv (vB b)),.o,.o,.o,(.pv (vB c)),(.dec true),.o,.skip,.skip,.skip,.skip,.skip,.skip,(.dec false)]] (Ht h1 h2 h2 h2 h3 h2 h4 h4 h4 h4 h4 h4 h4)
theorem e2(a:aj)(b:Bool)(h1:Cp 164 [a.lo.pv] (vB b))(h2:b=false):Cp 213 [a.pv] (vB false) :=
 eD Tryz.func213 72 [1,1,1,1,1,1,1,1,1,1,1] [.q,.aV [.o,.o,(.pv (vB b)),.o,.skip,.skip,.skip,(.dec false),.o,.skip,.skip,.skip,.skip,.skip,.skip]] (BL h1 h2 h2 h2 h2 (Eq.refl false) (Eq.refl false) (Eq.refl false) (Eq.refl false) (Eq.refl false) (Eq.refl false))
end lx
namespace gw
theorem e0(a:aj)(b c:Bool)(d:Int)(h1:Cp 111 [a.lo.pv] (vB b))(h2:b=true)(h3:Cp 111 [a.hi.pv] (vB c))(h4:c=true)(h5:Cp 69 [a.lo.pv,a.hi.pv] (vI d)):Cp 247 [a.pv] (vB (decide (d≤0))) :=
 eD Tryz.func247 72 [1,1,1,1,1,1,1,1,1,1,1,1,1,1] [.q,.aV [.o,.o,(.pv (vB b)),.o,.o,.o,(.pv (vB c)),(.dec true),.o,.o,.o,.o,.o,(.pv (vI d)),.o,(.dec true)]] (Km h1 h2 h2 h2 h3 h2 h4 h4 h4 h4 h4 h5 h4 h4)
theorem e1(a:aj)(b c:Bool)(h1:Cp 111 [a.lo.pv] (vB b))(h2:b=true)(h3:Cp 111 [a.hi.pv] (vB c))(h4:c=false):Cp 247 [a.pv] (vB false) :=
 eD Tryz.func247 72 [1,1,1,1,1,1,1,1,1,1,1,1,1] [.q,.aV [.o,.o,(.pv (vB b)),.o,.o,.o,(.pv (vB c)),(.dec true),.o,.skip,.skip,.skip,.skip,.skip,.skip,(.dec false)]] (Ht h1 h2 h2 h2 h3 h2 h4 h4 h4 h4 h4 h4 h4)
theorem e2(a:aj)(b:Bool)(h1:Cp 111 [a.lo.pv] (vB b))(h2:b=false):Cp 247 [a.pv] (vB false) :=
 eD Tryz.func247 72 [1,1,1,1,1,1,1,1,1,1,1] [.q,.aV [.o,.o,(.pv (vB b)),.o,.skip,.skip,.skip,(.dec false),.o,.skip,.skip,.skip,.skip,.skip,.skip]] (BL h1 h2 h2 h2 h2 (Eq.refl false) (Eq.refl false) (Eq.refl false) (Eq.refl false) (Eq.refl false) (Eq.refl false))
end gw
namespace tC
theorem e0(a:af)(b:Option Int)(h1:Cp 31 [vI 1,vI 2] (.aE [a.pv,bc b])):Cp 250 [] a.pv :=
 eD Tryz.func250 78 [1] [.q,.h 0 (.pv (.aE [a.pv,bc b])),.q] (y1 h1)
end tC
end Go.Proofs.YtllmkadmohkbfaaGreatDoor.Sym.Path
namespace Go.Proofs.YtllmkadmohkbfaaGreatDoor.Sym
open Go Path bN
set_option linter.unusedVariables false
def Og(a b:af):Bool:=decide (a.neg=b.neg)&&(decide (a.num=b.num)&&decide (a.den=b.den))
theorem Di{a b:af} : Og a b=true↔a=b:=by
 obtain⟨n,m,d⟩:=a
 obtain⟨n',m',d'⟩:=b
 unfold Og
 simp only[Bool.and_eq_true,decide_eq_true_eq,af.mk.injEq]
theorem KV(a:af):Og a a=true:=Di.2 rfl
def Ah:List af→List af→Bool
 |[],[]=>true
 |a::r,b::s=>Og a b&&Ah r s
 |_,_=>false
theorem vr:∀{p q:List af},Ah p q=true↔p=q
 |[],[]=>by simp[Ah]
 |a::r,b::s=>by
  show(Og a b&&Ah r s)=true↔_
  rw[Bool.and_eq_true,Di,vr,List.cons.injEq]
 |[],b::s=>by simp[Ah]
 |a::r,[]=>by simp[Ah]
theorem IT(p:List af):Ah p p=true:=vr.2 rfl
theorem HF{p q:List af}(h:p≠q):Ah p q=false:=by
 cases hb:Ah p q with
 |true=>exact absurd (vr.1 hb) h
 |false=>rfl
namespace WC
theorem Words(a b:Sym.Words)(hl:a.length<9223372036854775807):Cp 149 [aa a,aa b] (vB (decide (a=b))):=by
 by_cases h:a.length=b.length
 ·have loop:∀(j t:Nat),a.length-t=j→t≤a.length→a.take t=b.take t→dK.ah a b t (vB (decide (a=b))):=by
   intro j
   induction j with
   |zero =>
    intro t hj ht he
    rw[List.take_of_length_le (by omega),List.take_of_length_le (by omega)] at he
    rw[decide_eq_true he]
    exact dK.kI a b t (by omega)
   |succ j ih =>
    intro t hj ht he
    obtain⟨v,hv⟩:∃v,a[t]? = some v:=⟨_,List.getElem?_eq_getElem (by omega)⟩
    obtain⟨w,hw⟩:∃w,b[t]? = some w:=⟨_,List.getElem?_eq_getElem (by omega)⟩
    by_cases h0:v.toNat=w.toNat
    ·exact dK.cV a b t v w (by omega) hv hw h0 (by omega) (ih (t+1) (by omega) (by omega) (by rw[List.take_add_one,List.take_add_one,he,hv,hw,Pj h0]))
    ·have df:a≠b:=by
      intro e;subst e
      rw[hv] at hw;injection hw with hw
      exact h0 (by rw[hw])
     rw[decide_eq_false df]
     exact dK.l10 a b t v w (by omega) hv hw h0
  exact dK.e1 a b h (loop _ 0 rfl (by omega) rfl)
 ·rw[decide_eq_false (fun e=>h (by rw[e]))]
  exact dK.e0 a b h
theorem Rat(a b:af)(h1:a.num.length<9223372036854775807)(h2:a.den.length<9223372036854775807):Cp 73 [a.pv,b.pv] (vB (Og a b)):=by
 unfold Og
 by_cases hn:a.neg=b.neg
 ·rw[decide_eq_true hn,Bool.true_and]
  have w1:=Words a.num b.num h1
  have w2:=Words a.den b.den h2
  cases hw:decide (a.num=b.num) with
  |true=>rw[Bool.true_and];rw[hw] at w1;exact jr.e0 a b _ _ hn w1 rfl w2
  |false=>rw[Bool.false_and];rw[hw] at w1;exact jr.e1 a b _ hn w1 rfl
 ·rw[decide_eq_false hn,Bool.false_and]
  exact jr.e2 a b hn
theorem UX(p q:List af)(hl:p.length<9223372036854775807)(hf:∀a∈p,a.num.length<9223372036854775807∧a.den.length<9223372036854775807):Cp 108 [ae p,ae q] (vB (Ah p q)):=by
 by_cases h:p.length=q.length
 ·have loop:∀(j t:Nat),p.length-t=j→t≤p.length→p.take t=q.take t→dW.ah p q t (vB (Ah p q)):=by
   intro j
   induction j with
   |zero =>
    intro t hj ht he
    rw[List.take_of_length_le (by omega),List.take_of_length_le (by omega)] at he
    rw[vr.2 he]
    exact dW.kI p q t (by omega)
   |succ j ih =>
    intro t hj ht he
    obtain⟨v,hv⟩:∃v,p[t]? = some v:=⟨_,List.getElem?_eq_getElem (by omega)⟩
    obtain⟨w,hw⟩:∃w,q[t]? = some w:=⟨_,List.getElem?_eq_getElem (by omega)⟩
    have Mb:=hf v (List.mem_of_getElem? hv)
    have hr:=Rat v w Mb.1 Mb.2
    cases h0:Og v w with
    |true =>
     rw[h0] at hr
     exact dW.cV p q t v w _ (by omega) hv hw hr rfl (by omega) (ih (t+1) (by omega) (by omega) (by rw[List.take_add_one,List.take_add_one,he,hv,hw,Di.1 h0]))
    |false =>
     have df:p≠q:=by
      intro e;subst e
      rw[hv] at hw;injection hw with hw
      rw[hw,KV] at h0;cases h0
     rw[HF df]
     rw[h0] at hr
     exact dW.l10 p q t v w _ (by omega) hv hw hr rfl
  exact dW.e1 p q h (loop _ 0 rfl (by omega) rfl)
 ·rw[HF (fun e=>h (by rw[e]))]
  exact dW.e0 p q h
end WC
end Go.Proofs.YtllmkadmohkbfaaGreatDoor.Sym

namespace Go.Proofs.YtllmkadmohkbfaaGreatDoor.Sym
open Go Path bN
set_option linter.unusedVariables false
theorem fG(a:Rat)(r:List Rat):aJ (a::r)=bif (aJ r).isEmpty&&decide (a=0) then [] else a::aJ r:=rfl
theorem my(a:Rat)(r:List Rat):(aJ r=[]∧a=0∧aJ (a::r)=[])∨aJ (a::r)=a::aJ r:=by
 rw[fG]
 cases h:(aJ r).isEmpty&&decide (a=0) with
 |false=>exact Or.inr rfl
 |true =>
  rw[Bool.and_eq_true] at h
  exact Or.inl ⟨List.isEmpty_iff.1 h.1,of_decide_eq_true h.2,rfl⟩
theorem fM:∀q:List Rat,(aJ q).length≤q.length
 |[]=>by simp[aJ]
 |a::r=>by
  rcases my a r with ⟨_,_,e⟩|e
  ·rw[e];simp
  ·rw[e];simpa using fM r
theorem bg:∀q:List Rat,aK (aJ q)=false
 |[]=>rfl
 |a::r=>by
  have ih:=bg r
  rw[fG]
  cases h:aJ r with
  |nil =>
   by_cases h0:a=0
   ·rw[decide_eq_true h0];rfl
   ·rw[decide_eq_false h0]
    unfold aK
    exact decide_eq_false h0
  |cons b s =>
   rw[h] at ih
   unfold aK at ih ⊢
   rw[show (bif (b::s).isEmpty&&decide (a=0) then [] else a::b::s)=a::b::s from rfl]
   rw[List.getLast?_cons_cons]
   exact ih
theorem jT:∀{q:List Rat},aK q=false→aJ q=q
 |[],_=>rfl
 |[a],h=>by
  unfold aK at h
  have h:¬a=0:=of_decide_eq_false h
  rw[fG,decide_eq_false h];rfl
 |a::b::s,h=>by
  unfold aK at h
  rw[List.getLast?_cons_cons] at h
  have:=jT (q:=b::s) h
  rw[fG,this];rfl
theorem eK{q:List Rat}(h:aK q=false)(hl:q.length≤65):oJ (q.map aN)=0:=by
 unfold oJ
 rw[if_neg (by rw[List.length_map];omega),dN,h]
 rw[show (q.map aN).all af.valid=true from by
  rw[List.all_eq_true]
  intro a ha
  obtain⟨x,_,rfl⟩:=List.mem_map.1 ha
  exact sH x]
 rfl
theorem bE(x:Rat):∀q:List Rat,evalL (aJ q) x=evalL q x
 |[]=>rfl
 |a::r=>by
  have ih:=bE x r
  rcases my a r with ⟨h1,h2,e⟩|e
  ·rw[e,evalL,evalL,←ih,h1,h2,evalL];grind
  ·rw[e,evalL,evalL,ih]
theorem GD(q:List Rat):(aJ q).drop 1=aJ (q.drop 1):=by
 cases q with
 |nil=>rfl
 |cons a r =>
  rcases my a r with ⟨h1,h2,e⟩|e
  ·rw[e];exact h1.symm
  ·rw[e];rfl
theorem Ai:∀(q:List Rat) (i:Nat),aJ (fE i (aJ q))=aJ (fE i q)
 |[],_=>rfl
 |a::r,i=>by
  have ih:=Ai r (i+1)
  rcases my a r with ⟨h1,h2,e⟩|e
  ·rw[e,fE,fE,fG,←ih,h1,h2]
   rw[show ((i:Int):Rat)*0=0 from by grind];rfl
  ·rw[e,fE,fE,fG,fG,ih]
theorem tD(q:List Rat):ak (aJ q)=ak q:=by
 unfold ak
 rw[GD,Ai]
theorem Bk(q:List Rat)(x:Rat):evalL (ak q) x=evalL (fE 1 (q.drop 1)) x:=by
 unfold ak
 rw[bE]
theorem xE(q:List Rat):(ak q).length≤q.length:=by
 unfold ak
 have:=fM (fE 1 (q.drop 1))
 rw[mu,List.length_drop] at this
 omega
theorem ba(q:List Rat):aK (ak q)=false:=bg _
end Go.Proofs.YtllmkadmohkbfaaGreatDoor.Sym
namespace Go.Proofs.YtllmkadmohkbfaaGreatDoor.Sym
open Go Path bN
set_option linter.unusedVariables false
def coef(p:List Rat)(i:Nat):Rat:=p[i]?.getD 0
def cM:List Rat→List Rat→List Rat
 |[],q=>q
 |a::p,[]=>a::p
 |a::p,b::q=>(a+b)::cM p q
def a6(c:Rat)(q:List Rat):List Rat:=q.map (fun x=>c*x)
def mulL:List Rat→List Rat→List Rat
 |[],_=>[]
 |a::p,q=>cM (a6 a q) (0::mulL p q)
def eA(s:Nat)(q:List Rat):List Rat:=List.replicate s 0++q
theorem jU(i:Nat):coef [] i=0:=rfl
theorem sL(a:Rat)(p:List Rat):coef (a::p) 0=a:=rfl
theorem eC(a:Rat)(p:List Rat)(i:Nat):coef (a::p) (i+1)=coef p i:=rfl
theorem l7{p:List Rat}{i:Nat}{v:Rat}(h:p[i]? = some v):coef p i=v:=by unfold coef;rw[h];rfl
theorem cL{p:List Rat}{i:Nat}(h:p.length≤i):coef p i=0:=by unfold coef;rw[List.getElem?_eq_none h];rfl
theorem nO{p:List Rat}{i:Nat}(h:i<p.length):p[i]? = some (coef p i):=by unfold coef;rw[List.getElem?_eq_getElem h];rfl
theorem ft:∀(p q:List Rat) (i:Nat),coef (cM p q) i=coef p i+coef q i
 |[],q,i=>by rw[cM,jU,Rat.zero_add]
 |a::p,[],i=>by rw[cM,jU,Rat.add_zero]
 |a::p,b::q,0=>rfl
 |a::p,b::q,i+1=>by rw[cM,eC,eC,eC,ft p q i]
theorem ck(c:Rat)(q:List Rat)(i:Nat):coef (a6 c q) i=c*coef q i:=by
 unfold coef a6
 rw[List.getElem?_map]
 cases q[i]? with
 |none=>show(0:Rat)=c*0;rw[Rat.mul_zero]
 |some v=>rfl
theorem tE(a:Rat)(p q:List Rat)(i:Nat):coef (mulL (a::p) q) i=a*coef q i+coef (0::mulL p q) i:=by rw[mulL,ft,ck]
theorem iY(s:Nat)(q:List Rat)(i:Nat):coef (eA s q) i=if i<s then 0 else coef q (i-s):=by
 unfold coef eA
 split
 ·rename_i h
  rw[List.getElem?_append_left (by rw[List.length_replicate];exact h),List.getElem?_replicate,if_pos h];rfl
 ·rename_i h
  rw[List.getElem?_append_right (by rw[List.length_replicate];omega),List.length_replicate]
theorem EX:∀(p q:List Rat),(cM p q).length=max p.length q.length
 |[],q=>by rw[cM,List.length_nil,Nat.zero_max]
 |a::p,[]=>by rw[cM,List.length_nil,Nat.max_zero]
 |a::p,b::q=>by rw[cM,List.length_cons,List.length_cons,List.length_cons,EX p q];omega
theorem iz(c:Rat)(q:List Rat):(a6 c q).length=q.length:=List.length_map ..
theorem js:∀{p q:List Rat},(∀i,coef p i=coef q i)→aJ p=aJ q
 |[],[],_=>rfl
 |[],b::q,h=>by
  have h0:(0:Rat)=b:=h 0
  have:=js (p:=[]) (q:=q) (fun i=>h (i+1))
  rw[fG,←this,←h0];rfl
 |a::p,[],h=>by
  have h0:a=(0:Rat):=h 0
  have:=js (p:=p) (q:=[]) (fun i=>h (i+1))
  rw[fG,this,h0];rfl
 |a::p,b::q,h=>by
  have h0:a=b:=h 0
  rw[fG,fG,js (p:=p) (q:=q) (fun i=>h (i+1)),h0]
theorem dc:∀(p:List Rat) (i:Nat),coef (aJ p) i=coef p i
 |[],_=>rfl
 |a::r,i=>by
  rcases my a r with ⟨h1,h2,e⟩|e
  ·rw[e]
   cases i with
   |zero=>exact h2.symm
   |succ i=>rw[eC,←dc r i,h1,jU,jU]
  ·rw[e]
   cases i with
   |zero=>rfl
   |succ i=>rw[eC,eC,dc r i]
theorem iZ{p q:List Rat}(hp:aK p=false)(hq:aK q=false)(h:∀i,coef p i=coef q i):p=q:=by
 rw[←jT hp,←jT hq];exact js h
theorem br(x:Rat):∀(p q:List Rat),evalL (cM p q) x=evalL p x+evalL q x
 |[],q=>by rw[cM,evalL,Rat.zero_add]
 |a::p,[]=>by rw[cM,show evalL [] x=0 from rfl,Rat.add_zero]
 |a::p,b::q=>by rw[cM,evalL,evalL,evalL,br x p q];grind
theorem aT(c x:Rat):∀(q:List Rat),evalL (a6 c q) x=c*evalL q x
 |[]=>by show(0:Rat)=c*0;rw[Rat.mul_zero]
 |a::q=>by
  have:=aT c x q
  show evalL (a6 c q) x*x+c*a=c*(evalL q x*x+a)
  rw[this];grind
theorem aF(x:Rat):∀(p q:List Rat),evalL (mulL p q) x=evalL p x*evalL q x
 |[],q=>by show(0:Rat)=0*_;rw[Rat.zero_mul]
 |a::p,q=>by
  rw[mulL,br,aT,evalL,aF x p q,evalL];grind
theorem qE(x:Rat):∀(s:Nat) (q:List Rat),evalL (eA s q) x=x^s*evalL q x
 |0,q=>by show evalL q x=_;rw[Rat.pow_zero,Rat.one_mul]
 |s+1,q=>by
  have:=qE x s q
  show evalL (eA s q) x*x+0=_
  rw[this,Rat.pow_succ];grind
def EY(c:Rat):List Rat→List Rat
 |[]=>[]
 |[_]=>[]
 |_::b::r=>evalL (b::r) c::EY c (b::r)
theorem EZ(c:Rat):∀p:List Rat,(EY c p).length=p.length-1
 |[]=>rfl
 |[_]=>rfl
 |_::b::r=>by rw[EY,List.length_cons,EZ c (b::r)];simp
theorem BX(c x:Rat):∀p:List Rat,evalL p x=evalL p c+(x-c)*evalL (EY c p) x
 |[]=>by show(0:Rat)=0+(x-c)*0;grind
 |[a]=>by show 0*x+a=(0*c+a)+(x-c)*0;grind
 |a::b::r=>by
  have:=BX c x (b::r)
  rw[EY]
  show evalL (b::r) x*x+a=(evalL (b::r) c*c+a)+(x-c)*(evalL (EY c (b::r)) x*x+evalL (b::r) c)
  rw[this]
  grind
theorem BY(c:Rat):∀p:List Rat,evalL p c=0→(∀y∈EY c p,y=0)→∀y∈p,y=0
 |[],_,_=>fun y h=>by cases h
 |[a],h,_=>fun y hy=>by
  have h:0*c+a=0:=h
  rw[List.mem_singleton.1 hy];grind
 |a::b::r,h,hq=>fun y hy=>by
  rw[EY] at hq
  have h1:=hq _ (List.mem_cons_self ..)
  have ih:=BY c (b::r) h1 (fun z hz=>hq z (List.mem_cons_of_mem _ hz))
  rcases List.mem_cons.1 hy with e|hy
  ·rw[evalL,h1] at h
   rw[e];grind
  ·exact ih y hy
theorem BZ:∀(n:Nat) (p:List Rat) (N:Nat),p.length≤n→(∀m:Nat,N≤m→evalL p ((m:Int):Rat)=0)→∀y∈p,y=0
 |0,p,N,hl,_=>fun y hy=>by
  have:p=[]:=List.eq_nil_of_length_eq_zero (by omega)
  rw[this] at hy;cases hy
 |n+1,p,N,hl,h=>by
  have h0:=h N (Nat.le_refl _)
  refine BY _ p h0 (BZ n _ (N+1) (by rw[EZ];omega) (fun m hm => ?_))
  have h1:=h m (by omega)
  rw[BX ((N:Int):Rat) _ p,h0,Rat.zero_add] at h1
  rcases Rat.mul_eq_zero.1 h1 with e|e
  ·have:((m:Int):Rat)=((N:Int):Rat):=by grind
   have:=Rat.intCast_inj.1 this
   omega
  ·exact e
theorem KW{p:List Rat}(h:∀y∈p,y=0)(i:Nat):coef p i=0:=by
 unfold coef
 cases hv:p[i]? with
 |none=>rfl
 |some v=>exact h v (List.mem_of_getElem? hv)
theorem fw{p q:List Rat}(h:∀x,evalL p x=evalL q x)(i:Nat):coef p i=coef q i:=by
 have hz:=BZ _ (cM p (a6 (-1) q)) 0 (Nat.le_refl _) (fun m _=>by rw[br,aT,h];grind)
 have:=KW hz i
 rw[ft,ck] at this
 grind
theorem E0{p q:List Rat}(h:∀x,evalL p x=evalL q x):aJ p=aJ q:=js (fw h)
theorem sM{k:Nat}{p:List Rat}(h:Fl k p)(hk:1≤k)(i:Nat):ht (coef p i)≤k:=by
 unfold coef
 cases hv:p[i]? with
 |none=>exact Nat.le_trans (Nat.le_of_eq jo) hk
 |some v=>exact h v (List.mem_of_getElem? hv)
theorem kt{k:Nat}{p:List Rat}(h:∀i,ht (coef p i)≤k):Fl k p:=by
 intro x hx
 obtain⟨i,hi⟩:=List.mem_iff_getElem?.1 hx
 have:=h i
 rwa[l7 hi] at this
theorem fg{k m:Nat}{q:List Rat}(h:Fl k q)(hk:k≤m):Fl m q:=fun x hx=>Nat.le_trans (h x hx) hk
def jV(m:Nat)(g:Nat→Rat):List Rat:=(List.range m).map g
theorem cK(m:Nat)(g:Nat→Rat):(jV m g).length=m:=by unfold jV;rw[List.length_map,List.length_range]
theorem fX{m i:Nat}(g:Nat→Rat)(h:i<m):(jV m g)[i]? = some (g i):=by
 unfold jV;rw[List.getElem?_map,List.getElem?_range h];rfl
theorem KX{m i:Nat}(g:Nat→Rat)(v:Rat)(h:i<m):(jV m g).set i v=jV m (fun j=>if j=i then v else g j):=by
 refine List.ext_getElem? fun j => ?_
 by_cases hj:j<m
 ·rw[fX _ hj]
  by_cases e:j=i
  ·subst e
   rw[List.getElem?_set_self (by rw[cK];exact h),if_pos rfl]
  ·rw[List.getElem?_set_ne (by omega),fX _ hj,if_neg e]
 ·rw[List.getElem?_eq_none (by rw[List.length_set,cK];omega),List.getElem?_eq_none (by rw[cK];omega)]
theorem B0(m:Nat):List.replicate m (⟨false,[],[]⟩:af)=(jV m (fun _=>0)).map aN:=by
 refine List.ext_getElem? fun j => ?_
 rw[List.getElem?_map]
 by_cases hj:j<m
 ·rw[fX _ hj,List.getElem?_replicate,if_pos hj];rfl
 ·rw[List.getElem?_eq_none (by rw[List.length_replicate];omega),List.getElem?_eq_none (by rw[cK];omega)];rfl
theorem B2{m:Nat}{g:Nat→Rat}(h:∀i,m≤i→g i=0)(i:Nat):coef (jV m g) i=g i:=by
 by_cases hi:i<m
 ·exact l7 (fX g hi)
 ·rw[cL (by rw[cK];omega),h i (by omega)]
theorem GF{m:Nat}{f g:Nat→Rat}(h:∀i,i<m→f i=g i):jV m f=jV m g:=by
 unfold jV
 exact List.map_congr_left (fun i hi=>h i (List.mem_range.1 hi))
end Go.Proofs.YtllmkadmohkbfaaGreatDoor.Sym
namespace Go.Proofs.YtllmkadmohkbfaaGreatDoor.Sym
open Go Path bN
set_option linter.unusedVariables false
def bS(p:List Rat):Rat:=coef p (p.length-1)
theorem cz{p:List Rat}(hz:aK p=false)(h:p≠[]):bS p≠0:=by
 unfold aK at hz
 have hl:=List.length_pos_iff.2 h
 rw[List.getLast?_eq_getElem?,nO (p:=p) (i:=p.length-1) (by omega)] at hz
 exact of_decide_eq_false hz
theorem rS{p:List Rat}{n:Nat}(h:∀i,n≤i→coef p i=0):(aJ p).length≤n:=by
 refine Nat.le_of_not_lt fun bh => ?_
 have df:aJ p≠[]:=by intro e;rw[e] at bh;simp at bh
 have:=cz (bg p) df
 unfold bS at this
 rw[dc,h _ (by omega)] at this
 exact this rfl
def stepC(rest q:List Rat):Rat:=bS rest/bS q
def lK(rest q:List Rat):List Rat:=aJ (cM rest (eA (rest.length-q.length) (a6 (-(stepC rest q)) q)))
def mM:Nat→List Rat→List Rat→List Rat→List Rat×List Rat
 |0,out,rest,_=>(out,rest)
 |n+1,out,rest,q=>bif Nat.blt rest.length q.length then (out,rest) else mM n (aJ (cM out (eA (rest.length-q.length) [stepC rest q]))) (lK rest q) q
def cJ(p q:List Rat):List Rat×List Rat:=mM (p.length+1) [] (aJ p) q
def bm(p q:List Rat):List Rat:=(cJ p q).2
def bP(p:List Rat):List Rat:=aJ (a6 (1/bS p) p)
def gp:Nat→List Rat→List Rat→List Rat
 |0,p,_=>p
 |n+1,p,q=>bif Nat.beq q.length 0 then p else gp n q (bP (bm p q))
def bX(p q:List Rat):List Rat:=bP (gp (q.length+1) p q)
def bx(p:List Rat):List Rat:=bP (cJ p (bX p (ak p))).1
theorem vt{a b:Nat} : Nat.blt a b=true↔a<b:=by rw[Nat.blt_eq]
theorem sN{a b:Nat} : Nat.blt a b=false↔b≤a:=by
 constructor
 ·intro h;exact Nat.le_of_not_lt fun e=>by rw[vt.2 e] at h;cases h
 ·intro h
  cases hb:Nat.blt a b with
  |true=>have:=vt.1 hb;omega
  |false=>rfl
theorem B3{rest q:List Rat}(hq:bS q≠0):stepC rest q*bS q=bS rest:=by
 unfold stepC
 rw[Rat.div_mul_cancel hq]
theorem nd{rest q:List Rat}(hq:bS q≠0)(mG:q.length≠0)(hl:q.length≤rest.length):(lK rest q).length<rest.length:=by
 have h:=rS (p:=cM rest (eA (rest.length-q.length) (a6 (-(stepC rest q)) q))) (n:=rest.length-1) (fun i hi=>by
  rw[ft,iY,ck,if_neg (by omega)]
  by_cases e:i=rest.length-1
  ·have h1:=B3 (rest:=rest) hq
   unfold bS at h1
   rw[e,show rest.length-1-(rest.length-q.length)=q.length-1 from by omega]
   grind
  ·rw[cL (p:=rest) (by omega),cL (p:=q) (by omega)];grind)
 unfold lK
 omega
theorem GG(rest q:List Rat)(x:Rat):evalL (lK rest q) x=evalL rest x-x^(rest.length-q.length)*stepC rest q*evalL q x:=by
 unfold lK
 rw[bE,br,qE,aT];grind
theorem B4{q:List Rat}(hq:bS q≠0)(mG:q.length≠0):∀(n:Nat) (out rest:List Rat),rest.length<n →
  (mM n out rest q).2.length<q.length∧∀x,evalL (mM n out rest q).1 x*evalL q x+evalL (mM n out rest q).2 x=evalL out x*evalL q x+evalL rest x
 |0,out,rest,h=>by omega
 |n+1,out,rest,h=>by
  rw[mM]
  cases hb:Nat.blt rest.length q.length with
  |true=>exact⟨vt.1 hb,fun x=>rfl⟩
  |false =>
   have hl:=sN.1 hb
   have h1:=nd hq mG hl
   rw[cond_false]
   obtain⟨g1,g2⟩:=B4 hq mG n (aJ (cM out (eA (rest.length-q.length) [stepC rest q]))) (lK rest q) (by omega)
   refine⟨g1,fun x => ?_⟩
   rw[g2 x,GG,bE,br,qE]
   have:evalL [stepC rest q] x=stepC rest q:=by show 0*x+stepC rest q=stepC rest q;grind
   rw[this];grind
theorem B5{q:List Rat} : ∀(n:Nat) (out rest:List Rat),aK out=false→aK rest=false→aK (mM n out rest q).1=false∧aK (mM n out rest q).2=false
 |0,out,rest,h1,h2=>⟨h1,h2⟩
 |n+1,out,rest,h1,h2=>by
  rw[mM]
  cases Nat.blt rest.length q.length with
  |true=>exact⟨h1,h2⟩
  |false=>exact B5 n _ _ (bg _) (bg _)
theorem fN{q:List Rat}(p:List Rat)(hz:aK q=false)(mG:q≠[]):(cJ p q).2.length<q.length∧∀x,evalL (cJ p q).1 x*evalL q x+evalL (cJ p q).2 x=evalL p x:=by
 have hl:=List.length_pos_iff.2 mG
 obtain⟨g1,g2⟩:=B4 (cz hz mG) (by omega) (p.length+1) [] (aJ p) (by have:=fM p;omega)
 refine⟨g1,fun x => ?_⟩
 show evalL (mM _ _ _ _).1 x*_+evalL (mM _ _ _ _).2 x=_
 rw[g2 x,bE]
 show(0:Rat)*_+_=_
 grind
theorem jt(p q:List Rat):aK (cJ p q).1=false∧aK (cJ p q).2=false:=B5 _ _ _ rfl (bg _)
theorem hO:∀(p q:List Rat),p≠[]→q≠[]→coef (mulL p q) (p.length+q.length-2)=bS p*bS q
 |[],q,h,_=>absurd rfl h
 |[a],q,_,hq=>by
  have hl:=List.length_pos_iff.2 hq
  rw[tE]
  show a*coef q ([a].length+q.length-2)+coef [0] _=a*coef q (q.length-1)
  rw[show [a].length+q.length-2=q.length-1 from by simp;omega]
  have:coef [0] (q.length-1)=0:=by
   cases q.length-1 with
   |zero=>rfl
   |succ n=>rfl
  rw[this,Rat.add_zero]
 |a::b::r,q,_,hq=>by
  have hl:=List.length_pos_iff.2 hq
  have ih:=hO (b::r) q (by simp) hq
  rw[tE,cL (p:=q) (by simp;omega)]
  rw[show (a::b::r).length+q.length-2=((b::r).length+q.length-2)+1 from by simp;omega,eC,ih]
  have:bS (a::b::r)=bS (b::r):=by
   unfold bS
   rw[show (a::b::r).length-1=((b::r).length-1)+1 from by simp,eC]
  rw[this];grind
theorem rT{p:List Rat}{i:Nat}(h:coef p i≠0):i<p.length:=by
 refine Nat.lt_of_not_le fun e=>h (cL e)
theorem vu{p q a r:List Rat}(hz:aK q=false)(mG:q≠[])(ha:aK a=false)(hr:aK r=false)(hl:r.length<q.length)(h:∀x,evalL a x*evalL q x+evalL r x=evalL p x):cJ p q=(a,r):=by
 obtain⟨g1,g2⟩:=fN p hz mG
 obtain⟨t1,t2⟩:=jt p q
 have ea:(cJ p q).1=a:=by
  refine iZ t1 ha (fun i => ?_)
  have key:aJ (cM (cJ p q).1 (a6 (-1) a))=[]:=by
   refine Classical.byContradiction fun df => ?_
   have h1:=hO _ q df mG
   have h2:bS (aJ (cM (cJ p q).1 (a6 (-1) a)))*bS q≠0:=by
    intro e
    rcases Rat.mul_eq_zero.1 e with e|e
    ·exact cz (bg _) df e
    ·exact cz hz mG e
   have h3:=fw (p:=mulL (aJ (cM (cJ p q).1 (a6 (-1) a))) q) (q:=cM r (a6 (-1) (cJ p q).2)) (fun x=>by
    have:=g2 x
    have:=h x
    rw[aF,bE,br,aT,br,aT];grind) ((aJ (cM (cJ p q).1 (a6 (-1) a))).length+q.length-2)
   rw[h1,ft,ck] at h3
   have hp:=List.length_pos_iff.2 df
   rw[cL (p:=r) (by omega),cL (p:=(cJ p q).2) (by omega)] at h3
   exact h2 (by rw[h3];grind)
  have:=dc (cM (cJ p q).1 (a6 (-1) a)) i
  rw[key,ft,ck,jU] at this
  grind
 have er:(cJ p q).2=r:=by
  refine iZ t2 hr (fw (fun x => ?_))
  have h1:=g2 x
  have h2:=h x
  rw[ea] at h1
  grind
 exact Prod.ext ea er
theorem gH{p:List Rat} : aK p=false→∀c,c≠0→aK (a6 c p)=false:=by
 intro hz c hc
 by_cases h:p=[]
 ·subst h;rfl
 ·have:=cz hz h
  unfold bS at this
  unfold aK
  have hl:=List.length_pos_iff.2 h
  rw[List.getLast?_eq_getElem?,iz,nO (by rw[iz];omega),ck]
  show decide (c*_=0)=false
  refine decide_eq_false (fun e => ?_)
  rcases Rat.mul_eq_zero.1 e with e|e
  ·exact hc e
  ·exact this e
theorem nP{c:Rat}(h:c≠0):1/c≠0:=by
 intro e
 have:=Rat.div_mul_cancel (a:=1) h
 rw[e,Rat.zero_mul] at this
 exact absurd this (by decide)
theorem lZ{p:List Rat}(hz:aK p=false)(h:p≠[]):bP p=a6 (1/bS p) p:=by
 unfold bP
 exact jT (gH hz _ (nP (cz hz h)))
theorem bT(p:List Rat):aK (bP p)=false:=bg _
theorem bJ{p:List Rat}(hz:aK p=false):(bP p).length=p.length:=by
 by_cases h:p=[]
 ·subst h;rfl
 ·rw[lZ hz h,iz]
theorem gL{p:List Rat}(x:Rat):evalL (bP p) x=1/bS p*evalL p x:=by
 unfold bP
 rw[bE,aT]
theorem pM{p:List Rat}(hz:aK p=false)(h:p≠[]):bP p≠[]:=by
 intro e
 have:=bJ hz
 rw[e] at this
 exact h (List.eq_nil_of_length_eq_zero this.symm)
theorem xF{p:List Rat}{c:Rat}(hz:aK p=false)(hc:c≠0):bP (a6 c p)=bP p:=by
 by_cases h:p=[]
 ·subst h;rfl
 ·have ht:=cz hz h
  have e:bS (a6 c p)=c*bS p:=by unfold bS;rw[iz,ck]
  refine iZ (bT _) (bT _) (fw (fun x => ?_))
  rw[gL,gL,e,aT]
  have h1:=Rat.div_mul_cancel (a:=1) ht
  have Yd:c*bS p≠0:=fun e=>by rcases Rat.mul_eq_zero.1 e with e|e;exact hc e;exact ht e
  have h2:=Rat.div_mul_cancel (a:=1) Yd
  have h3:1/(c*bS p)*c=1/bS p:=by
   have:(1/(c*bS p)*c-1/bS p)*bS p=0:=by grind
   rcases Rat.mul_eq_zero.1 this with e|e
   ·grind
   ·exact absurd e ht
  grind
theorem oM{p:List Rat}(hz:aK p=false):bP (bP p)=bP p:=by
 by_cases h:p=[]
 ·subst h;rfl
 ·rw[lZ hz h,xF hz (nP (cz hz h)),lZ hz h]
theorem wO{p q:List Rat}{a b:Rat}(hz:aK q=false)(hq:q≠[])(ha:a≠0)(hb:b≠0):bm (a6 a p) (a6 b q)=a6 a (bm p q):=by
 obtain⟨g1,g2⟩:=fN p hz hq
 obtain⟨t1,t2⟩:=jt p q
 have dm:a/b≠0:=by
  intro e
  have:=Rat.div_mul_cancel (a:=a) hb
  rw[e,Rat.zero_mul] at this
  exact ha this.symm
 have:=vu (p:=a6 a p) (q:=a6 b q) (a:=a6 (a/b) (cJ p q).1) (r:=a6 a (cJ p q).2) (gH hz b hb) (by
  intro e;have:=congrArg List.length e;rw[iz] at this;exact hq (List.eq_nil_of_length_eq_zero this)) (gH t1 _ dm) (gH t2 _ ha) (by rw[iz,iz];exact g1) (fun x=>by
  have h1:=g2 x
  have h2:=Rat.div_mul_cancel (a:=a) hb
  rw[aT,aT,aT,aT,←h1]
  grind)
 unfold bm
 rw[this]
theorem cQ(p q:List Rat):aK (bm p q)=false:=(jt p q).2
theorem sO(q:List Rat):a6 1 q=q:=by
 unfold a6
 conv=>rhs;rw[←List.map_id q]
 exact List.map_congr_left (fun x _=>Rat.one_mul x)
theorem Aj{p q:List Rat}(hp:aK p=false)(hq:aK q=false)(h:q≠[]):bP (bm (bP p) q)=bP (bm p q):=by
 by_cases hZ:p=[]
 ·subst hZ;rfl
 ·rw[lZ hp hZ]
  have:=wO (p:=p) (a:=1/bS p) (b:=1) hq h (nP (cz hp hZ)) (by decide)
  rw[sO] at this
  rw[this,xF (cQ _ _) (nP (cz hp hZ))]
theorem E1{p q:List Rat}(hp:aK p=false)(hq:aK q=false)(h:q≠[]):bP (bm (bP p) (bP q))=bP (bm p q):=by
 have e:bm p (bP q)=bm p q:=by
  rw[lZ hq h]
  have:=wO (p:=p) (a:=1) (b:=1/bS q) hq h (by decide) (nP (cz hq h))
  rwa[sO,sO] at this
 rw[Aj hp (bT _) (pM hq h),e]
theorem Ak:∀(n:Nat) (p q:List Rat),aK p=false→aK q=false→bP q=q→gp n (bP p) q=bP (gp n p q)
 |0,p,q,_,_,_=>rfl
 |n+1,p,q,hp,hq,hm=>by
  rw[gp,gp]
  by_cases h:q.length=0
  ·rw[beq_iff.2 h,cond_true,cond_true]
  ·have df:q≠[]:=fun e=>h (by rw[e];rfl)
   rw[eR.2 h,cond_false,cond_false,Aj hp hq df]
   have ih:=Ak n q (bP (bm p q)) hq (bT _) (oM (cQ _ _))
   rwa[hm] at ih
theorem HG(p q:List Rat)(hp:aK p=false)(hq:aK q=false):gp (q.length+1) (bP p) (bP q)=bX p q:=by
 unfold bX
 rw[gp,gp,bJ hq]
 by_cases h:q.length=0
 ·rw[beq_iff.2 h,cond_true,cond_true]
 ·have df:q≠[]:=fun e=>h (by rw[e];rfl)
  rw[eR.2 h,cond_false,cond_false,E1 hp hq df]
  exact Ak _ q _ hq (bT _) (oM (cQ _ _))
theorem kB:∀(n:Nat) (p q:List Rat),aK p=false→aK q=false→aK (gp n p q)=false
 |0,p,q,hp,_=>hp
 |n+1,p,q,hp,hq=>by
  rw[gp]
  cases Nat.beq q.length 0 with
  |true=>exact hp
  |false=>exact kB n _ _ hq (bT _)
theorem eE(p q:List Rat):aK (bX p q)=false:=bT _
theorem yr:∀(n:Nat) (p q:List Rat),p≠[]∨(q≠[]∧0<n)→gp n p q≠[]
 |0,p,q,h=>by rcases h with h|⟨_,h⟩;exact h;omega
 |n+1,p,q,h=>by
  rw[gp]
  by_cases hq:q.length=0
  ·rw[beq_iff.2 hq,cond_true]
   rcases h with h|⟨h,_⟩
   ·exact h
   ·exact absurd (List.eq_nil_of_length_eq_zero hq) h
  ·rw[eR.2 hq,cond_false]
   exact yr n q _ (Or.inl (fun e=>hq (by rw[e];rfl)))
theorem yu{p:List Rat}(q:List Rat)(hp:aK p=false)(hq:aK q=false)(h:p≠[]):bX p q≠[]:=pM (kB _ _ _ hp hq) (yr _ _ _ (Or.inl h))
end Go.Proofs.YtllmkadmohkbfaaGreatDoor.Sym
namespace Go.Proofs.YtllmkadmohkbfaaGreatDoor.Sym
open Go Path bN
set_option linter.unusedVariables false
def Dv(p q:List Rat):Prop:=∃u,∀x,evalL q x=evalL u x*evalL p x
def n8(p q:List Rat):Prop:=∃u v,∀x,evalL u x*evalL p x+evalL v x*evalL q x=1
def fY(t:List Rat):Nat→List Rat
 |0=>[1]
 |k+1=>mulL (fY t k) t
theorem dp(c x:Rat):evalL [c] x=c:=by show 0*x+c=c;grind
theorem Al(t:List Rat)(x:Rat):∀k,evalL (fY t k) x=evalL t x^k
 |0=>by rw[fY,dp,Rat.pow_zero]
 |k+1=>by rw[fY,aF,Al t x k,Rat.pow_succ]
theorem Dv.refl(p:List Rat):Dv p p:=⟨[1],fun x=>by rw[dp,Rat.one_mul]⟩
theorem Dv.trans{p q r:List Rat}(h:Dv p q)(k:Dv q r):Dv p r:=by
 obtain⟨u,hu⟩:=h
 obtain⟨v,hv⟩:=k
 exact⟨mulL v u,fun x=>by rw[hv,hu,aF];grind⟩
theorem n8.symm{p q:List Rat}(h:n8 p q):n8 q p:=by
 obtain⟨u,v,e⟩:=h
 exact⟨v,u,fun x=>by have:=e x;grind⟩
theorem n8.Oh{p q r:List Rat}(h:n8 p q)(k:Dv r p):n8 r q:=by
 obtain⟨u,v,e⟩:=h
 obtain⟨w,hw⟩:=k
 exact⟨mulL u w,v,fun x=>by have:=e x;rw[hw] at this;rw[aF];grind⟩
theorem n8.mul{p q r:List Rat}(h:n8 p q)(k:n8 p r):n8 p (mulL q r):=by
 obtain⟨u,v,e⟩:=h
 obtain⟨u',v',e'⟩:=k
 refine⟨cM u (mulL (mulL v q) u'),mulL v v',fun x => ?_⟩
 have h1:=e x
 have h2:=e' x
 rw[br,aF,aF,aF,aF]
 have:(evalL u x+evalL v x*evalL q x*evalL u' x)*evalL p x+evalL v x*evalL v' x*(evalL q x*evalL r x)=evalL u x*evalL p x+evalL v x*evalL q x*(evalL u' x*evalL p x+evalL v' x*evalL r x):=by grind
 rw[this,h2];grind
theorem n8.pow{p q:List Rat}(h:n8 p q):∀k,n8 p (fY q k)
 |0=>⟨[],[1],fun x=>by rw[fY,dp];show(0:Rat)*_+_=_;grind⟩
 |k+1=>(h.pow k).mul h
theorem n8.dv{p q r:List Rat}(h:n8 p q)(k:Dv p (mulL q r)):Dv p r:=by
 obtain⟨u,v,e⟩:=h
 obtain⟨w,hw⟩:=k
 refine⟨cM (mulL u r) (mulL v w),fun x => ?_⟩
 have h1:=e x
 have h2:=hw x
 rw[aF] at h2
 rw[br,aF,aF]
 have:(evalL u x*evalL r x+evalL v x*evalL w x)*evalL p x=(evalL u x*evalL p x)*evalL r x+evalL v x*(evalL w x*evalL p x):=by grind
 rw[this,←h2]
 have:evalL u x*evalL p x*evalL r x+evalL v x*(evalL q x*evalL r x)=(evalL u x*evalL p x+evalL v x*evalL q x)*evalL r x:=by grind
 rw[this,h1,Rat.one_mul]
theorem HH{t a b:List Rat}(ht:aJ t≠[])(h:∀x,evalL t x*evalL a x=evalL t x*evalL b x):∀x,evalL a x=evalL b x:=by
 have key:aJ (cM a (a6 (-1) b))=[]:=by
  refine Classical.byContradiction fun df => ?_
  have h1:=hO _ _ ht df
  have h2:=fw (p:=mulL (aJ t) (aJ (cM a (a6 (-1) b)))) (q:=[]) (fun x=>by
   rw[aF,bE,bE,br,aT]
   have:=h x
   show _=(0:Rat)
   grind)
  rw[h2] at h1
  rcases Rat.mul_eq_zero.1 h1.symm with e|e
  ·exact cz (bg _) ht e
  ·exact cz (bg _) df e
 intro x
 have:=bE x (cM a (a6 (-1) b))
 rw[key,br,aT] at this
 have h0:(0:Rat)=evalL a x + -1*evalL b x:=this
 grind
theorem Dv.len{p q:List Rat}(h:Dv p q)(hp:aK p=false)(hq:aK q=false)(h0:q≠[]):p≠[]∧p.length≤q.length:=by
 obtain⟨u,hu⟩:=h
 have PK:p≠[]:=by
  intro e
  subst e
  have:∀i,coef q i=coef [] i:=fw (fun x=>by rw[hu];show _*(0:Rat)=0;rw[Rat.mul_zero])
  exact h0 (iZ hq rfl this)
 have PL:aJ u≠[]:=by
  intro e
  have:∀i,coef q i=coef [] i:=fw (fun x=>by rw[hu,←bE x u,e];show(0:Rat)*_=0;rw[Rat.zero_mul])
  exact h0 (iZ hq rfl this)
 refine⟨PK,?_⟩
 have h1:=hO _ p PL PK
 have h2:=fw (p:=mulL (aJ u) p) (q:=q) (fun x=>by rw[aF,bE,hu])
 rw[h2] at h1
 have h3:coef q ((aJ u).length+p.length-2)≠0:=by
  rw[h1]
  intro e
  rcases Rat.mul_eq_zero.1 e with e|e
  ·exact cz (bg _) PL e
  ·exact cz hp PK e
 have:=rT h3
 have:=List.length_pos_iff.2 PL
 omega
theorem Am{p:List Rat}(hz:aK p=false):Dv (bP p) p:=by
 by_cases h:p=[]
 ·subst h;exact Dv.refl _
 ·refine⟨[bS p],fun x => ?_⟩
  rw[dp,gL]
  have:=Rat.div_mul_cancel (a:=1) (cz hz h)
  grind
theorem KY(p:List Rat):Dv p (bP p):=⟨[1/bS p],fun x=>by rw[dp,gL]⟩
theorem E2:∀(n:Nat) (p q:List Rat),aK p=false→aK q=false→∃u v,∀x,evalL (gp n p q) x=evalL u x*evalL p x+evalL v x*evalL q x
 |0,p,q,_,_=>⟨[1],[],fun x=>by rw[dp];show _=_+(0:Rat)*_;rw[gp];grind⟩
 |n+1,p,q,hp,hq=>by
  rw[gp]
  by_cases h:q.length=0
  ·rw[beq_iff.2 h,cond_true]
   exact⟨[1],[],fun x=>by rw[dp];show _=_+(0:Rat)*_;grind⟩
  ·have df:q≠[]:=fun e=>h (by rw[e];rfl)
   rw[eR.2 h,cond_false]
   obtain⟨u,v,e⟩:=E2 n q (bP (bm p q)) hq (bT _)
   obtain⟨g1,g2⟩:=fN p hq df
   refine⟨a6 (1/bS (bm p q)) v,cM u (a6 (-(1/bS (bm p q))) (mulL v (cJ p q).1)),fun x => ?_⟩
   have h2:evalL (cJ p q).1 x*evalL q x+evalL (bm p q) x=evalL p x:=g2 x
   rw[e x,gL,br,aT,aT,aF,←h2]
   grind
theorem HI:∀(n:Nat) (p q:List Rat),aK p=false→aK q=false→q.length<n→Dv (gp n p q) p∧Dv (gp n p q) q
 |0,p,q,_,_,h=>by omega
 |n+1,p,q,hp,hq,hn=>by
  rw[gp]
  by_cases h:q.length=0
  ·rw[beq_iff.2 h,cond_true,List.eq_nil_of_length_eq_zero h]
   exact⟨Dv.refl p,[],fun x=>by show(0:Rat)=0*_;rw[Rat.zero_mul]⟩
  ·have df:q≠[]:=fun e=>h (by rw[e];rfl)
   rw[eR.2 h,cond_false]
   obtain⟨g1,g2⟩:=fN p hq df
   obtain⟨d1,d2⟩:=HI n q (bP (bm p q)) hq (bT _) (by rw[bJ (cQ _ _)];unfold bm;omega)
   have d3:=d2.trans (Am (cQ p q))
   refine⟨?_,d1⟩
   obtain⟨a,ha⟩:=d1
   obtain⟨b,hb⟩:=d3
   refine⟨cM (mulL (cJ p q).1 a) b,fun x => ?_⟩
   have h2:evalL (cJ p q).1 x*evalL q x+evalL (bm p q) x=evalL p x:=g2 x
   rw[←h2,br,aF,hb x]
   have:=ha x
   rw[this];grind
theorem vv(p q:List Rat)(hp:aK p=false)(hq:aK q=false):∃u v,∀x,evalL (bX p q) x=evalL u x*evalL p x+evalL v x*evalL q x:=by
 obtain⟨u,v,e⟩:=E2 (q.length+1) p q hp hq
 unfold bX
 refine⟨a6 (1/bS (gp (q.length+1) p q)) u,a6 (1/bS (gp (q.length+1) p q)) v,fun x => ?_⟩
 rw[gL,aT,aT,e x];grind
theorem j7(p q:List Rat)(hp:aK p=false)(hq:aK q=false):Dv (bX p q) p∧Dv (bX p q) q:=by
 obtain⟨h1,h2⟩:=HI (q.length+1) p q hp hq (Nat.lt_succ_self _)
 have h3:=Am (kB (q.length+1) p q hp hq)
 exact⟨h3.trans h1,h3.trans h2⟩
theorem B6{p:List Rat}(hz:aK p=false)(h:p.length=1):bP p=[1]:=by
 have df:p≠[]:=by intro e;rw[e] at h;cases h
 match p,h with
 |[a],_ =>
  have ha:a≠0:=cz hz df
  rw[lZ hz df]
  show[1/a*a]=[1]
  rw[Rat.div_mul_cancel ha]
theorem ur{p q:List Rat}(hp:aK p=false)(hq:aK q=false)(h:(bX p q).length=1):n8 p q:=by
 have e:bX p q=[1]:=by
  have h1:=oM (kB (q.length+1) p q hp hq)
  have h2:=B6 (eE p q) h
  unfold bX at h2 ⊢
  rw[←h1,h2]
 obtain⟨u,v,b⟩:=vv p q hp hq
 refine⟨u,v,fun x => ?_⟩
 rw[←b x,e,dp]
theorem An{p q:List Rat}(hp:aK p=false)(hq:aK q=false)(h:n8 p q):bX p q=[1]:=by
 obtain⟨d1,d2⟩:=j7 p q hp hq
 obtain⟨u,v,e⟩:=h
 obtain⟨a,ha⟩:=d1
 obtain⟨b,hb⟩:=d2
 have hd:Dv (bX p q) [1]:=⟨cM (mulL u a) (mulL v b),fun x=>by
  have:=e x
  rw[ha,hb] at this
  rw[dp,br,aF,aF];grind⟩
 obtain⟨g1,g2⟩:=hd.len (eE p q) (by rfl) (by simp)
 have hl:=List.length_pos_iff.2 g1
 have g2:(bX p q).length≤1:=g2
 have h1:=oM (kB (q.length+1) p q hp hq)
 have h2:=B6 (eE p q) (by omega)
 unfold bX at h2 ⊢
 rw[←h1,h2]
def dEv(p:List Rat)(x:Rat):Rat:=evalL (fE 1 (p.drop 1)) x
theorem cr(p:List Rat)(x:Rat):evalL (ak p) x=dEv p x:=Bk p x
theorem B7(x:Rat):∀(q:List Rat) (i:Nat),evalL (fE (i+1) q) x=evalL (fE i q) x+evalL q x
 |[],_=>by show(0:Rat)=0+0;grind
 |a::r,i=>by
  rw[fE,fE,evalL,evalL,evalL,B7 x r (i+1)]
  have:(((i+1:Nat):Int):Rat)=((i:Int):Rat)+1:=by simp
  rw[this];grind
theorem ly(a:Rat)(p:List Rat)(x:Rat):dEv (a::p) x=evalL p x+x*dEv p x:=by
 show evalL (fE 1 p) x=_
 rw[B7 x p 0]
 have:evalL (fE 0 p) x=x*dEv p x:=by
  cases p with
  |nil=>show(0:Rat)=x*0;rw[Rat.mul_zero]
  |cons b r =>
   show evalL (fE 1 r) x*x+((0:Nat):Int)*b=x*evalL (fE 1 r) x
   have:(((0:Nat):Int):Rat)=0:=rfl
   rw[this];grind
 rw[this];grind
theorem Dj(x:Rat):dEv [] x=0:=rfl
theorem HJ(x:Rat):∀p q:List Rat,dEv (cM p q) x=dEv p x+dEv q x
 |[],q=>by rw[cM,Dj,Rat.zero_add]
 |a::p,[]=>by rw[cM,Dj,Rat.add_zero]
 |a::p,b::q=>by rw[cM,ly,ly,ly,br,HJ x p q];grind
theorem Ao(c x:Rat):∀p:List Rat,dEv (a6 c p) x=c*dEv p x
 |[]=>by show(0:Rat)=c*0;rw[Rat.mul_zero]
 |a::p=>by
  show dEv (c*a::a6 c p) x=_
  rw[ly,ly,aT,Ao c x p];grind
theorem qF(x:Rat)(q:List Rat):∀p:List Rat,dEv (mulL p q) x=dEv p x*evalL q x+evalL p x*dEv q x
 |[]=>by rw[mulL,Dj];show(0:Rat)=0*_+0*_;grind
 |a::p=>by
  rw[mulL,HJ,Ao,ly,ly,aF,qF x q p,evalL];grind
theorem nh{p q:List Rat}(h:∀x,evalL p x=evalL q x)(x:Rat):dEv p x=dEv q x:=by
 rw[←cr,←cr]
 have:ak p=ak q:=by
  rw[←tD p,←tD q,E0 h]
 rw[this]
theorem HK(t:List Rat)(x:Rat):∀k,evalL t x*dEv (fY t k) x=((k:Int):Rat)*(evalL (fY t k) x*dEv t x)
 |0=>by
  have:dEv (fY t 0) x=0:=rfl
  rw[this]
  have:(((0:Nat):Int):Rat)=0:=rfl
  rw[this];grind
 |k+1=>by
  have ih:=HK t x k
  have:(((k+1:Nat):Int):Rat)=((k:Int):Rat)+1:=by simp
  rw[fY,qF,aF,this]
  grind
theorem yv{t:List Rat}(ht:aJ t≠[])(k:Nat):aJ (fY t k)≠[]:=by
 induction k with
 |zero=>rw[fY];decide
 |succ k ih =>
  intro e
  have h1:=hO _ _ ih ht
  have h2:=fw (p:=mulL (aJ (fY t k)) (aJ t)) (q:=[]) (fun x=>by
   rw[aF,bE,bE,←aF]
   show evalL (fY t (k+1)) x=_
   rw[←bE,e])
  rw[h2] at h1
  rcases Rat.mul_eq_zero.1 h1.symm with e|e
  ·exact cz (bg _) ih e
  ·exact cz (bg _) ht e
theorem KZ{t:List Rat}(hz:aK t=false)(h:2≤t.length)(k:Nat):k+1≤(aJ (fY t k)).length:=by
 have df:t≠[]:=by intro e;rw[e] at h;simp at h
 have UY:=jT hz
 induction k with
 |zero=>have:=List.length_pos_iff.2 (yv (t:=t) (by rw[UY];exact df) 0);omega
 |succ k ih =>
  have h1:=hO _ t (yv (t:=t) (by rw[UY];exact df) k) df
  have h2:coef (aJ (fY t (k+1))) ((aJ (fY t k)).length+t.length-2)≠0:=by
   rw[dc]
   have:=fw (p:=fY t (k+1)) (q:=mulL (aJ (fY t k)) t) (fun x=>by rw[fY,aF,aF,bE])
   rw[this,h1]
   intro e
   rcases Rat.mul_eq_zero.1 e with e|e
   ·exact cz (bg _) (yv (t:=t) (by rw[UY];exact df) k) e
   ·exact cz hz df e
  have:=rT h2
  omega
theorem ja{p:List Rat}(h:p≠[]):(ak p).length<p.length:=by
 have h1:=fM (fE 1 (p.drop 1))
 rw[mu,List.length_drop] at h1
 have:=List.length_pos_iff.2 h
 have h2:(ak p).length≤p.length-1:=h1
 omega
structure Sq (p g f w:List Rat):Prop where
 pe:∀x,evalL p x=evalL f x*evalL g x
 de:∀x,dEv p x=evalL w x*evalL g x
 g0:aJ g≠[]
 zg:aK g=false
 zf:aK f=false
 f0:f≠[]
 Dk:n8 f w
theorem Sq.rel{p g f w:List Rat}(s:Sq p g f w)(x:Rat):evalL f x*dEv g x=evalL g x*(evalL w x-dEv f x):=by
 have h1:=nh (q:=mulL f g) (fun x=>by rw[s.pe,aF]) x
 rw[qF,s.de] at h1
 grind
theorem R8{p:List Rat}(hz:aK p=false)(h0:p≠[]):∃w,Sq p (bX p (ak p)) (cJ p (bX p (ak p))).1 w:=by
 have AW:=yu (ak p) hz (ba p) h0
 have UZ:=eE p (ak p)
 obtain⟨d1,d2⟩:=j7 p (ak p) hz (ba p)
 obtain⟨u,hu⟩:=d1
 obtain⟨w,hw⟩:=d2
 have hdiv:=vu (p:=p) (q:=bX p (ak p)) (a:=aJ u) (r:=[]) UZ AW (bg u) rfl (List.length_pos_iff.2 AW) (fun x=>by
  rw[bE,hu x];show _+(0:Rat)=_;rw[Rat.add_zero])
 have e1:(cJ p (bX p (ak p))).1=aJ u:=by rw[hdiv]
 have WD:aJ (bX p (ak p))≠[]:=by rw[jT UZ];exact AW
 refine⟨w,⟨fun x=>by rw[e1,bE,hu x],fun x=>by rw[←cr,hw x],WD,UZ,(jt _ _).1,?_,?_⟩⟩
 ·rw[e1]
  intro e
  have:∀i,coef p i=coef [] i:=fw (fun x=>by rw[hu,←bE x u,e];show(0:Rat)*_=0;rw[Rat.zero_mul])
  exact h0 (iZ hz rfl this)
 ·obtain⟨a,b,hb⟩:=vv p (ak p) hz (ba p)
  refine⟨a,b,?_⟩
  have:=HH (t:=bX p (ak p)) (a:=cM (mulL a (cJ p (bX p (ak p))).1) (mulL b w)) (b:=[1]) WD (fun x=>by
   have h1:=hb x
   rw[dp,br,aF,aF,e1,bE]
   have h2:=hu x
   have h3:=hw x
   rw[h2,h3] at h1
   grind)
  intro x
  have h:=this x
  rw[br,aF,aF,dp] at h
  exact h
theorem Sq.HL{p g f w t:List Rat}(s:Sq p g f w)(ht:aJ t≠[])(h1:Dv t f)(h2:∃v,∀x,dEv f x=evalL v x*evalL t x):∀k,∃r,∀x,evalL g x=evalL (fY t k) x*evalL r x
 |0=>⟨g,fun x=>by rw[fY,dp,Rat.one_mul]⟩
 |k+1=>by
  obtain⟨r,hr⟩:=s.HL ht h1 h2 k
  obtain⟨f1,U3⟩:=h1
  obtain⟨v,hv⟩:=h2
  have key:∀x,evalL f1 x*(((k:Int):Rat)*dEv t x*evalL r x+evalL t x*dEv r x)=evalL r x*(evalL w x-dEv f x):=by
   have:=HH (t:=fY t k) (a:=mulL f1 (cM (a6 ((k:Int):Rat) (mulL (ak t) r)) (mulL t (ak r)))) (b:=mulL r (cM w (a6 (-1) (ak f)))) (yv ht k) (fun x=>by
    rw[aF,aF,br,br,aT,aT,aF,aF,cr,cr,cr]
    have g1:=s.rel x
    have g2:=nh (q:=mulL (fY t k) r) (fun x=>by rw[hr,aF]) x
    rw[qF] at g2
    have g3:=HK t x k
    have g4:=hr x
    have g5:=U3 x
    rw[g4,g2,g5] at g1
    have:evalL f1 x*evalL t x*(dEv (fY t k) x*evalL r x+evalL (fY t k) x*dEv r x)=evalL f1 x*((evalL t x*dEv (fY t k) x)*evalL r x+evalL t x*evalL (fY t k) x*dEv r x):=by grind
    rw[this,g3] at g1
    grind)
   intro x
   have h:=this x
   rw[aF,aF,br,br,aT,aT,aF,aF,cr,cr,cr] at h
   grind
  have hd:Dv t (mulL w r):=by
   have h3:=fun x=>nh (q:=mulL f1 t) (fun x=>by rw[U3,aF]) x
   refine⟨cM (cM (a6 ((k:Int):Rat) (mulL r (cM v (a6 (-1) (ak f1))))) (mulL f1 (ak r))) (mulL r v),fun x => ?_⟩
   have k1:=key x
   have k2:=h3 x
   rw[qF,hv] at k2
   have k3:=hv x
   rw[aF,br,br,aT,aF,br,aT,aF,aF,cr,cr]
   have k4:evalL f1 x*dEv t x=(evalL v x-dEv f1 x)*evalL t x:=by grind
   have k5:evalL f1 x*(((k:Int):Rat)*dEv t x*evalL r x)=((k:Int):Rat)*((evalL v x-dEv f1 x)*evalL t x)*evalL r x:=by rw[←k4];grind
   have k6:evalL w x*evalL r x=evalL f1 x*(((k:Int):Rat)*dEv t x*evalL r x)+evalL f1 x*(evalL t x*dEv r x)+evalL r x*dEv f x:=by grind
   rw[k6,k5,k3];grind
  obtain⟨r1,vN⟩:=(s.Dk.Oh ⟨f1,U3⟩).dv hd
  exact⟨r1,fun x=>by rw[hr,vN,fY,aF];grind⟩
theorem Sq.free{p g f w:List Rat}(s:Sq p g f w):n8 f (ak f):=by
 refine ur s.zf (ba f) ?_
 have df:=yu (ak f) s.zf (ba f) s.f0
 have hl:=List.length_pos_iff.2 df
 refine Classical.byContradiction fun h => ?_
 have h2:2≤(bX f (ak f)).length:=by omega
 have hz:=eE f (ak f)
 obtain⟨d1,d2⟩:=j7 f (ak f) s.zf (ba f)
 obtain⟨v,hv⟩:=d2
 obtain⟨r,hr⟩:=s.HL (t:=bX f (ak f)) (by rw[jT hz];exact df) d1 ⟨v,fun x=>by rw[←cr,hv]⟩ g.length
 have K0:Dv (aJ (fY (bX f (ak f)) g.length)) g:=⟨r,fun x=>by rw[bE,hr];grind⟩
 have hg:g≠[]:=by intro e;exact s.g0 (by rw[e];rfl)
 have:=(K0.len (bg _) s.zg hg).2
 have:=KZ hz h2 g.length
 omega
theorem Sq.Oi{p g f w:List Rat}(s:Sq p g f w):∀(n i:Nat) (e r:List Rat),r.length≤n→aK r=false→(∀x,evalL g x=evalL e x*evalL r x)→Dv e (fY f i)→Dv g (fY f (i+n))
 |n,i,e,r,hl,hz,hg,hd=>by
  have up:∀m,Dv e (fY f (i+m)):=by
   intro m
   induction m with
   |zero=>exact hd
   |succ m ih =>
    obtain⟨u,hu⟩:=ih
    exact⟨mulL u f,fun x=>by show evalL (mulL (fY f (i+m)) f) x=_;rw[aF,hu,aF];grind⟩
  have Bv:r≠[]:=by
   intro e'
   have:∀i,coef g i=coef [] i:=fw (fun x=>by rw[hg,e'];show _*(0:Rat)=0;rw[Rat.mul_zero])
   exact s.g0 (by rw[jT s.zg];exact iZ s.zg rfl this)
  have Jn:=List.length_pos_iff.2 Bv
  by_cases h1:r.length=1
  ·match r,h1 with
   |[c],_ =>
    have hc:c≠0:=cz hz Bv
    obtain⟨u,hu⟩:=up n
    refine⟨a6 (1/c) u,fun x => ?_⟩
    have h2:=hg x
    rw[dp] at h2
    have h3:=Rat.div_mul_cancel (a:=1) hc
    rw[hu,aT,h2];grind
  ·obtain⟨m,rfl⟩:∃m,n=m+1:=⟨n-1,by omega⟩
   have R9:=yu f hz s.zf Bv
   have Ye:=eE r f
   have vO:=List.length_pos_iff.2 R9
   obtain⟨d1,d2⟩:=j7 r f hz s.zf
   have h2:2≤(bX r f).length:=by
    refine Classical.byContradiction fun bh => ?_
    have hc:=ur hz s.zf (by omega:(bX r f).length=1)
    have Yf:n8 r e:=((hc.pow i).symm.Oh hd).symm
    have sZ:Dv r (mulL (mulL f e) (ak r)):=by
     refine⟨cM (mulL e (cM w (a6 (-1) (ak f)))) (a6 (-1) (mulL f (ak e))),fun x => ?_⟩
     have g1:=s.rel x
     have g2:=nh (q:=mulL e r) (fun x=>by rw[hg,aF]) x
     rw[qF] at g2
     rw[g2,hg] at g1
     rw[aF,aF,br,aF,br,aT,aT,aF,cr,cr,cr]
     grind
    have ML:=(hc.mul Yf).dv sZ
    by_cases hd0:ak r=[]
    ·
     have key:∀i,coef (fE 1 (r.drop 1)) i=0:=by
      intro i
      have:=dc (fE 1 (r.drop 1)) i
      have e2:aJ (fE 1 (r.drop 1))=[]:=hd0
      rw[e2,jU] at this
      exact this.symm
     have AV:∀(q:List Rat) (i j:Nat),coef (fE i q) j=((i+j:Nat):Int)*coef q j:=by
      intro q
      induction q with
      |nil=>intro i j;show(0:Rat)=_*0;rw[Rat.mul_zero]
      |cons a q ih =>
       intro i j
       cases j with
       |zero=>rfl
       |succ j=>rw[fE,eC,eC,ih (i+1) j,show i+1+j=i+(j+1) from by omega]
     have hk:=key (r.length-2)
     rw[AV] at hk
     have vY:coef (r.drop 1) (r.length-2)=bS r:=by
      unfold bS
      rw[show r.length-1=(r.length-2)+1 from by omega]
      cases r with
      |nil=>rfl
      |cons a q=>rfl
     rw[vY] at hk
     rcases Rat.mul_eq_zero.1 hk with h|h
     ·have:=Rat.intCast_inj.1 (show (((1+(r.length-2):Nat):Int):Rat)=((0:Int):Rat) from h)
      omega
     ·exact cz hz Bv h
    ·have:=(ML.len hz (ba r) hd0).2
     have h3:=fM (fE 1 (r.drop 1))
     rw[mu,List.length_drop] at h3
     have h4:(ak r).length≤r.length-1:=h3
     omega
   obtain⟨r1,vN⟩:=d1
   have ED:=bg r1
   have xe:(aJ r1).length≤m:=by
    have sl:Dv (aJ r1) r:=⟨bX r f,fun x=>by rw[bE,vN];grind⟩
    have K3:=(sl.len ED hz Bv).1
    have h5:=hO _ _ K3 R9
    have h6:=fw (p:=mulL (aJ r1) (bX r f)) (q:=r) (fun x=>by rw[aF,bE,vN])
    rw[h6] at h5
    have h7:coef r ((aJ r1).length+(bX r f).length-2)≠0:=by
     rw[h5]
     intro e'
     rcases Rat.mul_eq_zero.1 e' with e'|e'
     ·exact cz ED K3 e'
     ·exact cz Ye R9 e'
    have:=rT h7
    have:=List.length_pos_iff.2 K3
    omega
   have:=s.Oi m (i+1) (mulL e (bX r f)) (aJ r1) xe ED (fun x=>by rw[hg,vN,aF,bE];grind) (by
    obtain⟨u,hu⟩:=hd
    obtain⟨v,hv⟩:=d2
    refine⟨mulL u v,fun x => ?_⟩
    show evalL (mulL (fY f i) f) x=_
    rw[aF,aF,aF,hu,hv];grind)
   rwa[show i+1+m=i+(m+1) from by omega] at this
 termination_by n=>n
theorem Sq.all{p g f w:List Rat}(s:Sq p g f w):Dv p (fY f (g.length+1)):=by
 obtain⟨u,hu⟩:=s.Oi g.length 0 [1] g (Nat.le_refl _) s.zg (fun x=>by rw[dp,Rat.one_mul]) ⟨[1],fun x=>by rw[fY,dp,Rat.one_mul]⟩
 rw[Nat.zero_add] at hu
 refine⟨u,fun x => ?_⟩
 rw[fY,aF,hu,s.pe];grind
end Go.Proofs.YtllmkadmohkbfaaGreatDoor.Sym
namespace Go.Proofs.YtllmkadmohkbfaaGreatDoor.Sym
open Go Path bN
set_option linter.unusedVariables false
def ab(x:Rat):Rat:=if 0≤x then x else -x
theorem a7(x:Rat):(0≤x∧ab x=x)∨(x<0∧ab x = -x):=by
 unfold ab
 by_cases h:0≤x
 ·rw[if_pos h];exact Or.inl ⟨h,rfl⟩
 ·rw[if_neg h];exact Or.inr ⟨by grind,rfl⟩
theorem bz(x:Rat):0≤ab x:=by rcases a7 x with h|h<;>grind
theorem uu{x:Rat}(h:x≠0):0<ab x:=by rcases a7 x with h|h<;>grind
theorem E3{x c:Rat}(h1:x≤c)(h2 : -x≤c):ab x≤c:=by rcases a7 x with h|h<;>grind
theorem qW(x:Rat):x≤ab x:=by rcases a7 x with h|h<;>grind
theorem ju(x:Rat) : -x≤ab x:=by rcases a7 x with h|h<;>grind
theorem Dl(x:Rat):ab (-x)=ab x:=by rcases a7 x with h|h<;>rcases a7 (-x) with k|k<;>grind
theorem lz(x y:Rat):ab (x+y)≤ab x+ab y:=by
 have h1:=qW x
 have h2:=ju x
 have h3:=qW y
 have h4:=ju y
 exact E3 (by grind) (by grind)
theorem gh(x y:Rat):ab (x*y)=ab x*ab y:=by
 rcases a7 x with ⟨h1,e1⟩|⟨h1,e1⟩<;>rcases a7 y with ⟨h2,e2⟩|⟨h2,e2⟩<;>rw[e1,e2]
 ·have:=Rat.mul_nonneg h1 h2
  rcases a7 (x*y) with h|h<;>grind
 ·have:=Rat.mul_nonneg h1 (show 0 ≤ -y by grind)
  rcases a7 (x*y) with h|h<;>grind
 ·have:=Rat.mul_nonneg (show 0 ≤ -x by grind) h2
  rcases a7 (x*y) with h|h<;>grind
 ·have:=Rat.mul_nonneg (show 0 ≤ -x by grind) (show 0 ≤ -y by grind)
  rcases a7 (x*y) with h|h<;>grind
theorem oN:ab 0=0:=rfl
theorem cO{a b c d:Rat}(h1:a≤b)(h2:c≤d)(h3:0≤a)(h4:0≤d):a*c≤b*d :=
 Rat.le_trans (Rat.mul_le_mul_of_nonneg_left h2 h3) (Rat.mul_le_mul_of_nonneg_right h1 h4)
def nrm:List Rat→Rat→Rat
 |[],_=>0
 |a::r,R=>nrm r R*R+ab a
def lip:List Rat→Rat→Rat
 |[],_=>0
 |_::r,R=>lip r R*R+nrm r R
def sec:List Rat→Rat→Rat
 |[],_=>0
 |_::r,R=>sec r R*R+lip r R
theorem jb{R:Rat}(hR:0≤R):∀p,0≤nrm p R
 |[]=>Rat.le_refl
 |a::r=>by
  have h1:=Rat.mul_nonneg (jb hR r) hR
  have h2:=bz a
  rw[nrm];grind
theorem cI{R:Rat}(hR:0≤R):∀p,0≤lip p R
 |[]=>Rat.le_refl
 |a::r=>by
  have h1:=Rat.mul_nonneg (cI hR r) hR
  have h2:=jb hR r
  rw[lip];grind
theorem l0{R:Rat}(hR:0≤R):∀p,0≤sec p R
 |[]=>Rat.le_refl
 |a::r=>by
  have h1:=Rat.mul_nonneg (l0 hR r) hR
  have h2:=cI hR r
  rw[sec];grind
theorem j8{R x:Rat}(hx:ab x≤R):∀p,ab (evalL p x)≤nrm p R
 |[]=>Rat.le_refl
 |a::r=>by
  have h1:=j8 hx r
  have h2:=lz (evalL r x*x) a
  rw[gh] at h2
  have h3:=cO h1 hx (bz _) (Rat.le_trans (bz x) hx)
  rw[evalL,nrm];grind
theorem oO{R x y:Rat}(hx:ab x≤R)(hy:ab y≤R):∀p,ab (evalL p x-evalL p y)≤lip p R*ab (x-y)
 |[]=>by
  show ab (0-0)≤0*_
  rw[show (0:Rat)-0=0 from by grind,oN,Rat.zero_mul];exact Rat.le_refl
 |a::r=>by
  have h0:=Rat.le_trans (bz x) hx
  have h1:=oO hx hy r
  have h2:=j8 hy r
  have e:evalL (a::r) x-evalL (a::r) y=(evalL r x-evalL r y)*x+evalL r y*(x-y):=by rw[evalL,evalL];grind
  rw[e]
  have h3:=lz ((evalL r x-evalL r y)*x) (evalL r y*(x-y))
  rw[gh,gh] at h3
  have h4:=cO h1 hx (bz _) h0
  have h5:=Rat.mul_le_mul_of_nonneg_right h2 (bz (x-y))
  rw[lip];grind
theorem K4{R x:Rat}(hx:ab x≤R):∀p,ab (dEv p x)≤lip p R
 |[]=>Rat.le_refl
 |a::r=>by
  have h1:=K4 hx r
  have h2:=j8 hx r
  have h3:=lz (evalL r x) (x*dEv r x)
  rw[gh] at h3
  have h4:=cO hx h1 (bz _) (cI (Rat.le_trans (bz x) hx) r)
  rw[ly,lip];grind
def HM(x y:Rat):List Rat→Rat
 |[]=>0
 |_::r=>dEv r x+y*HM x y r
theorem GH(x y:Rat):∀p,evalL p y=evalL p x+(y-x)*dEv p x+(y-x)*(y-x)*HM x y p
 |[]=>by show(0:Rat)=0+(y-x)*0+(y-x)*(y-x)*0;grind
 |a::r=>by
  have:=GH x y r
  rw[evalL,evalL,ly,HM,this];grind
theorem GI{R x y:Rat}(hx:ab x≤R)(hy:ab y≤R):∀p,ab (HM x y p)≤sec p R
 |[]=>Rat.le_refl
 |a::r=>by
  have h0:=Rat.le_trans (bz x) hx
  have h1:=GI hx hy r
  have h2:=K4 hx r
  have h3:=lz (dEv r x) (y*HM x y r)
  rw[gh] at h3
  have h4:=cO hy h1 (bz _) (l0 h0 r)
  rw[HM,sec];grind
def sg(x:Rat):Int:=fJ x 0
theorem bI(x:Rat):(x<0∧sg x = -1)∨(x=0∧sg x=0)∨(0<x∧sg x=1):=by
 unfold sg fJ
 by_cases h:x<0
 ·rw[if_pos h];exact Or.inl ⟨h,rfl⟩
 ·rw[if_neg h]
  by_cases h2:x=0
  ·rw[if_pos h2];exact Or.inr (Or.inl ⟨h2,rfl⟩)
  ·rw[if_neg h2];exact Or.inr (Or.inr ⟨by grind,rfl⟩)
def varS:Int→List Int→Int
 |_,[]=>0
 |l,s::r=>if s=0 then varS l r else (if s = -l then 1 else 0)+varS s r
def fK(G:List (List Rat))(x:Rat):Int:=varS 0 (G.map (fun g=>sg (evalL g x)))
inductive Nj:Int→List (Int×Int)→Prop
 |nil (s:Int):Nj s []
 |same {s t:Int} {l:List (Int×Int)} (ht:t=1∨t = -1) (h:Nj t l):Nj s ((t,t)::l)
 |j6 {s a b:Int} {l:List (Int×Int)} (hs:s=1∨s = -1) (ha:a=0∨a=1∨a = -1) (hb:b=0∨b=1∨b = -1) (h:Nj (-s) l):Nj s ((a,b)::(-s, -s)::l)
theorem HN{s a:Int}(hs:s=1∨s = -1)(ha:a=0∨a=1∨a = -1)(l:List Int):varS s (a :: -s::l)=1+varS (-s) l:=by
 rcases hs with rfl|rfl<;>rcases ha with rfl|rfl|rfl<;>simp[varS]
theorem Nj.eq{s:Int}{l:List (Int×Int)}(h:Nj s l):varS s (l.map Prod.fst)=varS s (l.map Prod.snd):=by
 induction h with
 |nil s=>rfl
 |same ht h ih =>
  rw[List.map_cons,List.map_cons]
  rcases ht with rfl|rfl<;>simp[varS,ih]
 |j6 hs ha hb h ih =>
  rw[List.map_cons,List.map_cons,List.map_cons,List.map_cons,HN hs ha,HN hs hb,ih]
def E4(Q κ x:Rat):List (List Rat)→Prop
 |[]=>False
 |[g]=>κ≤ab (evalL g x)
 |[g,h]=>κ≤ab (evalL h x)
 |g::h::k::r=>ab (evalL g x+evalL k x)≤Q*ab (evalL h x)∧E4 Q κ x (h::k::r)
theorem E4.max{Q κ x η:Rat}(hQ:0≤Q)(hη:0<η):∀(r:List (List Rat)) (g h:List Rat) (N:Nat),E4 Q κ x (g::h::r)→r.length≤N→(Q+1)^N*η≤κ→η≤ab (evalL g x)∨η≤ab (evalL h x)
 |[],g,h,N,hl,hN,hk=>by
  have hl:κ≤ab (evalL h x):=hl
  right
  have key:∀n:Nat,1≤(Q+1)^n:=by
   intro n
   induction n with
   |zero=>rw[Rat.pow_zero];exact Rat.le_refl
   |succ n ih =>
    rw[Rat.pow_succ]
    have:=Rat.mul_nonneg (show 0≤(Q+1)^n by grind) hQ
    grind
  have:=Rat.mul_le_mul_of_nonneg_right (key N) (Rat.le_of_lt hη)
  grind
 |k::r,g,h,N,hl,hN,hk=>by
  obtain⟨N,rfl⟩:∃m,N=m+1:=⟨N-1,by rw[List.length_cons] at hN;omega⟩
  have hl:ab (evalL g x+evalL k x)≤Q*ab (evalL h x)∧E4 Q κ x (h::k::r):=hl
  obtain⟨h1,h2⟩:=hl
  have U4:0<(Q+1)*η:=Rat.mul_pos (by grind) hη
  rcases E4.max hQ U4 r h k N h2 (by rw[List.length_cons] at hN;omega) (by rw[Rat.pow_succ] at hk;grind) with e|e
  ·right
   have:=Rat.mul_nonneg hQ (Rat.le_of_lt hη)
   grind
  ·by_cases hh:η≤ab (evalL h x)
   ·exact Or.inr hh
   ·left
    have h3:=lz (evalL g x+evalL k x) (-(evalL g x))
    rw[Dl,show evalL g x+evalL k x + -(evalL g x)=evalL k x from by grind] at h3
    have h4:=Rat.mul_le_mul_of_nonneg_left (show ab (evalL h x)≤η by grind) hQ
    grind
def Oj(ε u v:Rat)(g:List Rat)(s:Int):Prop:=∀x,u≤x→x≤v→sg (evalL g x)=s∧ε≤ab (evalL g x)
def Small(ε u v:Rat)(g:List Rat):Prop:=∀x,u≤x→x≤v→ab (evalL g x)<2*ε
theorem bK{x u v R:Rat}(h1:u≤x)(h2:x≤v)(hu:ab u≤R)(hv:ab v≤R):ab x≤R:=by
 have a:=ju u
 have b:=qW v
 exact E3 (by grind) (by grind)
theorem lA{R L ε u v:Rat}(g:List Rat)(hu:ab u≤R)(hv:ab v≤R)(lL:u≤v)(hL:lip g R≤L)(hε:0<ε)(hd:L*(v-u)≤ε):(∃s,(s=1∨s = -1)∧Oj ε u v g s)∨Small ε u v g:=by
 have var:∀x y,u≤x→x≤v→u≤y→y≤v→ab (evalL g x-evalL g y)≤ε:=by
  intro x y h1 h2 h3 h4
  have d:=oO (bK h1 h2 hu hv) (bK h3 h4 hu hv) g
  have hR:=Rat.le_trans (bz u) hu
  have wP:ab (x-y)≤v-u:=E3 (by grind) (by grind)
  have:=cO hL wP (cI hR g) (by grind)
  grind
 by_cases hs:∃x,u≤x∧x≤v∧ab (evalL g x)<ε
 ·right
  obtain⟨x,h1,h2,h3⟩:=hs
  intro y h4 h5
  have:=var y x h4 h5 h1 h2
  have:=lz (evalL g y-evalL g x) (evalL g x)
  rw[show evalL g y-evalL g x+evalL g x=evalL g y from by grind] at this
  grind
 ·left
  have hb:∀x,u≤x→x≤v→ε≤ab (evalL g x):=fun x h1 h2=>by
   refine Rat.not_lt.1 fun h=>hs ⟨x,h1,h2,h⟩
  have h0:=hb u Rat.le_refl lL
  rcases bI (evalL g u) with ⟨k1,k2⟩|⟨k1,k2⟩|⟨k1,k2⟩
  ·refine⟨-1,Or.inr rfl,fun x h1 h2=>⟨?_,hb x h1 h2⟩⟩
   have v1:=var x u h1 h2 Rat.le_refl lL
   have v2:=hb x h1 h2
   have v3:=qW (evalL g x-evalL g u)
   rcases a7 (evalL g u) with c|c
   ·grind
   ·rcases bI (evalL g x) with ⟨m1,m2⟩|⟨m1,m2⟩|⟨m1,m2⟩
    ·exact m2
    ·rw[m1,oN] at v2;grind
    ·rcases a7 (evalL g x) with c2|c2<;>grind
  ·rw[k1,oN] at h0;grind
  ·refine⟨1,Or.inl rfl,fun x h1 h2=>⟨?_,hb x h1 h2⟩⟩
   have v1:=var u x Rat.le_refl lL h1 h2
   have v2:=hb x h1 h2
   have v3:=qW (evalL g u-evalL g x)
   rcases a7 (evalL g u) with c|c
   ·rcases bI (evalL g x) with ⟨m1,m2⟩|⟨m1,m2⟩|⟨m1,m2⟩
    ·rcases a7 (evalL g x) with c2|c2<;>grind
    ·rw[m1,oN] at v2;grind
    ·exact m2
   ·grind
theorem jW(x:Rat):sg x=0∨sg x=1∨sg x = -1:=by rcases bI x with h|h|h<;>simp[h.2]
theorem PM{a b η:Rat}{s:Int}(ha:η≤ab a)(hs:sg a=s)(h:ab (a+b)<η):sg b = -s:=by
 have h1:=qW (a+b)
 have h2:=ju (a+b)
 rcases bI a with ⟨k1,k2⟩|⟨k1,k2⟩|⟨k1,k2⟩<;>rcases bI b with ⟨m1,m2⟩|⟨m1,m2⟩|⟨m1,m2⟩<;>rcases a7 a with c|c<;>first|(subst hs;simp[k2,m2];done)|(exfalso;grind)
theorem Dm{R L Q κ η ε u v:Rat}(hu:ab u≤R)(hv:ab v≤R)(lL:u≤v)(hQ:0≤Q)(hη:0<η)(hε:0<ε)(K5:2*ε≤η)(K6:Q*(2*ε)<η)(hd:L*(v-u)≤ε){N:Nat}(hN:(Q+1)^N*η≤κ) :
  ∀(n:Nat) (r:List (List Rat)) (g:List Rat) (s:Int),r.length≤n→n≤N→(∀h∈r,lip h R≤L)→(s=1∨s = -1)→Oj ε u v g s→(∀x,u≤x→x≤v→E4 Q κ x (g::r))→Nj s (r.map (fun h=>(sg (evalL h u),sg (evalL h v))))
 |n,[],g,s,_,_,_,_,_,_ => .nil s
 |0,h::r,g,s,hn,_,_,_,_,_=>by simp at hn
 |n+1,h::r,g,s,hn,hnN,E5,hs,hg,hl=>by
  rw[List.length_cons] at hn
  have PN:∀x,u≤x→x≤v→E4 Q κ x (h::r):=fun x h1 h2=>by
   have:=hl x h1 h2
   cases r with
   |nil=>exact this
   |cons k r=>exact this.2
  have Iu:∀x,u≤x→x≤v→η≤ab (evalL g x)∨η≤ab (evalL h x):=fun x h1 h2=>E4.max hQ hη r g h N (hl x h1 h2) (by omega) hN
  rw[List.map_cons]
  rcases lA h hu hv lL (E5 h (List.mem_cons_self ..)) hε hd with ⟨t,ht,hb⟩|Eg
  ·rw[(hb u Rat.le_refl lL).1,(hb v lL Rat.le_refl).1]
   exact .same ht (Dm hu hv lL hQ hη hε K5 K6 hd hN n r h t (by omega) (by omega) (fun k hk=>E5 k (List.mem_cons_of_mem _ hk)) ht hb PN)
  ·cases r with
   |nil =>
    exfalso
    have h1:κ≤ab (evalL h u):=hl u Rat.le_refl lL
    have h2:=Eg u Rat.le_refl lL
    have key:∀n:Nat,1≤(Q+1)^n:=by
     intro n
     induction n with
     |zero=>rw[Rat.pow_zero];exact Rat.le_refl
     |succ n ih =>
      rw[Rat.pow_succ]
      have:=Rat.mul_nonneg (show 0≤(Q+1)^n by grind) hQ
      grind
    have:=Rat.mul_le_mul_of_nonneg_right (key N) (Rat.le_of_lt hη)
    grind
   |cons k r =>
    rw[List.length_cons] at hn
    obtain⟨m,rfl⟩:∃m,n=m+1:=⟨n-1,by omega⟩
    have hk:Oj ε u v k (-s):=by
     intro x h1 h2
     obtain⟨e1,e2⟩:=hg x h1 h2
     have e3:=Eg x h1 h2
     have e4:η≤ab (evalL g x):=by rcases Iu x h1 h2 with e|e;exact e;grind
     have e5:ab (evalL g x+evalL k x)≤Q*ab (evalL h x):=(hl x h1 h2).1
     have e6:=Rat.mul_le_mul_of_nonneg_left (Rat.le_of_lt e3) hQ
     have e7:η≤ab (evalL h x)∨η≤ab (evalL k x):=E4.max hQ hη r h k N (PN x h1 h2) (by omega) hN
     refine⟨PM e4 e1 (by grind),?_⟩
     rcases e7 with e|e<;>grind
    rw[List.map_cons,(hk u Rat.le_refl lL).1,(hk v lL Rat.le_refl).1]
    refine .j6 hs (jW _) (jW _) (Dm hu hv lL hQ hη hε K5 K6 hd hN m r k (-s) (by omega) (by omega) (fun k' It=>E5 k' (List.mem_cons_of_mem _ (List.mem_cons_of_mem _ It))) (by omega) hk ?_)
    intro x h1 h2
    have:=PN x h1 h2
    cases r with
    |nil=>exact this
    |cons k' r=>exact this.2
end Go.Proofs.YtllmkadmohkbfaaGreatDoor.Sym
namespace Go.Proofs.YtllmkadmohkbfaaGreatDoor.Sym
open Go Path bN
set_option linter.unusedVariables false
def chainF:Nat→List Rat→List Rat→List (List Rat)
 |0,p,_=>[p]
 |n+1,p,d=>bif Nat.beq d.length 0 then [p] else p::chainF n d (aJ (a6 (-1) (bm p d)))
def bL(p:List Rat):List (List Rat):=chainF (bx p).length (bx p) (ak (bx p))
theorem hX(n:Nat)(p:List Rat):chainF n p []=[p]:=by cases n<;>rfl
theorem fk{n:Nat}{p d:List Rat}(h:d≠[]):chainF (n+1) p d=p::chainF n d (aJ (a6 (-1) (bm p d))):=by
 rw[chainF,eR.2 (fun e=>h (List.eq_nil_of_length_eq_zero e)),cond_false]
theorem rU(n:Nat)(p d:List Rat):∃r,chainF n p d=p::r:=by
 cases n with
 |zero=>exact⟨[],rfl⟩
 |succ n =>
  rw[chainF]
  cases Nat.beq d.length 0 with
  |true=>exact⟨[],rfl⟩
  |false=>exact⟨_,rfl⟩
theorem uv:∀(n:Nat) (p d:List Rat),(chainF n p d).length≤n+1
 |0,p,d=>by simp[chainF]
 |n+1,p,d=>by
  rw[chainF]
  cases Nat.beq d.length 0 with
  |true=>simp
  |false=>rw[cond_false,List.length_cons];have:=uv n d (aJ (a6 (-1) (bm p d)));omega
theorem E4.mono{Q Q' κ κ' x:Rat}(hQ:Q≤Q')(hκ:κ'≤κ):∀(G:List (List Rat)),E4 Q κ x G→E4 Q' κ' x G
 |[],h=>h
 |[g],h=>Rat.le_trans hκ h
 |[g,k],h=>Rat.le_trans hκ h
 |g::h::k::r,hl=>⟨Rat.le_trans hl.1 (Rat.mul_le_mul_of_nonneg_right hQ (bz _)),E4.mono hQ hκ (h::k::r) hl.2⟩
theorem l8{p d:List Rat}(hd:aK d=false)(h0:d≠[])(x:Rat):evalL p x+evalL (aJ (a6 (-1) (bm p d))) x=evalL (cJ p d).1 x*evalL d x:=by
 have h:evalL (cJ p d).1 x*evalL d x+evalL (bm p d) x=evalL p x:=(fN p hd h0).2 x
 rw[bE,aT];grind
theorem fZ{p d:List Rat}(hd:aK d=false)(h0:d≠[]):(aJ (a6 (-1) (bm p d))).length<d.length:=by
 have h:=(fN p hd h0).1
 have h1:=fM (a6 (-1) (bm p d))
 rw[iz] at h1
 have:(bm p d).length<d.length:=h
 omega
theorem Ap{p d:List Rat}(hd:aK d=false)(h0:d≠[])(h:n8 p d):n8 d (aJ (a6 (-1) (bm p d))):=by
 obtain⟨u,v,e⟩:=h
 refine⟨cM (mulL u (cJ p d).1) v,a6 (-1) u,fun x => ?_⟩
 have h1:=e x
 have h2:=l8 (p:=p) hd h0 x
 have h3:evalL p x=evalL (cJ p d).1 x*evalL d x-evalL (aJ (a6 (-1) (bm p d))) x:=by grind
 rw[br,aF,aT]
 rw[h3] at h1
 grind
theorem Aq{p d:List Rat}(hd:aK d=false)(h0:d≠[])(h:n8 p d)(hr:aJ (a6 (-1) (bm p d))=[]):∃c,d=[c]∧c≠0:=by
 obtain⟨u,v,e⟩:=h
 have K0:Dv d [1]:=⟨cM (mulL u (cJ p d).1) v,fun x=>by
  have h1:=e x
  have h2:=l8 (p:=p) hd h0 x
  rw[hr] at h2
  have h2:evalL p x+0=evalL (cJ p d).1 x*evalL d x:=h2
  rw[dp,br,aF]
  have h3:evalL p x=evalL (cJ p d).1 x*evalL d x:=by grind
  rw[h3] at h1
  grind⟩
 obtain⟨g1,g2⟩:=K0.len hd rfl (by simp)
 have g2:d.length≤1:=g2
 match d,g1,g2 with
 |[c],g1,_=>exact⟨c,rfl,cz hd g1⟩
theorem Ar{R:Rat}(hR:0≤R):∀(n:Nat) (p d:List Rat),aK p=false→aK d=false→d≠[]→n8 p d→d.length<n+1→∃Q κ,0≤Q∧0<κ∧∀x,ab x≤R→E4 Q κ x (chainF n p d)
 |0,p,d,_,_,h0,_,hl=>absurd (List.eq_nil_of_length_eq_zero (by omega)) h0
 |n+1,p,d,hp,hd,h0,hc,hl=>by
  rw[fk h0]
  by_cases hr:aJ (a6 (-1) (bm p d))=[]
  ·obtain⟨c,rfl,yl⟩:=Aq hd h0 hc hr
   rw[hr,hX]
   refine⟨0,ab c,Rat.le_refl,uu yl,fun x _ => ?_⟩
   show ab c≤ab (evalL [c] x)
   rw[dp];exact Rat.le_refl
  ·have YY:=fZ (p:=p) hd h0
   obtain⟨Q,κ,h1,h2,h3⟩:=Ar hR n d (aJ (a6 (-1) (bm p d))) hd (bg _) hr (Ap hd h0 hc) (by omega)
   have hn:=jb hR (cJ p d).1
   refine⟨Q+nrm (cJ p d).1 R,κ,by grind,h2,fun x hx => ?_⟩
   have h4:=(h3 x hx).mono (show Q≤Q+nrm (cJ p d).1 R by grind) (Rat.le_refl (a:=κ))
   obtain⟨m,rfl⟩:∃m,n=m+1:=⟨n-1,by
    have:=List.length_pos_iff.2 hr
    omega⟩
   rw[fk hr] at h4 ⊢
   obtain⟨r,e⟩:=rU m (aJ (a6 (-1) (bm p d))) (aJ (a6 (-1) (bm d (aJ (a6 (-1) (bm p d))))))
   rw[e] at h4 ⊢
   refine⟨?_,h4⟩
   rw[l8 hd h0,gh]
   have h5:=j8 hx (cJ p d).1
   exact Rat.mul_le_mul_of_nonneg_right (by grind) (bz _)
def lipA(R:Rat):List (List Rat)→Rat
 |[]=>0
 |g::r=>lip g R+lipA R r
theorem rW{R:Rat}(hR:0≤R):∀G,0≤lipA R G
 |[]=>Rat.le_refl
 |g::r=>by
  have h1:=cI hR g
  have h2:=rW hR r
  rw[lipA];grind
theorem K7{R:Rat}(hR:0≤R):∀(G:List (List Rat)) (g:List Rat),g∈G→lip g R≤lipA R G
 |[],g,h=>by cases h
 |a::r,g,h=>by
  have h1:=cI hR a
  have h2:=rW hR r
  rw[lipA]
  rcases List.mem_cons.1 h with e|h
  ·rw[e];grind
  ·have:=K7 hR r g h
   grind
def Loc(f:List Rat)(G:List (List Rat))(ε u v:Rat):Prop :=
 ((∃s,(s=1∨s = -1)∧Oj ε u v f s)∧fK G u=fK G v) ∨
 (∃s:Int,(s=1∨s = -1)∧(∀x y,u≤x→x<y→y≤v→0<(s:Rat)*(evalL f y-evalL f x))∧fK G u+(if sg (evalL f v) = -s then 1 else 0)=fK G v+(if sg (evalL f u) = -s then 1 else 0))
theorem HO{R ε δ u v:Rat}{f:List Rat}{s:Int}(hu:ab u≤R)(hv:ab v≤R)(hs:s=1∨s = -1)(hb:Oj ε u v (ak f) s)(hε:0<ε)(hd:sec f R*(v-u)<ε):∀x y,u≤x→x<y→y≤v→0<(s:Rat)*(evalL f y-evalL f x):=by
 intro x y h1 h2 h3
 have hx:=bK (x:=x) h1 (by grind) hu hv
 have hy:=bK (x:=y) (by grind) h3 hu hv
 have hR:=Rat.le_trans (bz u) hu
 have t:=GH x y f
 have ht:=GI hx hy f
 obtain⟨b1,b2⟩:=hb x h1 (by grind)
 rw[cr] at b1 b2
 have hw:ab ((y-x)*HM x y f)<ε:=by
  rw[gh]
  have e:ab (y-x)=y-x:=by rcases a7 (y-x) with h|h<;>grind
  rw[e]
  have h4:=cO (show y-x≤v-u by grind) ht (by grind) (l0 hR f)
  grind
 have e:evalL f y-evalL f x=(y-x)*(dEv f x+(y-x)*HM x y f):=by rw[t];grind
 rw[e]
 have w1:=qW ((y-x)*HM x y f)
 have w2:=ju ((y-x)*HM x y f)
 have Sa:0<(s:Rat)*(dEv f x+(y-x)*HM x y f):=by
  rcases hs with rfl|rfl
  ·rcases bI (dEv f x) with ⟨k1,k2⟩|⟨k1,k2⟩|⟨k1,k2⟩
   ·rw[k2] at b1;cases b1
   ·rw[k2] at b1;cases b1
   ·have:(((1:Int):Rat))=1:=rfl
    rw[this,Rat.one_mul]
    rcases a7 (dEv f x) with c|c<;>grind
  ·rcases bI (dEv f x) with ⟨k1,k2⟩|⟨k1,k2⟩|⟨k1,k2⟩
   ·have:(((-1:Int):Rat)) = -1:=rfl
    rw[this]
    rcases a7 (dEv f x) with c|c<;>grind
   ·rw[k2] at b1;cases b1
   ·rw[k2] at b1;cases b1
 have:=Rat.mul_pos (show 0<y-x by grind) Sa
 grind
theorem PO{ε u v:Rat}{f:List Rat}{r:List (List Rat)}{s:Int}(hb:Oj ε u v f s)(lL:u≤v)(hp:Nj s (r.map (fun h=>(sg (evalL h u),sg (evalL h v))))):varS 0 (sg (evalL f u)::r.map (fun g=>sg (evalL g u)))=varS 0 (sg (evalL f v)::r.map (fun g=>sg (evalL g v))):=by
 have e:=hp.eq
 rw[List.map_map,List.map_map] at e
 have e:varS s (r.map (fun h=>sg (evalL h u)))=varS s (r.map (fun h=>sg (evalL h v))):=e
 rw[(hb u Rat.le_refl lL).1,(hb v lL Rat.le_refl).1,varS,varS,e]
 split
 ·have e2:s=0:=by assumption
  rw[e2] at e;rw[e]
 ·rfl
theorem K8{s a b:Int}{l m:List Int}(hs:s=1∨s = -1)(ha:a=0∨a=1∨a = -1)(hb:b=0∨b=1∨b = -1)(e:varS s l=varS s m):varS 0 (a::s::l)+(if b = -s then 1 else 0)=varS 0 (b::s::m)+(if a = -s then 1 else 0):=by
 rcases hs with rfl|rfl<;>rcases ha with rfl|rfl|rfl<;>rcases hb with rfl|rfl|rfl<;>simp[varS,e]<;>omega
theorem PR{R Q κ η ε:Rat}{f:List Rat}{n:Nat}(h2:ak f≠[])(hR:0≤R)(hQ:0≤Q)(hη:0<η)(hε:0<ε)(K5:2*ε≤η)(K6:Q*(2*ε)<η)(hN:(Q+1)^(n+1)*η≤κ)
  (hl:∀x,ab x≤R→E4 Q κ x (chainF (n+1) f (ak f))) {u v:Rat} (hu:ab u≤R) (hv:ab v≤R) (lL:u≤v) (sl:lipA R (chainF (n+1) f (ak f))*(v-u)≤ε) (Fz:sec f R*(v-u)<ε):Loc f (chainF (n+1) f (ak f)) ε u v:=by
 have hlen:=uv n (ak f) (aJ (a6 (-1) (bm f (ak f))))
 rw[fk h2] at hl sl ⊢
 obtain⟨r,e⟩:=rU n (ak f) (aJ (a6 (-1) (bm f (ak f))))
 rw[e] at hl sl hlen ⊢
 rw[List.length_cons] at hlen
 have E5:=K7 hR (f::ak f::r)
 have Mu:∀x,u≤x→x≤v→E4 Q κ x (f::ak f::r):=fun x h1 h2=>hl x (bK h1 h2 hu hv)
 rcases lA f hu hv lL (E5 f (List.mem_cons_self ..)) hε sl with ⟨s,hs,hb⟩|Eg
 ·left
  refine⟨⟨s,hs,hb⟩,?_⟩
  have:=Dm hu hv lL hQ hη hε K5 K6 sl hN (n+1) (ak f::r) f s (by rw[List.length_cons];omega) (Nat.le_refl _) (fun h hh=>E5 h (List.mem_cons_of_mem _ hh)) hs hb Mu
  exact PO hb lL this
 ·right
  rcases lA (ak f) hu hv lL (E5 (ak f) (List.mem_cons_of_mem _ (List.mem_cons_self ..))) hε sl with ⟨s,hs,hb⟩|PS
  ·refine⟨s,hs,HO (δ:=0) hu hv hs hb hε Fz,?_⟩
   have hp:=Dm hu hv lL hQ hη hε K5 K6 sl hN (n+1) r (ak f) s (by omega) (Nat.le_refl _) (fun h hh=>E5 h (List.mem_cons_of_mem _ (List.mem_cons_of_mem _ hh))) hs hb (fun x h1 h2=>by
    have:=Mu x h1 h2
    cases r with
    |nil=>exact this
    |cons k r=>exact this.2)
   have e1:=hp.eq
   rw[List.map_map,List.map_map] at e1
   have e1:varS s (r.map (fun h=>sg (evalL h u)))=varS s (r.map (fun h=>sg (evalL h v))):=e1
   show varS 0 (sg (evalL f u)::sg (evalL (ak f) u)::r.map (fun g=>sg (evalL g u)))+_=varS 0 (sg (evalL f v)::sg (evalL (ak f) v)::r.map (fun g=>sg (evalL g v)))+_
   rw[(hb u Rat.le_refl lL).1,(hb v lL Rat.le_refl).1]
   exact K8 hs (jW _) (jW _) e1
  ·exfalso
   have h3:=Eg u Rat.le_refl lL
   have h4:=PS u Rat.le_refl lL
   rcases E4.max hQ hη r f (ak f) (n+1) (Mu u Rat.le_refl lL) (by omega) hN with h|h<;>grind
theorem E6{a:Rat}(h:0<a):∀n:Nat,0<a^n
 |0=>by rw[Rat.pow_zero];decide
 |n+1=>by rw[Rat.pow_succ];exact Rat.mul_pos (E6 h n) h
theorem ir{a b:Rat}(ha:0<a)(hb:0<b):0<a/b:=by
 refine Rat.not_le.1 fun h => ?_
 have h1:=Rat.mul_nonneg (show 0 ≤ -(a/b) by grind) (Rat.le_of_lt hb)
 have h2:=Rat.div_mul_cancel (a:=a) (b:=b) (by grind)
 grind
theorem qG{f:List Rat}{R:Rat}(hz:aK f=false)(h2:ak f≠[])(hf:f≠[])(hc:n8 f (ak f))(hR:0≤R):∃δ ε,0<δ∧0<ε∧∀u v,ab u≤R→ab v≤R→u≤v→v-u≤δ→Loc f (chainF f.length f (ak f)) ε u v:=by
 have bh:=ja hf
 obtain⟨n,hn⟩:∃n,f.length=n+1:=⟨f.length-1,by have:=List.length_pos_iff.2 hf;omega⟩
 rw[hn]
 obtain⟨Q,κ,hQ,hκ,hl⟩:=Ar hR (n+1) f (ak f) hz (ba f) h2 hc (by omega)
 have hp:=E6 (show 0<Q+1 by grind) (n+1)
 have hη:=ir hκ hp
 have U5:=Rat.div_mul_cancel (a:=κ) (b:=(Q+1)^(n+1)) (by grind)
 generalize κ/(Q+1)^(n+1)=η at hη U5
 have hε:=ir hη (show 0<2*(Q+2) by grind)
 have Nk:=Rat.div_mul_cancel (a:=η) (b:=2*(Q+2)) (by grind)
 generalize η/(2*(Q+2))=ε at hε Nk
 have WE:=Rat.mul_nonneg hQ (Rat.le_of_lt hε)
 have hL:=rW hR (chainF (n+1) f (ak f))
 have hS:=l0 hR f
 have hδ:=ir hε (show 0<lipA R (chainF (n+1) f (ak f))+sec f R+1 by grind)
 have K9:=Rat.div_mul_cancel (a:=ε) (b:=lipA R (chainF (n+1) f (ak f))+sec f R+1) (by grind)
 generalize ε/(lipA R (chainF (n+1) f (ak f))+sec f R+1)=δ at hδ K9
 refine⟨δ,ε,hδ,hε,fun u v hu hv lL hw => ?_⟩
 have w1:=Rat.mul_le_mul_of_nonneg_left hw hL
 have w2:=Rat.mul_le_mul_of_nonneg_left hw hS
 have w3:=Rat.mul_nonneg hL (Rat.le_of_lt hδ)
 have w4:=Rat.mul_nonneg hS (Rat.le_of_lt hδ)
 exact PR h2 hR hQ hη hε (by grind) (by grind) (by grind) hl hu hv lL (by grind) (by grind)
theorem wQ{P:Rat→Rat→Prop}{a b δ:Rat}(hδ:0<δ)(dm:a≤b)(hs:∀u v,a≤u→u≤v→v≤b→v-u≤δ→P u v)(ht:∀u v w,a≤u→u≤v→v≤w→w≤b→P u v→P v w→P u w):P a b:=by
 have key:∀(n:Nat) (c:Rat),a≤c→c≤b→c-a≤((n:Int):Rat)*δ→P a c:=by
  intro n
  induction n with
  |zero =>
   intro c h1 h2 h3
   have:(((0:Nat):Int):Rat)=0:=rfl
   rw[this,Rat.zero_mul] at h3
   exact hs a c Rat.le_refl h1 h2 (by grind)
  |succ n ih =>
   intro c h1 h2 h3
   have e:(((n+1:Nat):Int):Rat)=((n:Int):Rat)+1:=by simp
   rw[e] at h3
   by_cases h:c-δ≤a
   ·exact hs a c Rat.le_refl h1 h2 (by grind)
   ·have:=ih (c-δ) (by grind) (by grind) (by grind)
    exact ht a (c-δ) c Rat.le_refl (by grind) (by grind) h2 this (hs (c-δ) c (by grind) (by grind) h2 (by grind))
 have hx:=Rat.lt_floor_add_one ((b-a)/δ)
 have he:=Rat.div_mul_cancel (a:=b-a) (b:=δ) (by grind)
 have DM:0≤((b-a)/δ).floor:=by
  refine Rat.le_floor_iff.2 ?_
  show(0:Rat)≤_
  refine Rat.not_lt.1 fun h => ?_
  have:=Rat.mul_pos (show 0 < -((b-a)/δ) by grind) hδ
  grind
 obtain⟨n,hn⟩:∃n:Nat,((b-a)/δ).floor+1=(n:Int):=⟨(((b-a)/δ).floor+1).toNat,by omega⟩
 rw[hn] at hx
 refine key n b dm Rat.le_refl ?_
 have:=Rat.mul_le_mul_of_nonneg_right (Rat.le_of_lt hx) (Rat.le_of_lt hδ)
 grind
end Go.Proofs.YtllmkadmohkbfaaGreatDoor.Sym
namespace Go.Proofs.YtllmkadmohkbfaaGreatDoor.Sym
open Go Path bN
set_option linter.unusedVariables false
def Pos(p:List Rat)(lo hi:Rat):Prop:=∃c,0<c∧∀x,lo≤x→x≤hi→c≤evalL p x
def lH(p:List Rat)(lo hi:Rat):Prop:=∃c,0<c∧∀x,lo≤x→x≤hi→c≤ab (evalL p x)
theorem lH.join{p:List Rat}{a b c:Rat}(h:lH p a b)(k:lH p b c):lH p a c:=by
 obtain⟨x,x1,x2⟩:=h
 obtain⟨y,y1,y2⟩:=k
 refine⟨Bi x y,?_,fun z z1 z2 => ?_⟩
 ·unfold Bi;split<;>assumption
 ·by_cases hz:z≤b
  ·exact Rat.le_trans (wM x y) (x2 z z1 hz)
  ·exact Rat.le_trans (wN x y) (y2 z (by grind) z2)
theorem lH.ne{p:List Rat}{a b x:Rat}(h:lH p a b)(h1:a≤x)(h2:x≤b):evalL p x≠0:=by
 obtain⟨c,c1,c2⟩:=h
 intro e
 have:=c2 x h1 h2
 rw[e,oN] at this
 grind
theorem lH.sub{p:List Rat}{a b u v:Rat}(h:lH p a b)(h1:a≤u)(h2:v≤b):lH p u v:=by
 obtain⟨c,c1,c2⟩:=h
 exact⟨c,c1,fun x x1 x2=>c2 x (Rat.le_trans h1 x1) (Rat.le_trans x2 h2)⟩
theorem Loc.Sb{f:List Rat}{G:List (List Rat)}{ε u v:Rat}(h:Loc f G ε u v)(lL:u≤v):fK G v≤fK G u:=by
 rcases h with ⟨_,e⟩|⟨s,hs,hm,e⟩
 ·rw[e];exact Int.le_refl _
 ·by_cases hv:sg (evalL f v) = -s
  ·by_cases hu:sg (evalL f u) = -s
   ·rw[if_pos hv,if_pos hu] at e;omega
   ·exfalso
    by_cases he:u=v
    ·rw[he] at hu;exact hu hv
    ·have:=hm u v Rat.le_refl (by grind) Rat.le_refl
     rcases hs with rfl|rfl
     ·have e1:(((1:Int):Rat))=1:=rfl
      rw[e1] at this
      rcases bI (evalL f u) with ⟨k1,k2⟩|⟨k1,k2⟩|⟨k1,k2⟩<;>rcases bI (evalL f v) with ⟨m1,m2⟩|⟨m1,m2⟩|⟨m1,m2⟩<;>first|(exfalso;grind)|(exact hu k2)|(rw [m2] at hv;cases hv)
     ·have e1:(((-1:Int):Rat)) = -1:=rfl
      rw[e1] at this
      rcases bI (evalL f u) with ⟨k1,k2⟩|⟨k1,k2⟩|⟨k1,k2⟩<;>rcases bI (evalL f v) with ⟨m1,m2⟩|⟨m1,m2⟩|⟨m1,m2⟩<;>first|(exfalso;grind)|(exact hu k2)|(rw [m2] at hv;cases hv)
  ·rw[if_neg hv] at e
   split at e<;>omega
theorem Loc.U6{f:List Rat}{G:List (List Rat)}{ε u v:Rat}(h:Loc f G ε u v)(hε:0<ε)(lL:u≤v)(hc:fK G u=fK G v)(h0:evalL f u≠0):evalL f v≠0∧lH f u v:=by
 rcases h with ⟨⟨s,hs,hb⟩,_⟩|⟨s,hs,hm,e⟩
 ·have ha:lH f u v:=⟨ε,hε,fun x x1 x2=>(hb x x1 x2).2⟩
  exact⟨ha.ne lL Rat.le_refl,ha⟩
 ·rw[hc] at e
  have e:(sg (evalL f v) = -s↔sg (evalL f u) = -s):=by
   constructor
   ·intro h
    rw[if_pos h] at e
    refine Classical.byContradiction fun k => ?_
    rw[if_neg k] at e;omega
   ·intro h
    rw[if_pos h] at e
    refine Classical.byContradiction fun k => ?_
    rw[if_neg k] at e;omega
  have s1:(((1:Int):Rat))=1:=rfl
  have s2:(((-1:Int):Rat)) = -1:=rfl
  have WG:∀x y,u≤x→x≤y→y≤v→0≤(s:Rat)*(evalL f y-evalL f x):=by
   intro x y h1 h2 h3
   by_cases wP:x=y
   ·rw[wP];grind
   ·exact Rat.le_of_lt (hm x y h1 (by grind) h3)
  have ha:lH f u v:=by
   by_cases rP:sg (evalL f u) = -s
   ·
    have Bf:=e.2 rP
    refine⟨ab (evalL f v),uu ?_,fun x x1 x2 => ?_⟩
    ·intro h
     rw[h] at Bf
     rcases hs with rfl|rfl
     ·cases Bf
     ·cases Bf
    ·have:=WG x v x1 x2 Rat.le_refl
     rcases hs with rfl|rfl
     ·rw[s1] at this
      rcases bI (evalL f v) with ⟨m1,m2⟩|⟨m1,m2⟩|⟨m1,m2⟩
      ·rcases a7 (evalL f v) with c|c<;>rcases a7 (evalL f x) with d|d<;>grind
      ·rw[m2] at Bf;cases Bf
      ·rw[m2] at Bf;cases Bf
     ·rw[s2] at this
      rcases bI (evalL f v) with ⟨m1,m2⟩|⟨m1,m2⟩|⟨m1,m2⟩
      ·rw[m2] at Bf;cases Bf
      ·rw[m2] at Bf;cases Bf
      ·rcases a7 (evalL f v) with c|c<;>rcases a7 (evalL f x) with d|d<;>grind
   ·refine⟨ab (evalL f u),uu h0,fun x x1 x2 => ?_⟩
    have:=WG u x Rat.le_refl x1 x2
    rcases hs with rfl|rfl
    ·rw[s1] at this
     rcases bI (evalL f u) with ⟨m1,m2⟩|⟨m1,m2⟩|⟨m1,m2⟩
     ·exact absurd m2 rP
     ·exact absurd m1 h0
     ·rcases a7 (evalL f u) with c|c<;>rcases a7 (evalL f x) with d|d<;>grind
    ·rw[s2] at this
     rcases bI (evalL f u) with ⟨m1,m2⟩|⟨m1,m2⟩|⟨m1,m2⟩
     ·rcases a7 (evalL f u) with c|c<;>rcases a7 (evalL f x) with d|d<;>grind
     ·exact absurd m1 h0
     ·exact absurd m2 rP
  exact⟨ha.ne lL Rat.le_refl,ha⟩
theorem Loc.aH{f:List Rat}{G:List (List Rat)}{ε u v c R:Rat}(h:Loc f G ε u v)(lL:u≤v)(hu:ab u≤R)(hv:ab v≤R)(hc:0<c)(ha:∀x,u≤x→x≤v→c≤ab (evalL f x))(hd:lip f R*(v-u)<c):fK G u=fK G v:=by
 rcases h with ⟨_,e⟩|⟨s,hs,hm,e⟩
 ·exact e
 ·have d:=oO hv hu f
  have e1:ab (v-u)=v-u:=by rcases a7 (v-u) with h|h<;>grind
  rw[e1] at d
  have d1:=qW (evalL f v-evalL f u)
  have d2:=ju (evalL f v-evalL f u)
  have a1:=ha u Rat.le_refl lL
  have a2:=ha v lL Rat.le_refl
  have es:sg (evalL f u)=sg (evalL f v):=by
   rcases bI (evalL f u) with ⟨k1,k2⟩|⟨k1,k2⟩|⟨k1,k2⟩<;>rcases bI (evalL f v) with ⟨m1,m2⟩|⟨m1,m2⟩|⟨m1,m2⟩<;>rcases a7 (evalL f u) with c1|c1<;>rcases a7 (evalL f v) with c2|c2<;>first|(exfalso;grind)|(rw [k2,m2];done)
  rw[es] at e
  omega
section
variable {f:List Rat} {R:Rat}
theorem oP{a b:Rat} : ∃R,0≤R∧ab a≤R∧ab b≤R:=by
 refine⟨ab a+ab b,?_,?_,?_⟩
 ·have:=bz a;have:=bz b;grind
 ·have:=bz b;grind
 ·have:=bz a;grind
theorem gM(h:ak f=[])(x:Rat):fK (chainF f.length f (ak f)) x=0:=by
 rw[h,hX]
 show varS 0 [sg (evalL f x)]=0
 rcases jW (evalL f x) with e|e|e<;>rw[e]<;>rfl
theorem qH(hz:aK f=false)(hf:f≠[])(h:ak f=[]):∃c,f=[c]∧c≠0:=by
 match f,hf with
 |[c],_=>exact⟨c,rfl,cz hz (by simp)⟩
 |a::b::r,_ =>
  exfalso
  have key:∀i,coef (fE 1 ((a::b::r).drop 1)) i=0:=by
   intro i
   have e2:aJ (fE 1 ((a::b::r).drop 1))=[]:=h
   rw[←dc,e2,jU]
  have AV:∀(q:List Rat) (i j:Nat),coef (fE i q) j=((i+j:Nat):Int)*coef q j:=by
   intro q
   induction q with
   |nil=>intro i j;show(0:Rat)=_*0;rw[Rat.mul_zero]
   |cons a q ih =>
    intro i j
    cases j with
    |zero=>rfl
    |succ j=>rw[fE,eC,eC,ih (i+1) j,show i+1+j=i+(j+1) from by omega]
  have hk:=key r.length
  rw[AV] at hk
  have ht:=cz hz (by simp)
  have e:bS (a::b::r)=coef ((a::b::r).drop 1) r.length:=by
   unfold bS
   rw[show (a::b::r).length-1=r.length+1 from by simp];rfl
  rw[←e] at hk
  rcases Rat.mul_eq_zero.1 hk with h|h
  ·have:=Rat.intCast_inj.1 (show (((1+r.length:Nat):Int):Rat)=((0:Int):Rat) from h)
   omega
  ·exact ht h
theorem mz(hz:aK f=false)(hf:f≠[])(hc:n8 f (ak f)){a b:Rat}(dm:a≤b):fK (chainF f.length f (ak f)) b≤fK (chainF f.length f (ak f)) a:=by
 by_cases h2:ak f=[]
 ·rw[gM h2,gM h2];exact Int.le_refl _
 ·obtain⟨R,hR,ha,hb⟩:=oP (a:=a) (b:=b)
  obtain⟨δ,ε,hδ,hε,hl⟩:=qG hz h2 hf hc hR
  exact wQ (P:=fun u v=>fK (chainF f.length f (ak f)) v≤fK (chainF f.length f (ak f)) u) hδ dm
   (fun u v h1 h3 h4 h5=>(hl u v (bK h1 (by grind) ha hb) (bK (by grind) h4 ha hb) h3 h5).Sb h3)
   (fun u v w _ _ _ _ h1 h3=>Int.le_trans h3 h1)
theorem pN(hz:aK f=false)(hf:f≠[])(hc:n8 f (ak f)){a b:Rat}(dm:a≤b)(he:fK (chainF f.length f (ak f)) a=fK (chainF f.length f (ak f)) b)(h0:evalL f a≠0):lH f a b:=by
 by_cases h2:ak f=[]
 ·obtain⟨c,rfl,yl⟩:=qH hz hf h2
  exact⟨ab c,uu yl,fun x _ _=>by rw[dp];exact Rat.le_refl⟩
 ·obtain⟨R,hR,ha,hb⟩:=oP (a:=a) (b:=b)
  obtain⟨δ,ε,hδ,hε,hl⟩:=qG hz h2 hf hc hR
  have:=wQ (P:=fun u v=>fK (chainF f.length f (ak f)) v≤fK (chainF f.length f (ak f)) u∧(fK (chainF f.length f (ak f)) u=fK (chainF f.length f (ak f)) v→evalL f u≠0→evalL f v≠0∧lH f u v)) hδ dm
   (fun u v h1 h3 h4 h5=>by
    have:=hl u v (bK h1 (by grind) ha hb) (bK (by grind) h4 ha hb) h3 h5
    exact⟨this.Sb h3,this.U6 hε h3⟩)
   (fun u v w _ _ _ _ h1 h3=>by
    refine⟨Int.le_trans h3.1 h1.1,fun e n => ?_⟩
    have i1:=h1.1
    have i2:=h3.1
    obtain⟨m1,m2⟩:=h1.2 (by omega) n
    obtain⟨m3,m4⟩:=h3.2 (by omega) m1
    exact⟨m3,m2.join m4⟩)
  exact(this.2 he h0).2
theorem vw(hz:aK f=false)(hf:f≠[])(hc:n8 f (ak f)){a b:Rat}(dm:a≤b)(h:lH f a b):fK (chainF f.length f (ak f)) a=fK (chainF f.length f (ak f)) b:=by
 by_cases h2:ak f=[]
 ·rw[gM h2,gM h2]
 ·obtain⟨R,hR,ha,hb⟩:=oP (a:=a) (b:=b)
  obtain⟨δ,ε,hδ,hε,hl⟩:=qG hz h2 hf hc hR
  obtain⟨c,c1,c2⟩:=h
  have hL:=cI hR f
  have U7:=ir c1 (show 0<lip f R+1 by grind)
  have K9:=Rat.div_mul_cancel (a:=c) (b:=lip f R+1) (by grind)
  generalize c/(lip f R+1)=δ2 at U7 K9
  exact wQ (P:=fun u v=>fK (chainF f.length f (ak f)) u=fK (chainF f.length f (ak f)) v) (δ:=Bi δ δ2) (by unfold Bi;split<;>assumption) dm
   (fun u v h1 h3 h4 h5=>by
    have hu:=bK h1 (show u≤b by grind) ha hb
    have hv:=bK (show a≤v by grind) h4 ha hb
    have w1:=Rat.le_trans h5 (wM δ δ2)
    have w2:=Rat.le_trans h5 (wN δ δ2)
    have w3:=Rat.mul_le_mul_of_nonneg_left w2 hL
    exact(hl u v hu hv h3 w1).aH h3 hu hv c1 (fun x x1 x2=>c2 x (Rat.le_trans h1 x1) (Rat.le_trans x2 h4)) (by grind))
   (fun u v w _ _ _ _ h1 h3=>h1.trans h3)
end
theorem As{f:List Rat}{a b:Rat}(h:lH f a b):∀k,lH (fY f k) a b
 |0=>⟨1,by decide,fun x _ _=>by rw[fY,dp];decide⟩
 |k+1=>by
  obtain⟨c,c1,c2⟩:=As h k
  obtain⟨d,d1,d2⟩:=h
  refine⟨c*d,Rat.mul_pos c1 d1,fun x x1 x2 => ?_⟩
  rw[fY,aF,gh]
  exact cO (c2 x x1 x2) (d2 x x1 x2) (Rat.le_of_lt c1) (bz _)
theorem yw{p q:List Rat}{a b:Rat}(h:lH q a b)(hd:Dv p q):lH p a b:=by
 obtain⟨u,hu⟩:=hd
 obtain⟨c,c1,c2⟩:=h
 obtain⟨R,hR,ha,hb⟩:=oP (a:=a) (b:=b)
 have hn:=jb hR u
 have hδ:=ir c1 (show 0<nrm u R+1 by grind)
 have he:=Rat.div_mul_cancel (a:=c) (b:=nrm u R+1) (by grind)
 generalize c/(nrm u R+1)=d at hδ he
 refine⟨d,hδ,fun x x1 x2 => ?_⟩
 have h1:=c2 x x1 x2
 rw[hu,gh] at h1
 have h2:=j8 (bK x1 x2 ha hb) u
 have h3:=Rat.mul_le_mul_of_nonneg_right h2 (bz (evalL p x))
 have h4:=bz (evalL p x)
 refine Rat.not_lt.1 fun bh => ?_
 have h5:=Rat.mul_le_mul_of_nonneg_left (Rat.le_of_lt bh) hn
 grind
theorem xG{p:List Rat}{a b:Rat}(dm:a≤b)(h:lH p a b)(h0:0<evalL p a):Pos p a b:=by
 obtain⟨c,c1,c2⟩:=h
 obtain⟨R,hR,ha,hb⟩:=oP (a:=a) (b:=b)
 have hL:=cI hR p
 have hδ:=ir c1 (show 0<lip p R+1 by grind)
 have K9:=Rat.div_mul_cancel (a:=c) (b:=lip p R+1) (by grind)
 generalize c/(lip p R+1)=δ at hδ K9
 have key:=wQ (P:=fun u v=>0<evalL p u→∀x,u≤x→x≤v→0<evalL p x) hδ dm
  (fun u v h1 h3 h4 h5 hp x x1 x2=>by
   have hu:=bK h1 (show u≤b by grind) ha hb
   have hx:=bK (show a≤x by grind) (show x≤b by grind) ha hb
   have d:=oO hu hx p
   have e1:ab (u-x)=x-u:=by rcases a7 (u-x) with h|h<;>grind
   rw[e1] at d
   have w:=Rat.mul_le_mul_of_nonneg_left (show x-u≤δ by grind) hL
   have d1:=qW (evalL p u-evalL p x)
   have a1:=c2 u (by grind) (by grind)
   have a2:=c2 x (by grind) (by grind)
   rcases a7 (evalL p u) with k|k<;>rcases a7 (evalL p x) with m|m<;>grind)
  (fun u v w h1 h2 h3 h4 hp hq h5 x x1 x2=>by
   by_cases hx:x≤v
   ·exact hp h5 x x1 hx
   ·exact hq (hp h5 v h2 Rat.le_refl) x (by grind) x2)
 refine⟨c,c1,fun x x1 x2 => ?_⟩
 have h1:=key h0 x x1 x2
 have h2:=c2 x x1 x2
 rcases a7 (evalL p x) with m|m<;>grind
theorem free_spec{p:List Rat}(hz:aK p=false)(h0:p≠[]):aK (bx p)=false∧bx p≠[]∧n8 (bx p) (ak (bx p))∧Dv (bx p) p∧∃k,k≤p.length∧Dv p (fY (bx p) k):=by
 obtain⟨w,s⟩:=R8 hz h0
 have hm:=bT (cJ p (bX p (ak p))).1
 have df:=pM s.zf s.f0
 have d1:=Am s.zf
 have d2:=KY (cJ p (bX p (ak p))).1
 have e:bx p=bP (cJ p (bX p (ak p))).1:=rfl
 rw[e]
 refine⟨hm,df,?_,?_,?_⟩
 ·have hc:=s.free
  obtain⟨u,v,h⟩:=hc
  have ht:=cz s.zf s.f0
  refine⟨a6 (bS (cJ p (bX p (ak p))).1) u,a6 (bS (cJ p (bX p (ak p))).1) v,fun x => ?_⟩
  have h1:=h x
  have hd:∀x,dEv (bP (cJ p (bX p (ak p))).1) x=1/bS (cJ p (bX p (ak p))).1*dEv (cJ p (bX p (ak p))).1 x:=by
   intro x
   rw[nh (q:=a6 (1/bS (cJ p (bX p (ak p))).1) (cJ p (bX p (ak p))).1) (fun x=>by rw[gL,aT]) x,Ao]
  rw[cr] at h1
  rw[aT,aT,gL,cr,hd]
  have h2:=Rat.div_mul_cancel (a:=1) ht
  grind
 ·refine d1.trans ⟨bX p (ak p),fun x=>by rw[s.pe];grind⟩
 ·have yI:=s.all
  have yn:(bX p (ak p)).length+1≤p.length+1:=by
   have:=((j7 p (ak p) hz (ba p)).1.len (eE _ _) hz h0).2
   omega
  have pw:∀k,Dv (fY (cJ p (bX p (ak p))).1 k) (fY (bP (cJ p (bX p (ak p))).1) k):=by
   intro k
   induction k with
   |zero=>exact Dv.refl _
   |succ k ih =>
    obtain⟨a,ha⟩:=ih
    obtain⟨b,hb⟩:=d2
    exact⟨mulL a b,fun x=>by
     show evalL (mulL _ _) x=_*evalL (mulL _ _) x
     rw[aF,aF,aF,ha,hb];grind⟩
  by_cases hd0:ak p=[]
  ·
   obtain⟨c,rfl,yl⟩:=qH hz h0 hd0
   refine⟨0,by simp,[1/c],fun x => ?_⟩
   show evalL [1] x=_
   rw[dp,dp,dp,Rat.div_mul_cancel yl]
  ·have YZ:=((j7 p (ak p) hz (ba p)).2.len (eE _ _) (ba p) hd0).2
   have UE:=ja h0
   exact⟨(bX p (ak p)).length+1,by omega,yI.trans (pw _)⟩
end Go.Proofs.YtllmkadmohkbfaaGreatDoor.Sym
namespace Go.Proofs.YtllmkadmohkbfaaGreatDoor.Sym
open Go Path bN
set_option linter.unusedVariables false
def rX:Int→List Int→Int
 |s,[]=>s
 |s,a::r=>if a=0 then rX s r else rX a r
theorem wR:∀(l:List Int) (s:Int),(s=1∨s = -1)→(∀a∈l,a=0∨a=1∨a = -1)→(rX s l=s∧varS s l%2=0)∨(rX s l = -s∧varS s l%2=1)
 |[],s,_,_=>Or.inl ⟨rfl,rfl⟩
 |a::r,s,hs,h=>by
  have ha:=h a (List.mem_cons_self ..)
  rw[rX,varS]
  by_cases h0:a=0
  ·rw[if_pos h0,if_pos h0];exact wR r s hs (fun b hb=>h b (List.mem_cons_of_mem _ hb))
  ·rw[if_neg h0,if_neg h0]
   have Yg:a=1∨a = -1:=ha.resolve_left h0
   have ih:=wR r a Yg (fun b hb=>h b (List.mem_cons_of_mem _ hb))
   by_cases h1:a = -s
   ·rw[if_pos h1]
    rcases ih with ⟨i1,i2⟩|⟨i1,i2⟩
    ·right;constructor<;>omega
    ·left;constructor<;>omega
   ·rw[if_neg h1]
    have e:a=s:=by omega
    rcases ih with ⟨i1,i2⟩|⟨i1,i2⟩
    ·left;constructor<;>omega
    ·right;constructor<;>omega
theorem vx{x:Rat}(h:x≠0):sg x=1∨sg x = -1:=by rcases bI x with k|k|k<;>first|exact absurd k.1 h|simp[k.2]
theorem Au:∀(n:Nat) (p d:List Rat),aK d=false→d≠[]→n8 p d→d.length<n+1→∃c:Rat,c≠0∧∀(x:Rat) (s:Int),rX s ((chainF n p d).map (fun g=>sg (evalL g x)))=sg c
 |0,p,d,_,h0,_,hl=>absurd (List.eq_nil_of_length_eq_zero (by omega)) h0
 |n+1,p,d,hd,h0,hc,hl=>by
  rw[fk h0]
  by_cases hr:aJ (a6 (-1) (bm p d))=[]
  ·obtain⟨c,rfl,yl⟩:=Aq hd h0 hc hr
   rw[hr,hX]
   refine⟨c,yl,fun x s => ?_⟩
   rw[List.map_cons,List.map_cons,List.map_nil,dp,rX]
   have h1:sg c≠0:=by have:=vx yl;omega
   split<;>rw[rX,if_neg h1,rX]
  ·obtain⟨c,yl,Ac⟩:=Au n d _ (bg _) hr (Ap hd h0 hc) (by have:=fZ (p:=p) hd h0;omega)
   refine⟨c,yl,fun x s => ?_⟩
   rw[List.map_cons,rX]
   split<;>exact Ac x _
theorem HP{f:List Rat}(hz:aK f=false)(hf:f≠[])(hc:n8 f (ak f)){u v:Rat}(hu:evalL f u≠0)(hv:evalL f v≠0) :
  (sg (evalL f u)=sg (evalL f v)∧(fK (chainF f.length f (ak f)) u-fK (chainF f.length f (ak f)) v)%2=0)∨(sg (evalL f u) = - sg (evalL f v)∧(fK (chainF f.length f (ak f)) u-fK (chainF f.length f (ak f)) v)%2=1):=by
 by_cases h2:ak f=[]
 ·obtain⟨c,rfl,yl⟩:=qH hz hf h2
  left
  rw[dp,dp,gM h2,gM h2]
  exact⟨rfl,rfl⟩
 ·obtain⟨c,c0,hl⟩:=Au f.length f (ak f) (ba f) h2 hc (by have:=ja hf;omega)
  have key:∀x,evalL f x≠0→(sg c=sg (evalL f x)∧fK (chainF f.length f (ak f)) x%2=0)∨(sg c = - sg (evalL f x)∧fK (chainF f.length f (ak f)) x%2=1):=by
   intro x hx
   obtain⟨r,e⟩:=rU f.length f (ak f)
   have hs:=vx hx
   have h1:=hl x 0
   rw[e,List.map_cons,rX,if_neg (by omega)] at h1
   have h3:=wR (r.map (fun g=>sg (evalL g x))) (sg (evalL f x)) hs (by
    intro a ha
    obtain⟨g,_,rfl⟩:=List.mem_map.1 ha
    exact jW _)
   rw[e]
   unfold fK
   rw[List.map_cons,varS,if_neg (by omega),if_neg (by omega)]
   rcases h3 with ⟨i1,i2⟩|⟨i1,i2⟩
   ·left;constructor<;>omega
   ·right;constructor<;>omega
  have WH:=vx hu
  have WI:=vx hv
  rcases key u hu with ⟨a1,a2⟩|⟨a1,a2⟩<;>rcases key v hv with ⟨b1,b2⟩|⟨b1,b2⟩<;>first|(left;constructor<;>omega)|(right;constructor<;>omega)
theorem HQ{f:List Rat}{a b:Rat}(dm:a≤b)(h:lH f a b):sg (evalL f a)=sg (evalL f b):=by
 have df:=h.ne Rat.le_refl dm
 have MK:=h.ne dm Rat.le_refl
 rcases bI (evalL f a) with ⟨h1,h2⟩|⟨h1,h2⟩|⟨h1,h2⟩
 ·have h3:lH (a6 (-1) f) a b:=by
   obtain⟨c,c1,c2⟩:=h
   refine⟨c,c1,fun x x1 x2 => ?_⟩
   rw[aT,show(-1:Rat)*evalL f x = - evalL f x from by grind,Dl]
   exact c2 x x1 x2
  have:=xG dm h3 (by rw[aT];grind)
  obtain⟨c,c1,c2⟩:=this
  have:=c2 b dm Rat.le_refl
  rw[aT] at this
  rw[h2]
  rcases bI (evalL f b) with k|k|k<;>grind
 ·exact absurd h1 df
 ·obtain⟨c,c1,c2⟩:=xG dm h h1
  have:=c2 b dm Rat.le_refl
  rw[h2]
  rcases bI (evalL f b) with k|k|k<;>grind
end Go.Proofs.YtllmkadmohkbfaaGreatDoor.Sym
namespace Go.Proofs.YtllmkadmohkbfaaGreatDoor.Sym
open Go Path bN
set_option linter.unusedVariables false
def Ch(h:Nat)(p:List Rat):Prop:=∃D:Int,D≠0∧wl D≤h∧∀i,∃n:Int,coef p i*(D:Rat)=(n:Rat)∧wl n≤h
theorem sP{D:Int}(h:D≠0):(D:Rat)≠0:=fun e=>h (Rat.intCast_inj.1 (by rw[e];rfl))
theorem Av{a b c:Rat}(hc:c≠0)(h:a*c=b*c):a=b:=by
 have:(a-b)*c=0:=by grind
 rcases Rat.mul_eq_zero.1 this with e|e
 ·grind
 ·exact absurd e hc
theorem IU{x:Rat}{n D:Int}(hD:D≠0)(h:x*(D:Rat)=(n:Rat)):ht x≤max (wl n) (max (wl D) 1):=by
 have e:x=Rat.divInt n D:=by
  rw[Rat.divInt_eq_div]
  refine Av (sP hD) ?_
  rw[h,Rat.div_mul_cancel (sP hD)]
 rw[e];exact sK n D
theorem Ch.mono{h k:Nat}{p:List Rat}(hp:Ch h p)(hk:h≤k):Ch k p:=by
 obtain⟨D,h1,h2,h3⟩:=hp
 refine⟨D,h1,by omega,fun i => ?_⟩
 obtain⟨n,a,b⟩:=h3 i
 exact⟨n,a,by omega⟩
theorem Ch.ht{h:Nat}{p:List Rat}(hp:Ch h p)(i:Nat):ht (coef p i)≤max h 1:=by
 obtain⟨D,h1,h2,h3⟩:=hp
 obtain⟨n,a,b⟩:=h3 i
 have:=IU h1 a
 omega
theorem Ch.fl{h:Nat}{p:List Rat}(hp:Ch h p)(h1:1≤h):Fl h p:=kt (fun i=>by have:=hp.ht i;omega)
theorem Ch.congr{h:Nat}{p q:List Rat}(hp:Ch h p)(e:∀i,coef p i=coef q i):Ch h q:=by
 obtain⟨D,h1,h2,h3⟩:=hp
 refine⟨D,h1,h2,fun i => ?_⟩
 rw[←e i];exact h3 i
theorem Ch.trim{h:Nat}{p:List Rat}(hp:Ch h p):Ch h (aJ p):=hp.congr (fun i=>(dc p i).symm)
theorem Ch.nil{h:Nat}(h1:1≤h):Ch h []:=⟨1,by decide,by rw[PE];exact h1,fun i=>⟨0,by rw[jU,Rat.zero_mul];rfl,Nat.zero_le _⟩⟩
theorem Ch.cons{h k:Nat}{a:Rat}{p:List Rat}(hp:Ch h p)(ha:Sym.ht a≤k):Ch (h+k) (a::p):=by
 obtain⟨D,h1,h2,h3⟩:=hp
 have hd:=eL a
 have hn:=dV a
 have Jf:(a.den:Int)≠0:=by have:=a.den_nz;omega
 have U8:a*((a.den:Int):Rat)=(a.num:Rat):=by
  have:a=Rat.divInt a.num a.den:=(Rat.num_divInt_den a).symm
  conv=>lhs;lhs;rw[this]
  rw[Rat.divInt_eq_div,Rat.div_mul_cancel (sP Jf)]
 have hm:=dH D a.den
 refine⟨D*a.den,by intro e;rcases Int.mul_eq_zero.1 e with e|e;exact h1 e;exact Jf e,by omega,fun i => ?_⟩
 cases i with
 |zero =>
  refine⟨a.num*D,?_,by have:=dH a.num D;omega⟩
  rw[sL,Rat.intCast_mul,Rat.intCast_mul,←U8];grind
 |succ i =>
  obtain⟨n,e1,e2⟩:=h3 i
  refine⟨n*a.den,?_,by have:=dH n a.den;omega⟩
  rw[eC,Rat.intCast_mul,Rat.intCast_mul,←e1];grind
theorem Ch.E7{k:Nat} : ∀{p:List Rat},Fl k p→Ch (p.length*k+1) p
 |[],_=>Ch.nil (by omega)
 |a::r,h=>by
  have:=(Ch.E7 (fun x hx=>h x (List.mem_cons_of_mem _ hx))).cons (h a (List.mem_cons_self ..))
  rw[List.length_cons,Nat.add_mul,Nat.one_mul]
  exact this.mono (by omega)
theorem Ch.GJ{h:Nat}{p:List Rat}(hp:Ch h p)(ht:bS p≠0):Ch h (a6 (1/bS p) p):=by
 obtain⟨D,h1,h2,h3⟩:=hp
 obtain⟨t,e1,e2⟩:=h3 (p.length-1)
 have e1:bS p*(D:Rat)=(t:Rat):=e1
 have R9:t≠0:=by
  intro e
  rw[e] at e1
  rcases Rat.mul_eq_zero.1 e1 with e|e
  ·exact ht e
  ·exact sP h1 e
 refine⟨t,R9,e2,fun i => ?_⟩
 obtain⟨n,g1,g2⟩:=h3 i
 refine⟨n,?_,g2⟩
 have:=Rat.div_mul_cancel (a:=1) ht
 rw[ck,←g1,←e1]
 grind
theorem Ch.e9{h:Nat}{p:List Rat}(hp:Ch h p)(h1:1≤h)(hz:aK p=false):Ch h (bP p):=by
 by_cases e:p=[]
 ·subst e;exact Ch.nil h1
 ·exact(hp.GJ (cz hz e)).trim
theorem Ch.step{h b:Nat}{rest q:List Rat}(hr:Ch h rest)(hq:Ch b q)(hz:bS q≠0):Ch (h+b+1) (lK rest q):=by
 refine Ch.trim ?_
 obtain⟨D,h1,h2,h3⟩:=hr
 obtain⟨E,g1,g2,g3⟩:=hq
 obtain⟨u,u1,u2⟩:=g3 (q.length-1)
 obtain⟨t,t1,t2⟩:=h3 (rest.length-1)
 have u1:bS q*(E:Rat)=(u:Rat):=u1
 have t1:bS rest*(D:Rat)=(t:Rat):=t1
 have Mp:u≠0:=by
  intro e
  rw[e] at u1
  rcases Rat.mul_eq_zero.1 u1 with e|e
  ·exact hz e
  ·exact sP g1 e
 have hc:=B3 (rest:=rest) hz
 have hm:=dH D u
 refine⟨D*u,by intro e;rcases Int.mul_eq_zero.1 e with e|e;exact h1 e;exact Mp e,by omega,fun i => ?_⟩
 obtain⟨n,e1,e2⟩:=h3 i
 rw[ft,iY,ck]
 by_cases hi:i<rest.length-q.length
 ·rw[if_pos hi]
  refine⟨n*u,?_,by have:=dH n u;omega⟩
  rw[Rat.intCast_mul,Rat.intCast_mul,←e1];grind
 ·rw[if_neg hi]
  obtain⟨m,f1,f2⟩:=g3 (i-(rest.length-q.length))
  refine⟨n*u + -(t*m),?_,by have:=dH n u;have:=dH t m;have:=gF (t*m);have:=z7 (n*u) (-(t*m));omega⟩
  rw[Rat.intCast_mul,Rat.intCast_add,Rat.intCast_mul,Rat.intCast_neg,Rat.intCast_mul,←e1,←f1,←t1,←u1,←hc];grind
theorem B8{b:Nat}{q:List Rat}(hq:Ch b q)(hz:bS q≠0)(mG:q.length≠0):∀(n h:Nat) (out rest:List Rat),Ch h rest→Ch (h+(rest.length+1-q.length)*(b+1)) (mM n out rest q).2
 |0,h,out,rest,hr=>hr.mono (by omega)
 |n+1,h,out,rest,hr=>by
  rw[mM]
  cases hb:Nat.blt rest.length q.length with
  |true=>exact hr.mono (by omega)
  |false =>
   have hl:=sN.1 hb
   have h1:=nd hz mG hl
   have ih:=B8 hq hz mG n (h+b+1) (aJ (cM out (eA (rest.length-q.length) [stepC rest q]))) (lK rest q) (hr.step hq hz)
   refine ih.mono ?_
   have e:rest.length+1-q.length=(rest.length-q.length)+1:=by omega
   have h2:((lK rest q).length+1-q.length)*(b+1)≤(rest.length-q.length)*(b+1):=Nat.mul_le_mul_right _ (by omega)
   rw[e,Nat.add_mul,Nat.one_mul]
   omega
theorem E8{b M:Nat}{q:List Rat}(hq:Ch b q)(pj:1≤b)(hz:bS q≠0)(mG:q.length≠0):∀(n h:Nat) (out rest:List Rat),1≤h→Ch h rest→h+(rest.length+1-q.length)*(b+1)≤M→(∀i,i+q.length≤rest.length→coef out i=0)→(∀i,ht (coef out i)≤M+b)→∀i,ht (coef (mM n out rest q).1 i)≤M+b
 |0,h,out,rest,_,_,_,_,ho=>ho
 |n+1,h,out,rest,h1,hr,hM,yl,ho=>by
  rw[mM]
  cases hb:Nat.blt rest.length q.length with
  |true=>exact ho
  |false =>
   have hl:=sN.1 hb
   have hs:=nd hz mG hl
   have e:rest.length+1-q.length=(rest.length-q.length)+1:=by omega
   have h2:((lK rest q).length+1-q.length)*(b+1)≤(rest.length-q.length)*(b+1):=Nat.mul_le_mul_right _ (by omega)
   rw[e,Nat.add_mul,Nat.one_mul] at hM
   have cc:∀i,coef (aJ (cM out (eA (rest.length-q.length) [stepC rest q]))) i=if i=rest.length-q.length then stepC rest q else coef out i:=by
    intro i
    rw[dc,ft,iY]
    by_cases h3:i=rest.length-q.length
    ·rw[if_pos h3,if_neg (by omega),yl i (by omega),h3,Nat.sub_self,sL,Rat.zero_add]
    ·rw[if_neg h3]
     split
     ·rw[Rat.add_zero]
     ·rw[cL (p:=[stepC rest q]) (by simp;omega),Rat.add_zero]
   refine E8 hq pj hz mG n (h+b+1) _ (lK rest q) (by omega) (hr.step hq hz) (by omega) (fun i hi => ?_) (fun i => ?_)
   ·rw[cc,if_neg (by omega)]
    exact yl i (by omega)
   ·rw[cc]
    split
    ·unfold stepC
     have a1:=pc (bS rest) (bS q)
     have a2:=hr.ht (rest.length-1)
     have a3:=hq.ht (q.length-1)
     have a2:ht (bS rest)≤max h 1:=a2
     have a3:ht (bS q)≤max b 1:=a3
     omega
    ·exact ho i
theorem Ch.rest{h b:Nat}{p q:List Rat}(hp:Ch h p)(hq:Ch b q)(hz:aK q=false)(mG:q≠[]):Ch (h+(p.length+1-q.length)*(b+1)) (bm p q):=by
 have:=B8 hq (cz hz mG) (by intro e;exact mG (List.eq_nil_of_length_eq_zero e)) (p.length+1) h [] (aJ p) hp.trim
 refine Ch.mono this ?_
 have h1:=fM p
 have:((aJ p).length+1-q.length)*(b+1)≤(p.length+1-q.length)*(b+1):=Nat.mul_le_mul_right _ (by omega)
 omega
theorem yx{h b:Nat}{p q:List Rat}(hp:Ch h p)(hq:Ch b q)(h1:1≤h)(pj:1≤b)(hz:aK q=false)(mG:q≠[]):Fl (h+(p.length+1-q.length)*(b+1)+b) (cJ p q).1:=by
 have hl:=fM p
 have h2:((aJ p).length+1-q.length)*(b+1)≤(p.length+1-q.length)*(b+1):=Nat.mul_le_mul_right _ (by omega)
 exact kt (E8 hq pj (cz hz mG) (by intro e;exact mG (List.eq_nil_of_length_eq_zero e)) (p.length+1) h [] (aJ p) h1 hp.trim (by omega) (fun i _=>rfl) (fun i=>Nat.le_trans (Nat.le_of_eq jo) (by omega)))
theorem vy{p q:List Rat}(hz:aK q=false)(mG:q≠[]):(cJ p q).1.length≤p.length+1-q.length:=by
 have key:∀(n:Nat) (out rest:List Rat),rest.length≤p.length→out.length≤p.length+1-q.length→(mM n out rest q).1.length≤p.length+1-q.length:=by
  intro n
  induction n with
  |zero=>intro out rest _ h;exact h
  |succ n ih =>
   intro out rest h1 h2
   rw[mM]
   cases hb:Nat.blt rest.length q.length with
   |true=>exact h2
   |false =>
    have hl:=sN.1 hb
    have hs:=nd (cz hz mG) (by intro e;exact mG (List.eq_nil_of_length_eq_zero e)) hl
    refine ih _ _ (by omega) ?_
    have h3:=fM (cM out (eA (rest.length-q.length) [stepC rest q]))
    rw[EX] at h3
    unfold eA at h3
    rw[List.length_append,List.length_replicate] at h3
    simp only[List.length_cons,List.length_nil] at h3
    unfold eA
    omega
 exact key _ _ _ (fM p) (by simp)
def xB(a b:Nat):Nat→Nat
 |0=>a
 |1=>b
 |j+2=>xB a b j+2*(xB a b (j+1)+1)
theorem Dn(a b:Nat)(h:a≤b):∀j,xB a b j≤xB a b (j+1)
 |0=>h
 |j+1=>by rw[xB];omega
theorem cu(a b:Nat)(h:a≤b){i j:Nat}(wq:i≤j):xB a b i≤xB a b j:=by
 induction wq with
 |refl=>exact Nat.le_refl _
 |step _ ih=>exact Nat.le_trans ih (Dn a b h _)
theorem qI(a b:Nat)(h:a≤b)(j:Nat):∀d,xB a b j+(d+2)*(xB a b (j+1)+1)≤xB a b (j+1+(d+1))
 |0=>Nat.le_refl _
 |d+1=>by
  have ih:=qI a b h j d
  have h1:=cu a b h (i:=j+1) (j:=j+1+d) (by omega)
  have e:xB a b (j+1+(d+1+1))=xB a b (j+1+d)+2*(xB a b (j+1+(d+1))+1):=rfl
  rw[e]
  have e2:(d+1+2)*(xB a b (j+1)+1)=(d+2)*(xB a b (j+1)+1)+(xB a b (j+1)+1):=by rw[show d+1+2=(d+2)+1 from by omega,Nat.add_mul,Nat.one_mul]
  rw[e2]
  omega
structure vz (a b N i j:Nat) (p q:List Rat):Prop where
 hp:Ch (xB a b i) p
 hq:Ch (xB a b j) q
 lt:i<j
 len:q.length<p.length
 bound:j+p.length≤N+1
 zp:aK p=false
 zq:aK q=false
theorem vz.rest{a b N i j:Nat}{p q:List Rat}(e:vz a b N i j p q)(dm:a≤b)(mG:q≠[]):Ch (xB a b (j+(p.length-q.length))) (bm p q)∧(bm p q).length<q.length:=by
 have h1:=e.hp.rest e.hq e.zq mG
 have hl:=(fN p e.zq mG).1
 have hlen:=e.len
 have bh:=e.lt
 refine⟨h1.mono ?_,hl⟩
 obtain⟨j',rfl⟩:∃j',j=j'+1:=⟨j-1,by omega⟩
 obtain⟨d,hd⟩:∃d,p.length-q.length=d+1:=⟨p.length-q.length-1,by omega⟩
 have h2:=cu a b dm (i:=i) (j:=j') (by omega)
 have h3:=qI a b dm j' d
 rw[hd,show p.length+1-q.length=d+2 from by omega]
 omega
theorem vz.next{a b N i j:Nat}{p q r:List Rat}(e:vz a b N i j p q)(dm:a≤b)(mG:q≠[])(hr:Ch (xB a b (j+(p.length-q.length))) r)(hl:r.length<q.length)(hz:aK r=false):vz a b N j (j+(p.length-q.length)) q r:=by
 have:=e.len
 have:=e.bound
 exact⟨e.hq,hr,by omega,hl,by omega,e.zq,hz⟩
theorem vz.idx{a b N i j:Nat}{p q:List Rat}(e:vz a b N i j p q):j≤N+1:=by have:=e.bound;omega
theorem HT{a b N:Nat}(ha:1≤a)(dm:a≤b):∀(n i j:Nat) (p q:List Rat),vz a b N i j p q→Ch (xB a b (N+1)) (gp n p q)
 |0,i,j,p,q,e=>e.hp.mono (cu a b dm (by have:=e.idx;have:=e.lt;omega))
 |n+1,i,j,p,q,e=>by
  rw[gp]
  by_cases h:q.length=0
  ·rw[beq_iff.2 h,cond_true];exact e.hp.mono (cu a b dm (by have:=e.idx;have:=e.lt;omega))
  ·have df:q≠[]:=fun e=>h (by rw[e];rfl)
   rw[eR.2 h,cond_false]
   obtain⟨h1,h2⟩:=e.rest dm df
   have hz:=cQ p q
   refine HT ha dm n _ _ q _ (e.next dm df (h1.e9 (Nat.le_trans ha (cu a b dm (i:=0) (Nat.zero_le _))) hz) (by rw[bJ hz];exact h2) (bT _))
theorem Ch.derive{h:Nat}{p:List Rat}(hp:Ch h p)(hl:p.length≤1000):Ch (h+1) (ak p):=by
 refine Ch.trim ?_
 have key:∀(q:List Rat) (i:Nat) (j:Nat),coef (fE i q) j=((i+j:Nat):Int)*coef q j:=by
  intro q
  induction q with
  |nil=>intro i j;show(0:Rat)=_*0;rw[Rat.mul_zero]
  |cons a r ih =>
   intro i j
   cases j with
   |zero=>rfl
   |succ j =>
    rw[fE,eC,eC,ih (i+1) j,show i+1+j=i+(j+1) from by omega]
 have hd:∀j,coef (p.drop 1) j=coef p (j+1):=by
  intro j
  cases p with
  |nil=>rfl
  |cons a r=>rfl
 obtain⟨D,h1,h2,h3⟩:=hp
 refine⟨D,h1,by omega,fun i => ?_⟩
 rw[key,hd]
 by_cases hi:i+1<p.length
 ·obtain⟨n,e1,e2⟩:=h3 (i+1)
  refine⟨((1+i:Nat):Int)*n,?_,?_⟩
  ·rw[Rat.intCast_mul,←e1];grind
  ·have:=dH ((1+i:Nat):Int) n
   have:wl ((1+i:Nat):Int)≤1:=pF (by omega)
   omega
 ·rw[cL (by omega)]
  exact⟨0,by grind,Nat.zero_le _⟩
end Go.Proofs.YtllmkadmohkbfaaGreatDoor.Sym
namespace Go.Proofs.YtllmkadmohkbfaaGreatDoor.Sym
open Go Path bN
set_option linter.unusedVariables false
theorem La{f:List Rat}(hz:aK f=false)(hf:f≠[])(hc:n8 f (ak f)){u v ε:Rat}(lL:u≤v){s:Int}(hs:s=1∨s = -1)(hε:0<ε)(hb:Oj ε u v (ak f) s) :
  fK (chainF f.length f (ak f)) u+(if sg (evalL f v) = -s then 1 else 0)=fK (chainF f.length f (ak f)) v+(if sg (evalL f u) = -s then 1 else 0):=by
 obtain⟨R,hR,hu,hv⟩:=oP (a:=u) (b:=v)
 have h2:ak f≠[]:=by
  intro e
  have:=(hb u Rat.le_refl lL).1
  rw[e] at this
  have e0:sg (evalL [] u)=0:=by show sg (0:Rat)=0;decide
  rw[e0] at this
  omega
 obtain⟨δ,ε0,hδ,Yh,hl⟩:=qG hz h2 hf hc hR
 have hS:=l0 hR f
 have hd:=ir hε (show 0<sec f R+1 by grind)
 have nk:=Rat.div_mul_cancel (a:=ε) (b:=sec f R+1) (by grind)
 generalize ε/(sec f R+1)=δ2 at hd nk
 have JM:0<Bi δ δ2:=by unfold Bi;split<;>assumption
 have m1:=wM δ δ2
 have m2:=wN δ δ2
 refine wQ (P:=fun u v=>fK (chainF f.length f (ak f)) u+(if sg (evalL f v) = -s then 1 else 0)=fK (chainF f.length f (ak f)) v+(if sg (evalL f u) = -s then 1 else 0)) JM lL ?_ ?_
 ·intro x y h1 wP h3 hw
  have hx:=bK (x:=x) h1 (by grind) hu hv
  have hy:=bK (x:=y) (by grind) h3 hu hv
  have eN:Oj ε x y (ak f) s:=fun z z1 z2=>hb z (by grind) (by grind)
  rcases hl x y hx hy wP (by grind) with ⟨⟨t,ht,hB⟩,e⟩|⟨t,ht,hm,e⟩
  ·show _+_=_+_
   rw[(hB x Rat.le_refl wP).1,(hB y wP Rat.le_refl).1,e]
  ·show _+_=_+_
   by_cases exy:x=y
   ·rw[exy]
   ·have bh:x<y:=by grind
    have k1:=hm x y Rat.le_refl bh Rat.le_refl
    have w3:=Rat.mul_le_mul_of_nonneg_left (show y-x≤δ2 by grind) hS
    have k2:=HO (δ:=0) hx hy hs eN hε (show sec f R*(y-x)<ε by grind) x y Rat.le_refl bh Rat.le_refl
    have U9:t=s:=by
     rcases hs with rfl|rfl<;>rcases ht with rfl|rfl<;>first|rfl|(exfalso;rw[show ((1:Int):Rat)=1 from rfl,show((-1:Int):Rat) = -1 from rfl] at *;grind)
    rw[U9] at e
    exact e
 ·intro x y z _ _ _ _ e1 e2
  have e1:_+_=_+_:=e1
  have e2:_+_=_+_:=e2
  show _+_=_+_
  omega
theorem sep{f U V:List Rat}{R u v ε:Rat}(hz:aK f=false)(hf:f≠[])(hc:n8 f (ak f))(hu:ab u≤R)(hv:ab v≤R)(lL:u≤v)(hU:∀x,evalL U x*evalL f x+evalL V x*evalL (ak f) x=1)(hε:0<ε)(h1:(nrm U R+nrm V R)*(2*ε)<1)(xe:lip f R*(v-u)≤ε)(Nc:lip (ak f) R*(v-u)≤ε) :
  fK (chainF f.length f (ak f)) u-fK (chainF f.length f (ak f)) v≤1∧(evalL f u=0→fK (chainF f.length f (ak f)) u-fK (chainF f.length f (ak f)) v≤0):=by
 rcases lA f hu hv lL Rat.le_refl hε xe with ⟨s,hs,hb⟩|Eg
 ·have hw:lH f u v:=⟨ε,hε,fun x a b=>(hb x a b).2⟩
  have:=vw hz hf hc lL hw
  exact⟨by omega,fun _=>by omega⟩
 ·rcases lA (ak f) hu hv lL Rat.le_refl hε Nc with ⟨s,hs,hb⟩|PS
  ·have e:=La hz hf hc lL hs hε hb
   constructor
   ·split at e<;>split at e<;>omega
   ·intro h0
    have Yi:sg (evalL f u) ≠ -s:=by rw[h0];rcases hs with rfl|rfl<;>decide
    rw[if_neg Yi] at e
    split at e<;>omega
  ·exfalso
   have a1:=j8 hu U
   have a2:=j8 hu V
   have a3:=Eg u Rat.le_refl lL
   have a4:=PS u Rat.le_refl lL
   have a5:=lz (evalL U u*evalL f u) (evalL V u*evalL (ak f) u)
   rw[hU u,gh,gh] at a5
   have hR:=Rat.le_trans (bz u) hu
   have b1:=cO a1 (Rat.le_of_lt a3) (bz _) (by grind)
   have b2:=cO a2 (Rat.le_of_lt a4) (bz _) (by grind)
   have e1:ab (1:Rat)=1:=by decide +kernel
   rw[e1] at a5
   grind
def twP(n:Nat):Rat:=(((2^n:Nat):Int):Rat)
theorem jv(m n:Nat):twP (m+n)=twP m*twP n:=by
 unfold twP
 rw[Nat.pow_add,Int.natCast_mul,Rat.intCast_mul]
theorem bV{m n:Nat}(h:m≤n):twP m≤twP n:=Rat.intCast_le_intCast.2 (by have:=Nat.pow_le_pow_right (n:=2) (by omega) h;omega)
theorem rY:twP 0=1:=rfl
theorem Lb(n:Nat):1≤twP n:=by rw[←rY];exact bV (Nat.zero_le _)
theorem dX(n:Nat):0<twP n:=by have:=Lb n;grind
theorem fH(n:Nat):twP (n+1)=twP n+twP n:=by
 rw[jv]
 have:twP 1=2:=rfl
 rw[this];grind
theorem Sc(x:Rat):x*((x.den:Int):Rat)=(x.num:Rat):=by
 have h:(x.num:Rat)/((x.den:Int):Rat)=x:=by rw[←Rat.divInt_eq_div,Rat.num_divInt_den]
 have hd:((x.den:Int):Rat)≠0:=sP (by have:=x.den_pos;omega)
 have:=Rat.div_mul_cancel (a:=(x.num:Rat)) hd
 rwa[h] at this
theorem Lc(n:Int):ab (n:Rat)=((n.natAbs:Int):Rat):=by
 rcases a7 (n:Rat) with ⟨h1,h2⟩|⟨h1,h2⟩
 ·have:0≤n:=Rat.intCast_le_intCast.1 h1
  rw[h2];congr 1;omega
 ·have:n<0:=Rat.intCast_lt_intCast.1 h1
  rw[h2,←Rat.intCast_neg];congr 1;omega
theorem IV(k:Nat):4294967296^k=2^(32*k):=by rw[Nat.pow_mul]
theorem PT(n:Int){k:Nat}(h:wl n≤k):ab (n:Rat)≤twP (32*k):=by
 rw[Lc]
 have h1:=EF n
 have h2:4294967296^wl n≤4294967296^k:=Nat.pow_le_pow_right (by omega) h
 rw[IV k] at h2
 unfold twP
 exact Rat.intCast_le_intCast.2 (by omega)
theorem Ld(x:Rat):(1:Rat)≤((x.den:Int):Rat):=by
 have:=x.den_pos
 exact Rat.intCast_le_intCast.2 (show (1:Int)≤_ by omega)
theorem B9(x:Rat):ab x≤twP (32*ht x):=by
 have h:=Sc x
 have h1:=PT x.num (dV x)
 have h2:=Ld x
 rw[←h,gh,Lc] at h1
 have e:(((x.den:Int).natAbs:Int):Rat)=((x.den:Int):Rat):=by congr 1
 rw[e] at h1
 have:=Rat.mul_le_mul_of_nonneg_left h2 (bz x)
 grind
theorem Dp{R:Rat}(hR:0≤R):∀p q:List Rat,nrm (cM p q) R≤nrm p R+nrm q R
 |[],q=>by rw[cM,nrm];grind
 |a::p,[]=>by rw[cM];show _≤_+0;grind
 |a::p,b::q=>by
  have:=Rat.mul_le_mul_of_nonneg_right (Dp hR p q) hR
  have h2:=lz a b
  rw[cM,nrm,nrm,nrm];grind
theorem Aw(c R:Rat):∀p:List Rat,nrm (a6 c p) R=ab c*nrm p R
 |[]=>by show(0:Rat)=_*0;grind
 |a::p=>by
  show nrm (a6 c p) R*R+ab (c*a)=_
  rw[Aw c R p,gh,nrm];grind
theorem HU{R:Rat}(hR:0≤R)(q:List Rat):∀p:List Rat,nrm (mulL p q) R≤nrm p R*nrm q R
 |[]=>by show(0:Rat)≤0*_;grind
 |a::p=>by
  rw[mulL]
  have h1:=Dp hR (a6 a q) (0::mulL p q)
  rw[Aw] at h1
  have h2:nrm (0::mulL p q) R=nrm (mulL p q) R*R+ab 0:=rfl
  have h3:=Rat.mul_le_mul_of_nonneg_right (HU hR q p) hR
  rw[h2,oN] at h1
  rw[nrm]
  grind
theorem Dq{R:Rat}{r c:Nat}(hR:0≤R)(hr:R≤twP r):∀p:List Rat,(∀x∈p,ab x≤twP c)→nrm p R≤twP (c+(r+1)*p.length)
 |[],_=>Rat.le_of_lt (dX _)
 |a::p,h=>by
  have ih:=Dq hR hr p (fun x hx=>h x (List.mem_cons_of_mem _ hx))
  have ha:=h a (List.mem_cons_self ..)
  have h1:=cO ih hr (jb hR p) (Rat.le_of_lt (dX r))
  rw[←jv] at h1
  have h2:=bV (show c≤c+(r+1)*p.length+r by omega)
  rw[nrm,List.length_cons,show c+(r+1)*(p.length+1)=c+(r+1)*p.length+r+1 from by rw[Nat.mul_add];omega,fH]
  grind
theorem Ax{R:Rat}{r c:Nat}(hR:0≤R)(hr:R≤twP r):∀p:List Rat,(∀x∈p,ab x≤twP c)→lip p R≤twP (c+(r+2)*p.length)
 |[],_=>Rat.le_of_lt (dX _)
 |a::p,h=>by
  have hp:=fun x hx=>h x (List.mem_cons_of_mem a hx)
  have ih:=Ax hR hr p hp
  have hn:=Dq hR hr p hp
  have h1:=cO ih hr (cI hR p) (Rat.le_of_lt (dX r))
  rw[←jv] at h1
  have e1:(r+2)*p.length=(r+1)*p.length+p.length:=by rw[show r+2=r+1+1 from rfl,Nat.add_mul (r+1) 1];omega
  have h2:=bV (show c+(r+1)*p.length≤c+(r+2)*p.length+r by omega)
  have h3:=bV (show c+(r+2)*p.length+r+1≤c+(r+2)*(p.length+1) by rw[Nat.mul_add];omega)
  rw[fH] at h3
  rw[lip,List.length_cons]
  grind
theorem Ca{h:Nat}{p:List Rat}(hp:Fl h p):∀x∈p,ab x≤twP (32*h):=fun x hx=>Rat.le_trans (B9 x) (bV (by have:=hp x hx;omega))
theorem Le{a b N r:Nat}{R:Rat}(ha:1≤a)(dm:a≤b)(hR:0≤R)(hr:R≤twP r)(hs:(r+1)*(N+2)+1≤64*a):∀(n i j:Nat) (p d:List Rat),vz a b N i j p d→d≠[]→n8 p d→d.length<n+1 →
  ∃U V:List Rat,(∀x,evalL U x*evalL p x+evalL V x*evalL d x=1)∧nrm U R≤twP (32*(4*xB a b (N-1)-3*xB a b j))∧nrm V R≤twP (32*(4*xB a b (N-1)-3*xB a b j))
 |0,i,j,p,d,_,h0,_,hl=>absurd (List.eq_nil_of_length_eq_zero (by omega)) h0
 |n+1,i,j,p,d,e,h0,hc,hl=>by
  have QU:=e.bound
  have hlen:=e.len
  have sl:=List.length_pos_iff.2 h0
  have wq:=e.lt
  have x1:∀j,1≤xB a b j:=fun j=>Nat.le_trans ha (cu a b dm (i:=0) (Nat.zero_le _))
  have Y0:=cu a b dm (i:=j) (j:=N-1) (by omega)
  by_cases ML:aJ (a6 (-1) (bm p d))=[]
  ·obtain⟨c,rfl,yl⟩:=Aq e.zq h0 hc ML
   refine⟨[],[1/c],fun x => ?_,Rat.le_of_lt (dX _),?_⟩
   ·rw[dp,dp,Rat.div_mul_cancel yl]
    show 0*_+1=1
    grind
   ·have e1:nrm [1/c] R=ab (1/c):=by show 0*R+_=_;grind
    have hh:=pc 1 c
    have PU:=e.hq.fl (x1 j) c (by simp)
    have hi:=KM c
    have TL:1/c=c⁻¹:=by rw[Rat.div_def,Rat.one_mul]
    rw[e1]
    refine Rat.le_trans (B9 _) (bV ?_)
    rw[TL]
    omega
  ·obtain⟨r1,r2⟩:=e.rest dm h0
   have Jn:=fZ (p:=p) e.zq h0
   have vN:=List.length_pos_iff.2 ML
   have L8:Ch (xB a b (j+(p.length-d.length))) (aJ (a6 (-1) (bm p d))):=by
    refine Ch.trim ?_
    obtain⟨D,d1,d2,d3⟩:=r1
    refine⟨D,d1,d2,fun i => ?_⟩
    obtain⟨m,m1,m2⟩:=d3 i
    refine⟨-m,?_,by rw[gF];exact m2⟩
    rw[ck,Rat.intCast_neg,←m1];grind
   obtain⟨U,V,PW,QV,Ok⟩:=Le ha dm hR hr hs n j _ d _ (e.next dm h0 L8 Jn (bg _)) ML (Ap e.zq h0 hc) (by omega)
   have hq:=yx e.hp e.hq (x1 i) (x1 j) e.zq h0
   have A4:=vy (p:=p) e.zq h0
   obtain⟨j',rfl⟩:∃j',j=j'+1:=⟨j-1,by omega⟩
   obtain⟨δ,hδ⟩:∃δ,p.length-d.length=δ+1:=⟨p.length-d.length-1,by omega⟩
   have hg:=qI a b dm j' δ
   have hi:=cu a b dm (i:=i) (j:=j') (by omega)
   have S7:=cu a b dm (i:=0) (j:=j') (by omega)
   have Y1:xB a b 0=a:=rfl
   rw[hδ] at QV Ok
   have Y2:=cu a b dm (i:=j'+1+(δ+1)) (j:=N-1) (by omega)
   have su:xB a b i+(p.length+1-d.length)*(xB a b (j'+1)+1)+xB a b (j'+1)≤xB a b (j'+1+(δ+1))+xB a b (j'+1):=by
    rw[show p.length+1-d.length=δ+2 from by omega];omega
   have TW:=Dq hR hr _ (Ca (fg hq su))
   have Y3:(r+1)*(cJ p d).1.length≤(r+1)*(N+2):=Nat.mul_le_mul_left _ (by omega)
   have two:2*(xB a b (j'+1)+1)≤(δ+2)*(xB a b (j'+1)+1):=Nat.mul_le_mul_right _ (by omega)
   have Sd:=Rat.le_trans TW (bV (show _≤32*(xB a b (j'+1+(δ+1))+xB a b (j'+1))+((r+1)*(N+2)) by omega))
   generalize hS:32*(4*xB a b (N-1)-3*xB a b (j'+1+(δ+1)))=S at QV Ok
   generalize hQ:32*(xB a b (j'+1+(δ+1))+xB a b (j'+1))+((r+1)*(N+2))=Q at Sd
   have hT:S+Q+1≤32*(4*xB a b (N-1)-3*xB a b (j'+1)):=by omega
   refine⟨a6 (-1) V,cM U (mulL V (cJ p d).1),fun x => ?_,?_,?_⟩
   ·have k1:=PW x
    have k2:=l8 (p:=p) e.zq h0 x
    rw[aT,br,aF]
    have k3:evalL (aJ (a6 (-1) (bm p d))) x=evalL (cJ p d).1 x*evalL d x-evalL p x:=by grind
    rw[k3] at k1
    grind
   ·rw[Aw,show ab (-1:Rat)=1 from by decide +kernel,Rat.one_mul]
    exact Rat.le_trans Ok (bV (by omega))
   ·have m1:=Dp hR U (mulL V (cJ p d).1)
    have m2:=HU hR (cJ p d).1 V
    have m3:=cO Ok Sd (jb hR V) (Rat.le_of_lt (dX _))
    rw[←jv] at m3
    have m4:=bV (show S≤S+Q by omega)
    have m5:=bV hT
    rw[fH] at m5
    grind
theorem Cb{f:List Rat}{a N r m:Nat}{R u v:Rat}(ha:1≤a)(e:vz a (a+1) N 0 1 f (ak f))(hf:f≠[])(hc:n8 f (ak f))(hR:0≤R)(hr:R≤twP r)(hs:(r+1)*(N+2)+1≤64*a)(hu:ab u≤R)(hv:ab v≤R)(lL:u≤v)
  (hm:32*(4*xB a (a+1) (N-1))+32*(a+1)+(r+2)*f.length+3≤m) (hw:(v-u)*twP m≤1) :
  fK (chainF f.length f (ak f)) u-fK (chainF f.length f (ak f)) v≤1∧(evalL f u=0→fK (chainF f.length f (ak f)) u-fK (chainF f.length f (ak f)) v≤0):=by
 by_cases h2:ak f=[]
 ·rw[gM h2,gM h2]
  exact⟨by omega,fun _=>by omega⟩
 ·obtain⟨U,V,PW,hU,hV⟩:=Le ha (Nat.le_succ a) hR hr hs f.length 0 1 f (ak f) e h2 hc (by have:=e.len;omega)
  generalize hS:32*(4*xB a (a+1) (N-1)-3*xB a (a+1) 1)=S at hU hV
  have Yj:S≤32*(4*xB a (a+1) (N-1)):=by omega
  generalize 32*(4*xB a (a+1) (N-1))=S2 at hm Yj
  have e0:xB a (a+1) 0=a:=rfl
  have e1:xB a (a+1) 1=a+1:=rfl
  have l1:=Ax hR hr f (Ca (fg (e.hp.fl (by rw[e0];exact ha)) (show xB a (a+1) 0≤a+1 by rw[e0];omega)))
  have l2:=Ax hR hr (ak f) (Ca (e.hq.fl (by rw[e1];omega)))
  rw[e1] at l2
  have hlen:(r+2)*(ak f).length≤(r+2)*f.length:=Nat.mul_le_mul_left _ (by have:=e.len;omega)
  have WJ:=Rat.le_trans l2 (bV (show 32*(a+1)+(r+2)*(ak f).length≤32*(a+1)+(r+2)*f.length by omega))
  generalize hL:32*(a+1)+(r+2)*f.length=L at l1 WJ
  have hp:=dX (S+3)
  have hε:=ir (show (0:Rat)<1 by decide) hp
  have Nk:=Rat.div_mul_cancel (a:=1) (b:=twP (S+3)) (by grind)
  generalize 1/twP (S+3)=ε at hε Nk
  have t1:twP (S+3)=8*twP S:=by rw[jv,show twP 3=8 from rfl];grind
  have Fw:0≤v-u:=by grind
  have key:∀l:Rat,0≤l→l≤twP L→l*(v-u)≤ε:=by
   intro l h0 hl
   have k1:=Rat.mul_le_mul_of_nonneg_right hl Fw
   have k2:=Rat.mul_le_mul_of_nonneg_left (bV (show L+(S+3)≤m by omega)) Fw
   rw[jv] at k2
   have k3:twP L*(v-u)*twP (S+3)≤1:=by grind
   refine Rat.not_lt.1 fun bh => ?_
   have k4:ε<twP L*(v-u):=by grind
   have k5:=Rat.mul_lt_mul_of_pos_right k4 hp
   grind
  refine sep (U:=U) (V:=V) (ε:=ε) e.zp hf hc hu hv lL PW hε ?_ (key _ (cI hR _) l1) (key _ (cI hR _) WJ)
  have k6:=Rat.mul_le_mul_of_nonneg_right (show nrm U R+nrm V R≤twP S+twP S by grind) (show 0≤2*ε by grind)
  rw[t1] at Nk
  have Y4:=Rat.mul_pos hε (dX S)
  grind
end Go.Proofs.YtllmkadmohkbfaaGreatDoor.Sym
namespace Go.Proofs.YtllmkadmohkbfaaGreatDoor.Sym
set_option linter.unusedVariables false
set_option linter.unusedSectionVars false
theorem nQ{a b δ:Rat}(ha:0<a)(hb:0≤b)(hδ:0<δ):∃t,0<t∧t≤δ∧t*b<a:=by
 have pj:0<b+1:=by grind
 have hq:=ir ha pj
 have hm:a/(b+1)*(b+1)=a:=by rw[Rat.div_def,Rat.mul_assoc,Rat.inv_mul_cancel _ (by grind),Rat.mul_one]
 have key:∀t,0<t→t≤a/(b+1)→t*b<a:=fun t h1 h2=>by
  have h3:=Rat.mul_le_mul_of_nonneg_right h2 (Rat.le_of_lt pj)
  rw[hm] at h3
  grind
 by_cases h:a/(b+1)≤δ
 ·exact⟨_,hq,h,key _ hq Rat.le_refl⟩
 ·exact⟨δ,hδ,Rat.le_refl,key δ hδ (by grind)⟩
theorem Cc{f:List Rat}(hc:n8 f (ak f)){x δ:Rat}(hx:evalL f x=0)(hδ:0<δ)(s:Rat)(hs:s=1∨s = -1):∃t,0<t∧t≤δ∧evalL f (x+s*t)≠0:=by
 obtain⟨U,V,PW⟩:=hc
 have h1:=PW x
 rw[hx,cr] at h1
 have hd:dEv f x≠0:=fun e=>by rw[e] at h1;grind
 have hR:0≤ab x+δ:=by have:=bz x;grind
 obtain⟨t,t1,t2,t3⟩:=nQ (uu hd) (l0 hR f) hδ
 refine⟨t,t1,t2,fun e => ?_⟩
 have ht:=GH x (x+s*t) f
 rw[e,hx] at ht
 have aI:ab (s*t)=t:=by
  rw[gh]
  rcases hs with rfl|rfl
  ·rcases a7 t with k|k<;>rcases a7 (1:Rat) with m|m<;>grind
  ·rcases a7 t with k|k<;>rcases a7 (-1:Rat) with m|m<;>grind
 have PX:ab x≤ab x+δ:=by grind
 have Uf:ab (x+s*t)≤ab x+δ:=by
  have:=lz x (s*t)
  grind
 have hb:=GI PX Uf f
 have e1:s*t*(dEv f x+s*t*HM x (x+s*t) f)=0:=by
  have:x+s*t-x=s*t:=by grind
  rw[this] at ht
  grind
 have Va:s*t≠0:=fun e=>by rw[e,oN] at aI;grind
 rcases Rat.mul_eq_zero.1 e1 with e2|e2
 ·exact Va e2
 ·have e3:dEv f x = -(s*t*HM x (x+s*t) f):=by grind
  have e4:ab (dEv f x)=t*ab (HM x (x+s*t) f):=by rw[e3,Dl,gh,aI]
  have e5:=Rat.mul_le_mul_of_nonneg_left hb (Rat.le_of_lt t1)
  grind
abbrev cS(f:List Rat)(x:Rat):Int:=fK (chainF f.length f (ak f)) x
structure gi (f:List Rat) (lo hi:Rat):Prop where
 zf:aK f=false
 f0:f≠[]
 Dk:n8 f (ak f)
 Jo:(lo=hi∧evalL f lo=0)∨(lo<hi∧evalL f lo≠0∧evalL f hi≠0∧cS f lo-cS f hi=1)
def bb(f:List Rat)(lo hi x:Rat):Int:=if lo=hi then fJ lo x else if x≤lo then 1 else if hi≤x then -1 else sg (evalL f x)*sg (evalL f lo)
theorem rZ{p q:Rat}(h:p<q):fJ p q = -1:=by unfold fJ;rw[if_pos h]
theorem r4{p q:Rat}(h:q<p):fJ p q=1:=by unfold fJ;rw[if_neg (by grind),if_neg (by grind)]
theorem jc(p:Rat):fJ p p=0:=eS.2 rfl
theorem eF(p q:Rat):(p<q∧fJ p q = -1)∨(p=q∧fJ p q=0)∨(q<p∧fJ p q=1):=by
 by_cases h1:p<q
 ·exact Or.inl ⟨h1,rZ h1⟩
 ·by_cases h2:q<p
  ·exact Or.inr (Or.inr ⟨h2,r4 h2⟩)
  ·have:p=q:=by grind
   subst this
   exact Or.inr (Or.inl ⟨rfl,jc _⟩)
namespace gi
variable {f:List Rat} {lo hi:Rat}
theorem le(A:gi f lo hi):lo≤hi:=by rcases A.Jo with ⟨h,_⟩|⟨h,_⟩<;>grind
section
variable (A:gi f lo hi) (bh:lo<hi)
include A bh
theorem ends:evalL f lo≠0∧evalL f hi≠0∧cS f lo-cS f hi=1:=by
 rcases A.Jo with ⟨h,_⟩|⟨_,h⟩
 ·subst h;exact absurd bh Rat.lt_irrefl
 ·exact h
theorem Se{x:Rat}(h1:lo≤x)(h2:x≤hi):cS f lo-cS f x=0∨cS f lo-cS f x=1:=by
 have a:=mz A.zf A.f0 A.Dk h1
 have b:=mz A.zf A.f0 A.Dk h2
 have c:=(A.ends bh).2.2
 unfold cS at *
 omega
theorem Ay{x y:Rat}(h:x≤y):cS f lo-cS f x≤cS f lo-cS f y:=by
 have a:=mz A.zf A.f0 A.Dk h
 unfold cS at *
 omega
theorem val{x:Rat}(h1:lo≤x)(h2:x≤hi)(hx:evalL f x≠0):(sg (evalL f x)=sg (evalL f lo)∧cS f lo-cS f x=0)∨(sg (evalL f x) = - sg (evalL f lo)∧cS f lo-cS f x=1):=by
 have a:=A.Se bh h1 h2
 have b:=HP A.zf A.f0 A.Dk (A.ends bh).1 hx
 unfold cS at *
 rcases b with ⟨b1,b2⟩|⟨b1,b2⟩
 ·left;exact⟨b1.symm,by omega⟩
 ·right;exact⟨by omega,by omega⟩
theorem root{x:Rat}(h1:lo≤x)(h2:x≤hi)(hx:evalL f x=0):cS f lo-cS f x=1:=by
 rcases A.Se bh h1 h2 with h|h
 ·have:=pN A.zf A.f0 A.Dk h1 (by unfold cS at h;omega) (A.ends bh).1
  exact absurd hx (this.ne h1 Rat.le_refl)
 ·exact h
theorem HV{x:Rat}(h1:lo≤x)(h:cS f lo-cS f x=0):lH f lo x:=pN A.zf A.f0 A.Dk h1 (by unfold cS at h;omega) (A.ends bh).1
theorem yy{x:Rat}(h1:lo≤x)(h2:x≤hi)(hx:evalL f x≠0)(h:cS f lo-cS f x=1):lH f x hi :=
 pN A.zf A.f0 A.Dk h2 (by have:=(A.ends bh).2.2;unfold cS at *;omega) hx
theorem after{x y:Rat}(h1:lo≤x)(wP:x<y)(h2:y≤hi)(hx:evalL f x=0):evalL f y≠0∧cS f lo-cS f y=1:=by
 have r:=A.root bh h1 (by grind) hx
 have m:=A.Ay bh (Rat.le_of_lt wP)
 have c:=A.Se bh (x:=y) (by grind) h2
 obtain⟨t,t1,t2,t3⟩:=Cc A.Dk hx (δ:=y-x) (by grind) 1 (Or.inl rfl)
 have e:x+1*t=x+t:=by grind
 rw[e] at t3
 have m2:=A.Ay bh (x:=x) (y:=x+t) (by grind)
 have c2:=A.Se bh (x:=x+t) (by grind) (by grind)
 have:=A.yy bh (x:=x+t) (by grind) (by grind) t3 (by omega)
 exact⟨this.ne (by grind) (by grind),by omega⟩
theorem before{x y:Rat}(h1:lo≤x)(wP:x<y)(h2:y≤hi)(hy:evalL f y=0):evalL f x≠0∧cS f lo-cS f x=0:=by
 have hx:evalL f x≠0:=fun e=>(A.after bh h1 wP h2 e).1 hy
 refine⟨hx,?_⟩
 rcases A.Se bh h1 (by grind) with h|h
 ·exact h
 ·have:=A.yy bh h1 (by grind) hx h
  exact absurd hy (this.ne (Rat.le_of_lt wP) h2)
theorem j6{x:Rat}(h1:lo<x)(h2:x<hi):(bb f lo hi x=1∧evalL f x≠0∧cS f lo-cS f x=0)∨(bb f lo hi x=0∧evalL f x=0)∨(bb f lo hi x = -1∧evalL f x≠0∧cS f lo-cS f x=1):=by
 have df:¬lo=hi:=fun e=>by subst e;exact Rat.lt_irrefl bh
 have e:bb f lo hi x=sg (evalL f x)*sg (evalL f lo):=by
  unfold bb
  rw[if_neg df,if_neg (by grind),if_neg (by grind)]
 rw[e]
 have hl:=vx (A.ends bh).1
 by_cases hx:evalL f x=0
 ·right;left
  refine⟨?_,hx⟩
  rw[hx]
  show sg 0*_=0
  rw[show sg 0=0 from jc 0,Int.zero_mul]
 ·rcases A.val bh (Rat.le_of_lt h1) (Rat.le_of_lt h2) hx with ⟨v1,v2⟩|⟨v1,v2⟩
  ·left
   refine⟨?_,hx,v2⟩
   rw[v1]
   rcases hl with k|k<;>rw[k]<;>decide
  ·right;right
   refine⟨?_,hx,v2⟩
   rw[v1]
   rcases hl with k|k<;>rw[k]<;>decide
end
theorem low(A:gi f lo hi)(bh:lo<hi){x:Rat}(h:x≤lo):bb f lo hi x=1:=by
 have df:¬lo=hi:=fun e=>by subst e;exact Rat.lt_irrefl bh
 unfold bb
 rw[if_neg df,if_pos h]
theorem high(A:gi f lo hi)(bh:lo<hi){x:Rat}(h:hi≤x):bb f lo hi x = -1:=by
 have df:¬lo=hi:=fun e=>by subst e;exact Rat.lt_irrefl bh
 unfold bb
 rw[if_neg df,if_neg (by grind),if_pos h]
theorem three(A:gi f lo hi)(x:Rat):bb f lo hi x=1∨bb f lo hi x=0∨bb f lo hi x = -1:=by
 by_cases h:lo=hi
 ·unfold bb
  rw[if_pos h]
  rcases eF lo x with k|k|k<;>simp[k.2]
 ·have bh:lo<hi:=by have:=A.le;grind
  by_cases h1:x≤lo
  ·left;exact A.low bh h1
  ·by_cases h2:hi≤x
   ·right;right;exact A.high bh h2
   ·rcases A.j6 bh (x:=x) (by grind) (by grind) with k|k|k<;>simp[k.1]
theorem mono(A:gi f lo hi){x y:Rat}(wP:x<y)(h:bb f lo hi x≤0):bb f lo hi y = -1:=by
 by_cases he:lo=hi
 ·unfold bb at h ⊢
  rw[if_pos he] at h ⊢
  rcases eF lo x with k|k|k
  ·exact rZ (by grind)
  ·exact rZ (by grind)
  ·omega
 ·have bh:lo<hi:=by have:=A.le;grind
  have PX:lo<x:=by
   by_cases h1:x≤lo
   ·rw[A.low bh h1] at h;omega
   ·grind
  by_cases h2:hi≤y
  ·exact A.high bh h2
  ·have hm:=A.Ay bh (Rat.le_of_lt wP)
   rcases A.j6 bh (x:=x) PX (by grind) with k|k|k
   ·omega
   ·have a:=A.after bh (Rat.le_of_lt PX) wP (by grind) k.2
    rcases A.j6 bh (x:=y) (by grind) (by grind) with m|m|m
    ·omega
    ·exact absurd m.2 a.1
    ·exact m.1
   ·rcases A.j6 bh (x:=y) (by grind) (by grind) with m|m|m
    ·omega
    ·have a:=A.before bh (Rat.le_of_lt PX) wP (by grind) m.2
     omega
    ·exact m.1
theorem lB(A:gi f lo hi){x y:Rat}(wP:x<y)(h:0≤bb f lo hi y):bb f lo hi x=1:=by
 rcases A.three x with k|k|k
 ·exact k
 ·have:=A.mono wP (by omega);omega
 ·have:=A.mono wP (by omega);omega
theorem r5(A:gi f lo hi):0≤bb f lo hi lo:=by
 by_cases he:lo=hi
 ·unfold bb;rw[if_pos he,jc];omega
 ·rw[A.low (by have:=A.le;grind) Rat.le_refl];omega
theorem Az(A:gi f lo hi):bb f lo hi hi≤0:=by
 by_cases he:lo=hi
 ·unfold bb;rw[if_pos he,he,jc];omega
 ·rw[A.high (by have:=A.le;grind) Rat.le_refl];omega
theorem IW(A:gi f lo hi){x:Rat}(h:bb f lo hi x=0):evalL f x=0∧lo≤x∧x≤hi:=by
 by_cases he:lo=hi
 ·unfold bb at h
  rw[if_pos he] at h
  have:=eS.1 h
  subst this
  rcases A.Jo with ⟨_,k⟩|⟨k,_⟩
  ·exact⟨k,Rat.le_refl,A.le⟩
  ·grind
 ·have bh:lo<hi:=by have:=A.le;grind
  by_cases h1:x≤lo
  ·rw[A.low bh h1] at h;omega
  ·by_cases h2:hi≤x
   ·rw[A.high bh h2] at h;omega
   ·rcases A.j6 bh (x:=x) (by grind) (by grind) with k|k|k
    ·omega
    ·exact⟨k.2,by grind,by grind⟩
    ·omega
theorem sub(A:gi f lo hi){u v:Rat}(hu:lo≤u)(hv:v≤hi)(h:(u=v∧bb f lo hi u=0)∨(u<v∧bb f lo hi u=1∧bb f lo hi v = -1)):gi f u v∧∀x,bb f u v x=bb f lo hi x:=by
 rcases h with ⟨rfl,h0⟩|⟨lL,h1,h2⟩
 ·refine⟨⟨A.zf,A.f0,A.Dk,Or.inl ⟨rfl,(A.IW h0).1⟩⟩,fun x => ?_⟩
  have e:bb f u u x=fJ u x:=by unfold bb;rw[if_pos rfl]
  rw[e]
  rcases eF u x with k|k|k
  ·rw[k.2,A.mono k.1 (by omega)]
  ·rw[←k.1,jc,h0]
  ·rw[k.2,A.lB k.1 (by omega)]
 ·have bh:lo<hi:=by grind
  have q1:evalL f u≠0∧cS f lo-cS f u=0:=by
   by_cases e:u=lo
   ·subst e;exact⟨(A.ends bh).1,by omega⟩
   ·rcases A.j6 bh (x:=u) (by grind) (by grind) with k|k|k
    ·exact k.2
    ·omega
    ·omega
  have q2:evalL f v≠0∧cS f lo-cS f v=1:=by
   by_cases e:v=hi
   ·subst e;exact(A.ends bh).2
   ·rcases A.j6 bh (x:=v) (by grind) (by grind) with k|k|k
    ·omega
    ·omega
    ·exact k.2
  have B:gi f u v:=⟨A.zf,A.f0,A.Dk,Or.inr ⟨lL,q1.1,q2.1,by omega⟩⟩
  refine⟨B,fun x => ?_⟩
  by_cases x1:x≤u
  ·rw[B.low lL x1]
   by_cases e:x=u
   ·rw[e,h1]
   ·exact(A.lB (y:=u) (by grind) (by omega)).symm
  ·by_cases x2:v≤x
   ·rw[B.high lL x2]
    by_cases e:x=v
    ·rw[e,h2]
    ·exact(A.mono (x:=v) (by grind) (by omega)).symm
   ·have k:=B.j6 lL (x:=x) (by grind) (by grind)
    have m:=A.j6 bh (x:=x) (by grind) (by grind)
    rcases k with k|k|k<;>rcases m with m|m|m<;>first|(exfalso;exact k.2.1 m.2)|(exfalso;exact m.2.1 k.2)|(exfalso;unfold cS at *;omega)|(rw [k.1,m.1])
end gi
end Go.Proofs.YtllmkadmohkbfaaGreatDoor.Sym
namespace Go.Proofs.YtllmkadmohkbfaaGreatDoor.Sym
set_option linter.unusedVariables false
set_option linter.unusedSectionVars false
namespace gi
variable {f:List Rat} {lo hi:Rat}
theorem r6(A:gi f lo hi){u v:Rat}(hu:bb f lo hi u=1)(hv:bb f lo hi v = -1):u<v:=by
 by_cases h:v<u
 ·have:=A.lB h (by omega);omega
 ·by_cases e:u=v
  ·rw[e] at hu;omega
  ·grind
theorem WK(A:gi f lo hi):bb f lo hi (lo-1)=1∧bb f lo hi (hi+1) = -1 :=
 ⟨A.lB (y:=lo) (by grind) A.r5,A.mono (x:=hi) (by grind) A.Az⟩
theorem M7(A:gi f lo hi){u v δ:Rat}(hu:bb f lo hi u=1)(hv:bb f lo hi v = -1)(hδ:0<δ):∃a b,u≤a∧b≤v∧bb f lo hi a=1∧bb f lo hi b = -1∧b-a≤δ:=by
 have lL:=A.r6 hu hv
 by_cases hz:∃x,bb f lo hi x=0
 ·obtain⟨x,hx⟩:=hz
  have Y5:u<x:=by
   by_cases h:x<u
   ·have:=A.mono h (by omega);omega
   ·by_cases e:u=x
    ·rw[e] at hu;omega
    ·grind
  have Y6:x<v:=by
   by_cases h:v<x
   ·have:=A.lB h (by omega);omega
   ·by_cases e:x=v
    ·rw[←e] at hv;omega
    ·grind
  have Sf:∀a,a<x→bb f lo hi a=1:=fun a h=>A.lB h (by omega)
  have Ol:∀b,x<b→bb f lo hi b = -1:=fun b h=>A.mono h (by omega)
  have hd:0<δ/2:=ir hδ (by decide)
  have Fz:δ/2+δ/2=δ:=by rw[Rat.div_def];have:(2:Rat)*2⁻¹=1:=Rat.mul_inv_cancel 2 (by decide);grind
  by_cases h1:u≤x-δ/2
  ·by_cases h2:x+δ/2≤v
   ·exact⟨_,_,h1,h2,Sf _ (by grind),Ol _ (by grind),by grind⟩
   ·exact⟨_,v,h1,Rat.le_refl,Sf _ (by grind),hv,by grind⟩
  ·by_cases h2:x+δ/2≤v
   ·exact⟨u,_,Rat.le_refl,h2,hu,Ol _ (by grind),by grind⟩
   ·exact⟨u,v,Rat.le_refl,Rat.le_refl,hu,hv,by grind⟩
 ·have TB:∀x,bb f lo hi x=1∨bb f lo hi x = -1:=fun x=>by
   rcases A.three x with k|k|k
   ·exact Or.inl k
   ·exact absurd ⟨x,k⟩ hz
   ·exact Or.inr k
  refine Classical.byContradiction fun Vb => ?_
  have:=wQ (P:=fun s t=>¬(bb f lo hi s=1∧bb f lo hi t = -1)) (a:=u) (b:=v) hδ (Rat.le_of_lt lL)
   (fun s t h1 h2 h3 h4 h=>Vb ⟨s,t,h1,h3,h.1,h.2,h4⟩)
   (fun s t w h1 h2 h3 h4 p q h=>by
    rcases TB t with k|k
    ·exact q ⟨k,h.2⟩
    ·exact p ⟨h.1,k⟩)
  exact this ⟨hu,hv⟩
theorem HW(A:gi f lo hi){u v:Rat}(hu:bb f lo hi u=1)(hv:bb f lo hi v = -1)(h1:lo≤u∨lo=hi)(h2:v≤hi∨lo=hi)(bh:lo<hi):sg (evalL f u) = - sg (evalL f v):=by
 have h1:lo≤u:=by rcases h1 with h|h<;>grind
 have h2:v≤hi:=by rcases h2 with h|h<;>grind
 have q1:evalL f u≠0∧cS f lo-cS f u=0:=by
  by_cases e:u=lo
  ·subst e;exact⟨(A.ends bh).1,by omega⟩
  ·by_cases e2:hi≤u
   ·rw[A.high bh e2] at hu;omega
   ·rcases A.j6 bh (x:=u) (by grind) (by grind) with k|k|k
    ·exact k.2
    ·omega
    ·omega
 have q2:evalL f v≠0∧cS f lo-cS f v=1:=by
  by_cases e:v=hi
  ·subst e;exact(A.ends bh).2
  ·by_cases e2:v≤lo
   ·rw[A.low bh e2] at hv;omega
   ·rcases A.j6 bh (x:=v) (by grind) (by grind) with k|k|k
    ·omega
    ·omega
    ·exact k.2
 have hp:=HP A.zf A.f0 A.Dk q1.1 q2.1
 unfold cS at *
 rcases hp with ⟨_,k⟩|⟨k,_⟩
 ·omega
 ·exact k
end gi
theorem qJ{h:List Rat}{R u v:Rat}(hu:ab u≤R)(hv:ab v≤R)(hs:evalL h u=0∨evalL h v=0∨sg (evalL h u) = - sg (evalL h v)){x:Rat}(h1:u≤x)(h2:x≤v):ab (evalL h x)≤lip h R*(v-u):=by
 have hx:=bK h1 h2 hu hv
 have d1:=oO hx hu h
 have d2:=oO hx hv h
 have hR:0≤R:=Rat.le_trans (bz u) hu
 have hl:=cI hR h
 have w1:ab (x-u)≤v-u:=by rcases a7 (x-u) with k|k<;>grind
 have w2:ab (x-v)≤v-u:=by rcases a7 (x-v) with k|k<;>grind
 have e1:=Rat.mul_le_mul_of_nonneg_left w1 hl
 have e2:=Rat.mul_le_mul_of_nonneg_left w2 hl
 have S9:=bI (evalL h x)
 have WH:=bI (evalL h u)
 have WI:=bI (evalL h v)
 have a1:=a7 (evalL h x-evalL h u)
 have a2:=a7 (evalL h x-evalL h v)
 have a3:=a7 (evalL h x)
 rcases hs with hs|hs|hs
 ·rw[hs] at d1
  have:evalL h x-0=evalL h x:=by grind
  rw[this] at d1
  grind
 ·rw[hs] at d2
  have:evalL h x-0=evalL h x:=by grind
  rw[this] at d2
  grind
 ·rcases WH with k|k|k<;>rcases WI with m|m|m<;>first|(exfalso;have:=k.2;have:=m.2;omega)|skip
  all_goals rcases S9 with n|n|n<;>grind
end Go.Proofs.YtllmkadmohkbfaaGreatDoor.Sym
namespace Go.Proofs.YtllmkadmohkbfaaGreatDoor.Sym
set_option linter.unusedVariables false
set_option linter.unusedSectionVars false
def Zr(f:List Rat)(lo hi:Rat)(p:List Rat):Prop:=∀u v,bb f lo hi u=1→bb f lo hi v = -1→¬lH p u v
theorem Zr.dv{f:List Rat}{lo hi:Rat}{p q:List Rat}(h:Zr f lo hi p)(hd:Dv p q):Zr f lo hi q:=fun u v h1 h2 h3=>h u v h1 h2 (yw h3 hd)
theorem sQ{p:List Rat}{x:Rat}(h:evalL p x≠0):∃δ,0<δ∧lH p (x-δ) (x+δ):=by
 have hR:0≤ab x+1:=by have:=bz x;grind
 obtain⟨t,t1,t2,t3⟩:=nQ (a:=ab (evalL p x)) (b:=2*lip p (ab x+1)) (δ:=1) (uu h) (by have:=cI hR p;grind) (by decide)
 refine⟨t,t1,ab (evalL p x)-t*lip p (ab x+1),by have:=cI hR p;have:=Rat.mul_nonneg (Rat.le_of_lt t1) this;grind,fun y h1 h2 => ?_⟩
 have hy:ab y≤ab x+1:=by
  have:=lz x (y-x)
  have e:x+(y-x)=y:=by grind
  rw[e] at this
  rcases a7 (y-x) with k|k<;>grind
 have hd:=oO (R:=ab x+1) (x:=x) (by grind) hy p
 have wP:ab (x-y)≤t:=by rcases a7 (x-y) with k|k<;>grind
 have h3:=Rat.mul_le_mul_of_nonneg_left wP (cI hR p)
 have h4:=lz (evalL p y) (evalL p x-evalL p y)
 have e:evalL p y+(evalL p x-evalL p y)=evalL p x:=by grind
 rw[e] at h4
 grind
namespace gi
variable {f:List Rat} {lo hi:Rat}
theorem pt(he:lo=hi):bb f lo hi lo≤0:=by unfold bb;rw[if_pos he,jc];omega
theorem inside(A:gi f lo hi)(bh:lo<hi){u v:Rat}(hu:bb f lo hi u=1)(hv:bb f lo hi v = -1):∃a b,u≤a∧b≤v∧lo≤a∧b≤hi∧bb f lo hi a=1∧bb f lo hi b = -1:=by
 by_cases h1:lo≤u
 ·by_cases h2:v≤hi
  ·exact⟨u,v,Rat.le_refl,Rat.le_refl,h1,h2,hu,hv⟩
  ·exact⟨u,hi,Rat.le_refl,by grind,h1,Rat.le_refl,hu,A.high bh Rat.le_refl⟩
 ·by_cases h2:v≤hi
  ·exact⟨lo,v,by grind,Rat.le_refl,Rat.le_refl,h2,A.low bh Rat.le_refl,hv⟩
  ·exact⟨lo,hi,by grind,by grind,Rat.le_refl,Rat.le_refl,A.low bh Rat.le_refl,A.high bh Rat.le_refl⟩
theorem own(A:gi f lo hi):Zr f lo hi f:=fun u v hu hv h=>by
 by_cases he:lo=hi
 ·have hz:evalL f lo=0:=by
   rcases A.Jo with ⟨_,k⟩|⟨k,_⟩
   ·exact k
   ·grind
  have h1:u≤lo:=by
   refine Rat.not_lt.1 fun bh => ?_
   have:=A.mono bh (pt he)
   omega
  have h2:lo≤v:=by
   refine Rat.not_lt.1 fun bh => ?_
   have:=A.lB bh A.r5
   omega
  exact h.ne h1 h2 hz
 ·have bh:lo<hi:=by have:=A.le;grind
  obtain⟨a,b,i1,i2,i3,i4,i5,i6⟩:=A.inside bh hu hv
  have dm:=A.r6 i5 i6
  have hs:=A.HW i5 i6 (Or.inl i3) (Or.inl i4) bh
  have ha:=h.sub i1 i2
  have:=HQ (Rat.le_of_lt dm) ha
  have hn:=vx (ha.ne Rat.le_refl (Rat.le_of_lt dm))
  omega
theorem Vc(A:gi f lo hi)(V:List Rat){u v ε:Rat}(hu:bb f lo hi u=1)(hv:bb f lo hi v = -1)(hε:0<ε):∃a b,u≤a∧b≤v∧bb f lo hi a=1∧bb f lo hi b = -1∧∀x,a≤x→x≤b→ab (evalL V x*evalL f x)<ε:=by
 obtain⟨R,hR,r1,r2⟩:=oP (a:=u) (b:=v)
 have hm:=Rat.mul_nonneg (jb hR V) (cI hR f)
 obtain⟨t,t1,t2,t3⟩:=nQ (a:=ε) (b:=nrm V R*lip f R) (δ:=1) hε hm (by decide)
 have fin:∀a b x,u≤a→b≤v→b-a≤t→a≤x→x≤b→ab (evalL f x)≤lip f R*(b-a)→ab (evalL V x*evalL f x)<ε:=by
  intro a b x h1 h2 h3 h4 h5 h6
  have hx:ab x≤R:=bK (show u≤x by grind) (show x≤v by grind) r1 r2
  have e1:=j8 hx V
  have e2:=Rat.mul_le_mul_of_nonneg_left h3 (cI hR f)
  rw[gh]
  have e3:=cO e1 (Rat.le_trans h6 e2) (bz _) (Rat.mul_nonneg (cI hR f) (Rat.le_of_lt t1))
  grind
 by_cases he:lo=hi
 ·obtain⟨a,b,n1,n2,n3,n4,n5⟩:=A.M7 hu hv t1
  refine⟨a,b,n1,n2,n3,n4,fun x h1 h2=>fin a b x n1 n2 n5 h1 h2 ?_⟩
  have hz:evalL f lo=0:=by
   rcases A.Jo with ⟨_,k⟩|⟨k,_⟩
   ·exact k
   ·grind
  have k1:a≤lo:=by
   refine Rat.not_lt.1 fun bh => ?_
   have:=A.mono bh (pt he)
   omega
  have k2:lo≤b:=by
   refine Rat.not_lt.1 fun bh => ?_
   have:=A.lB bh A.r5
   omega
  have hx:ab x≤R:=bK (show u≤x by grind) (show x≤v by grind) r1 r2
  have Fy:ab lo≤R:=bK (show u≤lo by grind) (show lo≤v by grind) r1 r2
  have hd:=oO hx Fy f
  rw[hz] at hd
  have e:evalL f x-0=evalL f x:=by grind
  rw[e] at hd
  have hw:ab (x-lo)≤b-a:=by rcases a7 (x-lo) with k|k<;>grind
  exact Rat.le_trans hd (Rat.mul_le_mul_of_nonneg_left hw (cI hR f))
 ·have bh:lo<hi:=by have:=A.le;grind
  obtain⟨a0,b0,i1,i2,i3,i4,i5,i6⟩:=A.inside bh hu hv
  obtain⟨a,b,n1,n2,n3,n4,n5⟩:=A.M7 i5 i6 t1
  refine⟨a,b,by grind,by grind,n3,n4,fun x h1 h2=>fin a b x (by grind) (by grind) n5 h1 h2 ?_⟩
  have hs:=A.HW n3 n4 (Or.inl (by grind)) (Or.inl (by grind)) bh
  have dm:=A.r6 n3 n4
  exact qJ (bK (show u≤a by grind) (show a≤v by grind) r1 r2) (bK (show u≤b by grind) (show b≤v by grind) r1 r2) (Or.inr (Or.inr hs)) h1 h2
theorem comb(A:gi f lo hi){p g U V:List Rat}(hg:∀x,evalL g x=evalL U x*evalL p x+evalL V x*evalL f x)(hp:Zr f lo hi p):Zr f lo hi g:=fun u v hu hv h=>by
 obtain⟨c,c0,hc⟩:=h
 have AV:0<c/2:=ir c0 (by decide)
 have PU:c/2+c/2=c:=by rw[Rat.div_def];have:(2:Rat)*2⁻¹=1:=Rat.mul_inv_cancel 2 (by decide);grind
 obtain⟨a,b,n1,n2,n3,n4,n5⟩:=A.Vc V hu hv AV
 have dm:=A.r6 n3 n4
 obtain⟨R,hR,r1,r2⟩:=oP (a:=a) (b:=b)
 have hN:0<nrm U R+1:=by have:=jb hR U;grind
 refine hp a b n3 n4 ⟨c/2/(nrm U R+1),ir AV hN,fun x h1 h2 => ?_⟩
 have e1:=hc x (by grind) (by grind)
 have e2:=n5 x h1 h2
 rw[hg x] at e1
 have e3:=lz (evalL U x*evalL p x) (evalL V x*evalL f x)
 have e4:c/2≤ab (evalL U x*evalL p x):=by grind
 rw[gh] at e4
 have hx:ab x≤R:=bK h1 h2 r1 r2
 have e5:=Rat.mul_le_mul_of_nonneg_right (show ab (evalL U x)≤nrm U R+1 by have:=j8 hx U;grind) (bz (evalL p x))
 refine Rat.not_lt.1 fun bh => ?_
 have e6:=Rat.mul_lt_mul_of_pos_left bh hN
 have e7:(nrm U R+1)*(c/2/(nrm U R+1))=c/2:=by rw[Rat.mul_comm];exact Rat.div_mul_cancel (by grind)
 rw[e7] at e6
 grind
theorem GK(A:gi f lo hi){p:List Rat}(zp:aK p=false):Zr f lo hi p↔Zr f lo hi (bX p f):=by
 obtain⟨U,V,h⟩:=vv p f zp A.zf
 exact⟨A.comb h,fun hg=>hg.dv (j7 p f zp A.zf).1⟩
theorem HX(A:gi f lo hi){x:Rat}(h:bb f lo hi x=1):∃y,x<y∧bb f lo hi y=1:=by
 by_cases he:lo=hi
 ·have hx:x<lo:=by
   unfold bb at h
   rw[if_pos he] at h
   rcases eF lo x with k|k|k
   ·omega
   ·omega
   ·exact k.1
  obtain⟨t,t1,t2,t3⟩:=nQ (a:=lo-x) (b:=1) (δ:=1) (by grind) (by decide) (by decide)
  exact⟨x+t,by grind,A.lB (y:=lo) (by grind) A.r5⟩
 ·have bh:lo<hi:=by have:=A.le;grind
  by_cases hx:x<lo
  ·exact⟨lo,hx,A.low bh Rat.le_refl⟩
  ·have q:evalL f x≠0∧cS f lo-cS f x=0∧x<hi:=by
    by_cases e:x=lo
    ·subst e;exact⟨(A.ends bh).1,by omega,bh⟩
    ·by_cases e2:hi≤x
     ·rw[A.high bh e2] at h;omega
     ·rcases A.j6 bh (x:=x) (by grind) (by grind) with k|k|k
      ·exact⟨k.2.1,k.2.2,by grind⟩
      ·omega
      ·omega
   obtain⟨δ,d0,hd⟩:=sQ q.1
   obtain⟨t,t1,t2,t3⟩:=nQ (a:=hi-x) (b:=1) (δ:=δ) (by grind) (by decide) d0
   have hk:=vw A.zf A.f0 A.Dk (show x≤x+t by grind) (hd.sub (by grind) (by grind))
   refine⟨x+t,by grind,?_⟩
   rcases A.j6 bh (x:=x+t) (by grind) (by grind) with k|k|k
   ·exact k.1
   ·have:=hd.ne (x:=x+t) (by grind) (by grind);exact absurd k.2 this
   ·have:=k.2.2;unfold cS at *;omega
theorem Nl(A:gi f lo hi){x:Rat}(h:bb f lo hi x = -1):∃y,y<x∧bb f lo hi y = -1:=by
 by_cases he:lo=hi
 ·have hx:lo<x:=by
   unfold bb at h
   rw[if_pos he] at h
   rcases eF lo x with k|k|k
   ·exact k.1
   ·omega
   ·omega
  obtain⟨t,t1,t2,t3⟩:=nQ (a:=x-lo) (b:=1) (δ:=1) (by grind) (by decide) (by decide)
  exact⟨x-t,by grind,A.mono (x:=lo) (by grind) (pt he)⟩
 ·have bh:lo<hi:=by have:=A.le;grind
  by_cases hx:hi<x
  ·exact⟨hi,hx,A.high bh Rat.le_refl⟩
  ·have q:evalL f x≠0∧cS f lo-cS f x=1∧lo<x:=by
    by_cases e:x=hi
    ·subst e;exact⟨(A.ends bh).2.1,(A.ends bh).2.2,bh⟩
    ·by_cases e2:x≤lo
     ·rw[A.low bh e2] at h;omega
     ·rcases A.j6 bh (x:=x) (by grind) (by grind) with k|k|k
      ·omega
      ·omega
      ·exact⟨k.2.1,k.2.2,by grind⟩
   obtain⟨δ,d0,hd⟩:=sQ q.1
   obtain⟨t,t1,t2,t3⟩:=nQ (a:=x-lo) (b:=1) (δ:=δ) (by grind) (by decide) d0
   have hk:=vw A.zf A.f0 A.Dk (show x-t≤x by grind) (hd.sub (by grind) (by grind))
   refine⟨x-t,by grind,?_⟩
   rcases A.j6 bh (x:=x-t) (by grind) (by grind) with k|k|k
   ·have:=k.2.2;unfold cS at *;omega
   ·have:=hd.ne (x:=x-t) (by grind) (by grind);exact absurd k.2 this
   ·exact k.1
theorem wS(A:gi f lo hi){x:Rat}(hx:bb f lo hi x=0){p:List Rat} : Zr f lo hi p↔evalL p x=0:=by
 constructor
 ·intro h
  refine Classical.byContradiction fun df => ?_
  obtain⟨δ,d0,hd⟩:=sQ df
  exact h _ _ (A.lB (y:=x) (by grind) (by omega)) (A.mono (x:=x) (by grind) (by omega)) hd
 ·intro h u v hu hv ha
  have h1:u≤x:=by
   refine Rat.not_lt.1 fun bh => ?_
   have:=A.mono bh (by omega);omega
  have h2:x≤v:=by
   refine Rat.not_lt.1 fun bh => ?_
   have:=A.lB bh (by omega);omega
  exact ha.ne h1 h2 h
end gi
def AX(f:List Rat)(lo hi:Rat)(g:List Rat)(lo' hi':Rat):Prop:=∃x,bb f lo hi x = -1∧bb g lo' hi' x=1
def GL(f:List Rat)(lo hi:Rat)(g:List Rat)(lo' hi':Rat):Prop:=∀x,bb f lo hi x=bb g lo' hi' x
section
variable {f g:List Rat} {lo hi lo' hi':Rat}
theorem mZ(A:gi f lo hi)(B:gi g lo' hi')(h:AX f lo hi g lo' hi'):¬GL f lo hi g lo' hi':=fun e=>by
 obtain⟨x,h1,h2⟩:=h
 rw[e x] at h1;omega
theorem vA(A:gi f lo hi)(B:gi g lo' hi')(h:AX f lo hi g lo' hi'):¬AX g lo' hi' f lo hi:=fun k=>by
 obtain⟨x,h1,h2⟩:=h
 obtain⟨y,k1,k2⟩:=k
 have a:=A.r6 k2 h1
 have b:=B.r6 h2 k1
 grind
theorem Lf(A:gi f lo hi)(B:gi g lo' hi'){x:Rat}(h:bb f lo hi x<bb g lo' hi' x):AX f lo hi g lo' hi':=by
 rcases A.three x with k|k|k
 ·rcases B.three x with m|m|m<;>omega
 ·rcases B.three x with m|m|m
  ·obtain⟨y,h1,h2⟩:=B.HX m
   exact⟨y,A.mono h1 (by omega),h2⟩
  ·omega
  ·omega
 ·rcases B.three x with m|m|m
  ·exact⟨x,k,m⟩
  ·obtain⟨y,h1,h2⟩:=A.Nl k
   exact⟨y,h2,B.lB h1 (by omega)⟩
  ·omega
theorem Ta(A:gi f lo hi)(B:gi g lo' hi'):AX f lo hi g lo' hi'∨GL f lo hi g lo' hi'∨AX g lo' hi' f lo hi:=by
 by_cases h:GL f lo hi g lo' hi'
 ·exact Or.inr (Or.inl h)
 ·obtain⟨x,hx⟩:∃x,bb f lo hi x≠bb g lo' hi' x:=Classical.byContradiction fun Vb=>h (fun x=>Classical.byContradiction fun hx=>Vb ⟨x,hx⟩)
  by_cases bh:bb f lo hi x<bb g lo' hi' x
  ·exact Or.inl (Lf A B bh)
  ·exact Or.inr (Or.inr (Lf B A (x:=x) (by omega)))
theorem Nn(A:gi f lo hi)(B:gi g lo' hi'):GL f lo hi g lo' hi'↔(Zr f lo hi g∧0≤bb f lo hi lo'∧bb f lo hi hi'≤0):=by
 constructor
 ·intro e
  refine⟨fun u v h1 h2=>B.own u v (by rw[←e u];exact h1) (by rw[←e v];exact h2),by rw[e];exact B.r5,by rw[e];exact B.Az⟩
 ·rintro ⟨hz,h1,h2⟩
  by_cases he:lo'=hi'
  ·have h0:bb f lo hi lo'=0:=by rw[←he] at h2;omega
   intro x
   unfold bb
   rw[if_pos he]
   change bb f lo hi x=_
   rcases eF lo' x with k|k|k
   ·rw[k.2];exact A.mono k.1 (by omega)
   ·rw[k.2,←k.1];exact h0
   ·rw[k.2];exact A.lB k.1 (by omega)
  ·have bh:lo'<hi':=by have:=B.le;grind
   have E:=B.ends bh
   have l1:bb f lo hi lo'=1:=by
    rcases A.three lo' with k|k|k
    ·exact k
    ·exact absurd ((A.wS k).1 hz) E.1
    ·omega
   have l2:bb f lo hi hi' = -1:=by
    rcases A.three hi' with k|k|k
    ·omega
    ·exact absurd ((A.wS k).1 hz) E.2.1
    ·exact k
   rcases Ta A B with h|h|h
   ·exfalso
    obtain⟨x,k1,k2⟩:=h
    by_cases e:x≤lo'
    ·have:=A.r6 l1 k1;grind
    ·by_cases e2:hi'≤x
     ·rw[B.high bh e2] at k2;omega
     ·rcases B.j6 bh (x:=x) (by grind) (by grind) with m|m|m
      ·exact hz lo' x l1 k1 (B.HV bh (by grind) m.2.2)
      ·omega
      ·omega
   ·exact h
   ·exfalso
    obtain⟨x,k1,k2⟩:=h
    by_cases e:x≤lo'
    ·rw[B.low bh e] at k1;omega
    ·by_cases e2:hi'≤x
     ·have:=A.r6 k2 l2;grind
     ·rcases B.j6 bh (x:=x) (by grind) (by grind) with m|m|m
      ·omega
      ·omega
      ·exact hz x hi' k2 l2 (B.yy bh (by grind) (by grind) m.2.1 m.2.2)
end
end Go.Proofs.YtllmkadmohkbfaaGreatDoor.Sym
namespace Go.Proofs.YtllmkadmohkbfaaGreatDoor.Sym
set_option linter.unusedVariables false
set_option linter.unusedSectionVars false
namespace gi
variable {f:List Rat} {lo hi:Rat}
theorem Vd(A:gi f lo hi)(bh:lo<hi){u:Rat}(h1:lo≤u)(hu:bb f lo hi u=1):evalL f u≠0∧cS f lo-cS f u=0:=by
 by_cases e:u=lo
 ·subst e;exact⟨(A.ends bh).1,by omega⟩
 ·by_cases e2:hi≤u
  ·rw[A.high bh e2] at hu;omega
  ·rcases A.j6 bh (x:=u) (by grind) (by grind) with k|k|k
   ·exact k.2
   ·omega
   ·omega
theorem Sg(A:gi f lo hi)(bh:lo<hi){v:Rat}(h2:v≤hi)(hv:bb f lo hi v = -1):evalL f v≠0∧cS f lo-cS f v=1:=by
 by_cases e:v=hi
 ·subst e;exact(A.ends bh).2
 ·by_cases e2:v≤lo
  ·rw[A.low bh e2] at hv;omega
  ·rcases A.j6 bh (x:=v) (by grind) (by grind) with k|k|k
   ·omega
   ·omega
   ·exact k.2
theorem Lg(A:gi f lo hi)(bh:lo<hi){g:List Rat}(zg:aK g=false)(g0:g≠[])(hd:Dv g f):(0<fK (bL g) lo-fK (bL g) hi)↔Zr f lo hi g:=by
 obtain⟨G1,G2,G3,G4,k, -,G5⟩:=free_spec zg g0
 have E:=A.ends bh
 have Ve:Dv (bx g) f:=G4.trans hd
 have df:∀x,evalL f x≠0→evalL (bx g) x≠0:=fun x hx e=>by
  obtain⟨u,hu⟩:=Ve
  exact hx (by rw[hu x,e];grind)
 have zz:Zr f lo hi g↔Zr f lo hi (bx g):=by
  constructor
  ·intro h u v h1 h2 h3
   exact(h.dv G5) u v h1 h2 (As h3 k)
  ·intro h
   exact h.dv G4
 have By:=mz G1 G2 G3 (Rat.le_of_lt bh)
 change (0<cS (bx g) lo-cS (bx g) hi)↔_
 rw[zz]
 constructor
 ·intro hc u v hu hv ha
  obtain⟨a,b,i1,i2,i3,i4,i5,i6⟩:=A.inside bh hu hv
  have dm:=A.r6 i5 i6
  have l:=A.Vd bh i3 i5
  have r:=A.Sg bh i4 i6
  have w1:=yw (A.HV bh i3 l.2) Ve
  have w2:=yw (A.yy bh (by grind) i4 r.1 r.2) Ve
  have w3:=ha.sub i1 i2
  have hk:=vw G1 G2 G3 (Rat.le_of_lt bh) ((w1.join w3).join w2)
  unfold cS at hc
  omega
 ·intro hz
  refine Classical.byContradiction fun hc => ?_
  exact hz lo hi (A.low bh Rat.le_refl) (A.high bh Rat.le_refl) (pN G1 G2 G3 (Rat.le_of_lt bh) (by unfold cS at hc;omega) (df _ E.1))
theorem uw(A:gi f lo hi)(p:List Rat)(zp:aK p=false):bX p f≠[]:=pM (kB _ _ _ zp A.zf) (yr _ _ _ (Or.inr ⟨A.f0,by omega⟩))
theorem Lh(A:gi f lo hi){g:List Rat}(zg:aK g=false)(g0:g≠[])(hl:g.length<2):¬Zr f lo hi g:=fun h=>by
 have:=List.length_pos_iff.2 g0
 obtain⟨c,rfl⟩:∃c,g=[c]:=List.length_eq_one_iff.1 (by omega)
 have hc:c≠0:=cz zg g0
 exact h _ _ A.WK.1 A.WK.2 ⟨ab c,uu hc,fun x _ _=>by rw[dp];exact Rat.le_refl⟩
end gi
def IX(p f:List Rat)(lo hi:Rat):Bool :=
 if p.length=0 then true else if (bX p f).length<2 then false else if lo=hi then decide (evalL (bX p f) lo=0) else decide (0<fK (bL (bX p f)) lo-fK (bL (bX p f)) hi)
theorem No{f:List Rat}{lo hi:Rat}(A:gi f lo hi):Zr f lo hi []:=fun u v hu hv ⟨c,c0,h⟩=>by
 have:=h u Rat.le_refl (Rat.le_of_lt (A.r6 hu hv))
 change c≤ab 0 at this
 rw[oN] at this
 grind
theorem E9{f:List Rat}{lo hi:Rat}(he:lo=hi):bb f lo hi lo=0:=by unfold bb;rw[if_pos he,jc]
theorem Lj{f:List Rat}{lo hi:Rat}(A:gi f lo hi){p:List Rat}(zp:aK p=false):IX p f lo hi=true↔Zr f lo hi p:=by
 unfold IX
 by_cases h0:p.length=0
 ·rw[if_pos h0,List.eq_nil_of_length_eq_zero h0]
  exact⟨fun _=>No A,fun _=>rfl⟩
 ·rw[if_neg h0]
  have AW:=A.uw p zp
  have zg:=eE p f
  by_cases h2:(bX p f).length<2
  ·rw[if_pos h2]
   refine⟨fun h=>absurd h (by decide),fun h => ?_⟩
   exact absurd ((A.GK zp).1 h) (A.Lh zg AW h2)
  ·rw[if_neg h2]
   by_cases he:lo=hi
   ·rw[if_pos he,decide_eq_true_iff,A.GK zp,A.wS (E9 he)]
   ·rw[if_neg he,decide_eq_true_iff,A.GK zp,A.Lg (by have:=A.le;grind) zg AW (j7 p f zp A.zf).2]
def midQ(lo hi:Rat):Rat:=Rat.divInt 1 2*(lo+hi)
def iu(f:List Rat)(lo hi:Rat):Rat×Rat :=
 if lo=hi then (lo,hi) else if bb f lo hi (midQ lo hi)=0 then (midQ lo hi,midQ lo hi) else if bb f lo hi (midQ lo hi)=1 then (midQ lo hi,hi) else (lo,midQ lo hi)
theorem Dr(lo hi:Rat):midQ lo hi+midQ lo hi=lo+hi:=by
 unfold midQ
 have:Rat.divInt 1 2+Rat.divInt 1 2=1:=by decide +kernel
 grind
theorem pO{f:List Rat}{lo hi:Rat}(A:gi f lo hi):gi f (iu f lo hi).1 (iu f lo hi).2∧(∀x,bb f (iu f lo hi).1 (iu f lo hi).2 x=bb f lo hi x)∧lo≤(iu f lo hi).1∧(iu f lo hi).2≤hi∧((iu f lo hi).2-(iu f lo hi).1)+((iu f lo hi).2-(iu f lo hi).1)≤hi-lo:=by
 have hle:=A.le
 have hm:=Dr lo hi
 unfold iu
 by_cases he:lo=hi
 ·rw[if_pos he]
  exact⟨A,fun _=>rfl,Rat.le_refl,Rat.le_refl,by subst he;grind⟩
 ·have bh:lo<hi:=by grind
  rw[if_neg he]
  generalize midQ lo hi=m at *
  rcases A.three m with k|k|k
  ·rw[if_neg (by omega),if_pos k]
   obtain⟨s1,s2⟩:=A.sub (u:=m) (v:=hi) (by grind) Rat.le_refl (Or.inr ⟨by grind,k,A.high bh Rat.le_refl⟩)
   exact⟨s1,s2,by grind,Rat.le_refl,by grind⟩
  ·rw[if_pos k]
   obtain⟨s1,s2⟩:=A.sub (u:=m) (v:=m) (by grind) (by grind) (Or.inl ⟨rfl,k⟩)
   exact⟨s1,s2,by grind,by grind,by grind⟩
  ·rw[if_neg (by omega),if_neg (by omega)]
   obtain⟨s1,s2⟩:=A.sub (u:=lo) (v:=m) Rat.le_refl (by grind) (Or.inr ⟨by grind,A.low bh Rat.le_refl,k⟩)
   exact⟨s1,s2,Rat.le_refl,by grind,by grind⟩
end Go.Proofs.YtllmkadmohkbfaaGreatDoor.Sym
namespace Go.Proofs.YtllmkadmohkbfaaGreatDoor.Sym
open Go Path bN
set_option linter.unusedVariables false
abbrev pq(q:List Rat):PV:=ae (q.map aN)
theorem getM{q:List Rat}{n:Nat}{v:Rat}(h:q[n]? = some v):(q.map aN)[n]? = some (aN v):=by rw[List.getElem?_map,h];rfl
theorem bF(q:List Rat):(q.map aN).length=q.length:=List.length_map ..
theorem r7{k:Nat}{q:List Rat}(h:Fl k q)(hk:k≤68719476736):kr 274877906944 (q.map aN):=Dc (fg h (by omega))
def x8(p q:List af):Int:=if oJ p=0 then oJ q else oJ p
theorem vC{m t:Nat}{f g:Nat→Rat}{v:Rat}(ht:t<m)(hv:f t=v)(ho:∀i,i≠t→f i=g i):((jV m g).map aN).set t (aN v)=(jV m f).map aN:=by
 rw[←List.map_set,KX g v ht]
 congr 1
 refine GF (fun i _ => ?_)
 split
 ·rename_i e;rw[e,hv]
 ·rename_i e;exact(ho i e).symm
namespace yz
theorem Trim{k:Nat}(q:List Rat)(hl:q.length≤1000000)(hf:Fl k q)(hk:k≤68719476736):Cp 182 [pq q] (pq (aJ q)):=by
 have:=FF.Trim (q.map aN) (by rw[bF];omega) (r7 hf hk)
 rwa[dN] at this
theorem xH(p:List Rat)(t:Nat):Cp 212 [pq p,vI (t:Int)] (aN (coef p t)).pv:=by
 by_cases h:t<p.length
 ·exact lY.e0 _ _ t _ (by rw[bF];omega) rfl (getM (nO h))
 ·rw[cL (by omega)]
  exact lY.e1 _ _ (by rw[bF];omega)
theorem plus{a b d:Nat}(p q:List Rat)(c:Rat)(PY:p.length≤100000)(Vf:q.length≤100000)(hp:Fl a p)(hq:Fl b q)(hc:ht c≤d)(ha:1≤a)(hb:1≤b)(hk:a+b+d+1≤68719476736):Cp 127 [pq p,pq q,(aN c).pv] (pq (aJ (cM p (a6 c q)))):=by
 have AA:∀i,ht (coef p i)≤a∧ht (coef q i)≤b:=fun i=>⟨sM hp ha i,sM hq hb i⟩
 have Iu:max (p.map aN).length (q.map aN).length=max p.length q.length:=by rw[bF,bF]
 have loop:∀(j t:Nat),max p.length q.length-t=j→pI.ah (p.map aN) (q.map aN) t (aN c) ((jV (max p.length q.length) (fun i=>if i<t then coef p i+c*coef q i else 0)).map aN) (pq (aJ (cM p (a6 c q)))):=by
  intro j
  induction j with
  |zero =>
   intro t hj
   have e:aJ (cM p (a6 c q))=aJ (jV (max p.length q.length) (fun i=>if i<t then coef p i+c*coef q i else 0)):=by
    refine js (fun i => ?_)
    rw[ft,ck]
    by_cases hi:i<max p.length q.length
    ·rw[l7 (fX _ hi),if_pos (by omega)]
    ·rw[cL (p:=jV _ _) (by rw[cK];omega),cL (p:=p) (by omega),cL (p:=q) (by omega)];grind
   rw[e]
   refine pI.cV _ _ t _ _ _ (by omega) (by rw[Iu,bF,cK]) (Trim (k:=a+b+d+1) _ (by rw[cK];omega) (kt (fun i => ?_)) hk)
   obtain⟨c1,c2⟩:=AA i
   have h1:=ll c (coef q i)
   have h2:=rM (coef p i) (c*coef q i)
   have h0:=jo
   by_cases hi:i<max p.length q.length
   ·rw[l7 (fX _ hi),if_pos (by omega)];omega
   ·rw[cL (p:=jV _ _) (by rw[cK];omega),h0];omega
  |succ j ih =>
   intro t hj
   obtain⟨c1,c2⟩:=AA t
   have h1:=ll c (coef q t)
   refine pI.l10 _ _ t _ _ _ _ _ _ (by omega) (xH p t) (xH q t) (QF.Mul c (coef q t) (by omega) (by omega)) (QF.Add (coef p t) (c*coef q t) (by omega) (by omega)) (by rw[bF,cK];omega) (by omega) ?_
   rw[vC (f:=fun i=>if i<t+1 then coef p i+c*coef q i else 0) (by omega) (if_pos (by omega)) (fun i hi=>by
    by_cases h:i<t
    ·rw[if_pos h,if_pos (by omega)]
    ·rw[if_neg h,if_neg (by omega)])]
   exact ih (t+1) (by omega)
 have:=loop _ 0 rfl
 refine pI.e0 _ _ _ (by omega) ?_
 rw[Iu,B0]
 exact this
theorem sR(p q:List af)(hp:kr 274877906944 p)(hq:kr 274877906944 q):Cp 125 [cT (aC af.cells) [p,q]] (bc (ET (x8 p q))):=by
 have h1:=FF.Check p hp
 have h2:=FF.Check q hq
 refine iV.e0 [p,q] ?_
 unfold x8
 by_cases e:oJ p=0
 ·rw[if_pos e]
  rw[e] at h1
  refine iV.l10 _ 0 p (by simp) rfl h1 (by omega) ?_
  by_cases e2:oJ q=0
  ·rw[e2] at h2 ⊢
   exact iV.l10 _ 1 q (by simp) rfl h2 (by omega) (iV.kI _ 2 (by simp))
  ·rw[rQ e2] at h2 ⊢
   exact iV.cV _ 1 q _ (by simp) rfl h2
 ·rw[if_neg e]
  rw[rQ e] at h1 ⊢
  exact iV.cV _ 0 p _ (by simp) rfl h1
end yz
end Go.Proofs.YtllmkadmohkbfaaGreatDoor.Sym
namespace Go.Proofs.YtllmkadmohkbfaaGreatDoor.Sym
open Go Path bN
set_option linter.unusedVariables false
namespace Bl
theorem Trim{k:Nat}(q:List Rat)(hl:q.length≤1000000)(hf:Fl k q)(hk:k≤68719476736):Cp 106 [pq q] (pq (aJ q)):=by
 have:=Jm.Trim (q.map aN) (by rw[bF];omega) (r7 hf hk)
 rwa[dN] at this
theorem plus{a b d:Nat}(p q:List Rat)(c:Rat)(s:Nat)(PY:p.length≤100000)(Vf:q.length+s≤100000)(hp:Fl a p)(hq:Fl b q)(hc:ht c≤d)(ha:1≤a)(hb:1≤b)(hk:a+b+d+1≤68719476736):Cp 244 [pq p,pq q,(aN c).pv,vI (s:Int)] (pq (aJ (cM p (eA s (a6 c q))))):=by
 have AA:∀i,ht (coef p i)≤a∧ht (coef q i)≤b:=fun i=>⟨sM hp ha i,sM hq hb i⟩
 have bd:∀i j,ht (coef p i+c*coef q j)≤a+b+d+1:=by
  intro i j
  have c1:=(AA i).1
  have c2:=(AA j).2
  have h1:=ll c (coef q j)
  have h2:=rM (coef p i) (c*coef q j)
  omega
 have loop:∀(j t:Nat),q.length-t=j→t≤q.length→fF.ah (s:Int) (max p.length (q.length+s)) (q.map aN) t (aN c) ((jV (max p.length (q.length+s)) (fun i=>if s≤i∧i<s+t then coef p i+c*coef q (i-s) else coef p i)).map aN) (pq (aJ (cM p (eA s (a6 c q))))):=by
  intro j
  induction j with
  |zero =>
   intro t hj ht
   have e:aJ (cM p (eA s (a6 c q)))=aJ (jV (max p.length (q.length+s)) (fun i=>if s≤i∧i<s+t then coef p i+c*coef q (i-s) else coef p i)):=by
    refine js (fun i => ?_)
    rw[ft,iY,ck]
    by_cases hi:i<max p.length (q.length+s)
    ·rw[l7 (fX _ hi)]
     by_cases h1:i<s
     ·rw[if_pos h1,if_neg (by omega),Rat.add_zero]
     ·rw[if_neg h1]
      by_cases h2:i<s+t
      ·rw[if_pos (by omega)]
      ·rw[if_neg (by omega),cL (p:=q) (by omega),Rat.mul_zero,Rat.add_zero]
    ·rw[cL (p:=jV _ _) (by rw[cK];omega),cL (p:=p) (by omega),if_neg (by omega),cL (p:=q) (by omega)];grind
   rw[e]
   refine fF.cV _ _ _ t _ _ _ (by rw[bF];omega) (by rw[bF,cK]) (Trim (k:=a+b+d+1) _ (by rw[cK];omega) (kt (fun i => ?_)) hk)
   have h0:=jo
   by_cases hi:i<max p.length (q.length+s)
   ·rw[l7 (fX _ hi)]
    split
    ·exact bd _ _
    ·have:=(AA i).1;omega
   ·rw[cL (p:=jV _ _) (by rw[cK];omega),h0];omega
  |succ j ih =>
   intro t hj ht
   obtain⟨w,hw⟩:∃w,q[t]? = some w:=⟨_,List.getElem?_eq_getElem (by omega)⟩
   have Y7:=hq w (List.mem_of_getElem? hw)
   have c1:=(AA (t+s)).1
   have h1:=ll c w
   have hg:t+s<max p.length (q.length+s):=by omega
   refine fF.l10 _ _ _ t _ _ (aN w) (t+s) (aN (coef p (t+s))) _ _ (t+s) (by rw[bF];omega) (getM hw) (by unfold ax;omega) (by omega) hg ?_ (QR.Mul c w (by omega) (by omega)) (QR.Add (coef p (t+s)) (c*w) (by omega) (by omega)) (by omega) hg (by rw[bF,cK];omega) (by omega) ?_
   ·rw[getM (fX _ hg),if_neg (by omega)]
   ·rw[vC (f:=fun i=>if s≤i∧i<s+(t+1) then coef p i+c*coef q (i-s) else coef p i) hg (by
     rw[if_pos (by omega),show t+s-s=t from by omega,l7 hw]) (fun i hi=>by
     by_cases h:s≤i∧i<s+t
     ·rw[if_pos h,if_pos (by omega)]
     ·rw[if_neg h,if_neg (by omega)])]
    exact ih (t+1) (by omega) (by omega)
 have:=loop _ 0 rfl (by omega)
 have aI:(p.map aN).take (min (p.map aN).length (max p.length (q.length+s)))++(List.replicate (max p.length (q.length+s)) (⟨false,[],[]⟩:af)).drop (min (p.map aN).length (max p.length (q.length+s)))=(jV (max p.length (q.length+s)) (fun i=>if s≤i∧i<s+0 then coef p i+c*coef q (i-s) else coef p i)).map aN:=by
  rw[bF,Nat.min_eq_left (by omega),List.take_of_length_le (by rw[bF];omega)]
  refine List.ext_getElem? fun i => ?_
  by_cases hi:i<max p.length (q.length+s)
  ·rw[getM (fX _ hi),if_neg (by omega)]
   by_cases h2:i<p.length
   ·rw[List.getElem?_append_left (by rw[bF];exact h2),getM (nO h2)]
   ·rw[List.getElem?_append_right (by rw[bF];omega),List.getElem?_drop,List.getElem?_replicate,bF,if_pos (by omega),cL (by omega)];rfl
  ·rw[List.getElem?_eq_none (by rw[List.length_append,bF,List.length_drop,List.length_replicate];omega),List.getElem?_eq_none (by rw[bF,cK];omega)]
 refine fF.e0 _ _ _ _ (max p.length (q.length+s)) (by rw[bF];unfold ax;omega) (by rw[bF,bF];omega) (by omega) (by rw[bF,List.length_replicate];omega) ?_
 rw[aI]
 exact this
theorem both(p q:List af)(hp:kr 274877906944 p)(hq:kr 274877906944 q):Cp 167 [ae p,ae q] (vI (x8 p q)):=by
 have h1:=Jm.Check p hp
 have h2:=Jm.Check q hq
 unfold x8
 by_cases e:oJ p=0
 ·rw[if_pos e]
  exact ks.e1 _ _ _ _ h1 e h2
 ·rw[if_neg e]
  exact ks.e0 _ _ _ h1 e
end Bl
end Go.Proofs.YtllmkadmohkbfaaGreatDoor.Sym
namespace Go.Proofs.YtllmkadmohkbfaaGreatDoor.Sym
open Go Path bN
set_option linter.unusedVariables false
theorem getTop{q:List Rat}(h:q≠[]):q[q.length-1]? = some (bS q):=nO (by have:=List.length_pos_iff.2 h;omega)
theorem wT{h:Nat}{q:List Rat}(hq:Ch h q)(h1:1≤h):ht (bS q)≤h:=by have:=hq.ht (q.length-1);unfold bS;omega
namespace yz
theorem PZ:∀(n:Nat) (q:List Rat),q.length=n→n<4611686018427387904→Fl 274877906944 q→hJ.bA (q.map aN) [] (.row 0 0 ((aJ q).map aN).length 3) [(0,(.pure (((aJ q).map aN).map af.cells).flatten))]:=by
 intro n
 induction n with
 |zero =>
  intro q hq _ _
  have:q=[]:=List.eq_nil_of_length_eq_zero hq
  subst this
  exact hJ.Kt [] rfl rfl (by simp)
 |succ n ih =>
  intro q hq hb hf
  obtain⟨v,hv⟩:∃v,q[n]? = some v:=⟨_,List.getElem?_eq_getElem (by omega)⟩
  have hs:=Db hv hq
  have hm:(q.map aN)[n]? = some (aN v):=by rw[List.getElem?_map,hv];rfl
  have zZ:=hf v (List.mem_of_getElem? hv)
  have sg:=rO.Sign (aN v) (gY zZ)
  rw[bB] at sg
  have hl:(q.map aN).length=n+1:=by rw[List.length_map];exact hq
  by_cases h0:v=0
  ·have e:aJ q=aJ (q.take n):=by
    conv=>lhs;rw[hs,h0,qA]
   rw[e]
   refine hJ.yj (q.map aN) n (aN v) _ n rfl (by omega) (by unfold ax;omega) (by omega) (by omega) hm sg (eS.2 h0) (by omega) (by omega) ?_
   have:=ih (q.take n) (by rw[List.length_take];omega) (by omega) (fun x hx=>hf x (List.mem_of_mem_take hx))
   rwa[List.map_take] at this
  ·have e:aJ q=q:=by rw[hs,vn h0]
   rw[e]
   exact hJ.Be (q.map aN) n (aN v) _ rfl rfl (by omega) (by unfold ax;omega) (by omega) (by omega) hm sg (fun e=>h0 (eS.1 e))
theorem Om{k:Nat}(q:List Rat)(hl:q.length≤1000000)(hf:Fl k q)(hk:k≤68719476736):av bp 182 [.pv (pq q)] [] (.row 0 0 ((aJ q).map aN).length 3) [(0,(.pure (((aJ q).map aN).map af.cells).flatten))]:=by
 have loop:∀(j t:Nat) (site:List af),q.length-t=j→t≤q.length→site=(q.take t).map aN→hJ.ah site (q.map aN) t [] (.row 0 0 ((aJ q).map aN).length 3) [(0,(.pure (((aJ q).map aN).map af.cells).flatten))]:=by
  intro j
  induction j with
  |zero =>
   intro t site hj ht hs
   refine hJ.cV site _ _ rfl (by rw[bF];omega) ?_
   rw[List.take_of_length_le (by omega)] at hs
   rw[hs]
   exact PZ q.length q rfl (by omega) (fg hf (by omega))
  |succ j ih =>
   intro t site hj ht hs
   obtain⟨v,hv⟩:∃v,q[t]? = some v:=⟨_,List.getElem?_eq_getElem (by omega)⟩
   have Y8:=hf v (List.mem_of_getElem? hv)
   have QT:site.length=t:=by rw[hs,List.length_map,List.length_take];omega
   refine hJ.l10 site _ t _ _ rfl (by rw[bF];omega) (getM hv) (QF.x7 v (by omega)) (by simp;omega) (by omega) (ih (t+1) _ (by omega) (by omega) ?_)
   rw[hs,List.take_add_one,hv];simp
 exact hJ.e0 _ (loop _ 0 [] rfl (by omega) rfl)
theorem jH{h b:Nat}(p q:List Rat)(hz:aK q=false)(mG:q≠[])(hp:Ch h p)(hq:Ch b q)(h1:1≤h)(pj:1≤b)(PY:p.length≤10000)(Vf:q.length≤10000)(hk:2*(h+(p.length+1-q.length)*(b+1))+3*b+5≤68719476736):Cp 153 [pq p,pq q] (.aE [pq (cJ p q).1,pq (cJ p q).2]):=by
 have A4:=List.length_pos_iff.2 mG
 have WL:=wT hq pj
 have x9:=cz hz mG
 obtain⟨H,hH⟩:∃H,H=h+(p.length+1-q.length)*(b+1):=⟨_,rfl⟩
 rw[←hH] at hk
 have WM:∀i,ht (coef q i)≤b:=fun i=>by have:=hq.ht i;omega
 have loop:∀(n hc:Nat) (out rest:List Rat),rest.length<n→1≤hc→Ch hc rest→hc+(rest.length+1-q.length)*(b+1)≤H→aK out=false→aK rest=false→out.length≤p.length+1-q.length→rest.length≤p.length→(∀i,ht (coef out i)≤H+b)→(∀i,i+q.length≤rest.length→coef out i=0) →
   gK.ah (q.map aN) (rest.map aN).length (p.length+1-q.length) (aN (bS q)) (rest.map aN) ((jV (p.length+1-q.length) (coef out)).map aN) (.aE [pq (mM n out rest q).1,pq (mM n out rest q).2]):=by
  intro n
  induction n with
  |zero=>intro hc out rest hn;omega
  |succ n ih =>
   intro hc out rest hn Ac hr Vg zo zr lo lr ho F0
   rw[mM]
   cases hb:Nat.blt rest.length q.length with
   |true =>
    have bh:=vt.1 hb
    rw[cond_true]
    have e:aJ (jV (p.length+1-q.length) (coef out))=out:=by
     rw[←jT zo]
     refine js (fun i => ?_)
     rw[jT zo]
     exact B2 (fun i hi=>cL (by omega)) i
    have ht:=Trim (k:=H+b) (jV (p.length+1-q.length) (coef out)) (by rw[cK];omega) (kt (fun i=>by
     rw[B2 (fun i hi=>cL (by omega))];exact ho i)) (by omega)
    rw[e] at ht
    exact gK.cV _ _ _ _ _ _ _ (by rw[bF,bF];exact bh) (by rw[bF,cK]) ht rfl
   |false =>
    have hle:=sN.1 hb
    rw[cond_false]
    have Bv:rest≠[]:=by intro e;rw[e] at hle;simp at hle;exact mG hle
    have S1:=wT hr Ac
    have O0:∀i,ht (coef rest i)≤hc:=fun i=>by have:=hr.ht i;omega
    have QT:=nd x9 (by omega) hle
    have e1:rest.length+1-q.length=(rest.length-q.length)+1:=by omega
    have e2:((lK rest q).length+1-q.length)*(b+1)≤(rest.length-q.length)*(b+1):=Nat.mul_le_mul_right _ (by omega)
    rw[e1,Nat.add_mul,Nat.one_mul] at Vg
    have PU:ht (stepC rest q)≤hc+b:=by
     have:=pc (bS rest) (bS q)
     unfold stepC;omega
    have hdiv:=QF.Div (bS rest) (bS q) (by omega) (by omega) x9
    have cc:∀i,coef (aJ (cM out (eA (rest.length-q.length) [stepC rest q]))) i=if i=rest.length-q.length then stepC rest q else coef out i:=by
     intro i
     rw[dc,ft,iY]
     by_cases h3:i=rest.length-q.length
     ·rw[if_pos h3,if_neg (by omega),F0 i (by omega),h3,Nat.sub_self,sL,Rat.zero_add]
     ·rw[if_neg h3]
      split
      ·rw[Rat.add_zero]
      ·rw[cL (p:=[stepC rest q]) (by simp;omega),Rat.add_zero]
    refine gK.l10 _ _ _ _ _ _ (rest.length-1) (aN (bS rest)) (aN (stepC rest q)) none (rest.length-q.length) (by rw[bF,bF];exact hle) (by rw[bF,bF];unfold ax;omega) (by rw[bF];unfold ax;omega) (by rw[bF];omega) (by rw[bF];omega) (getM (getTop Bv)) hdiv (by rw[bF,bF];omega) (by omega) (by rw[bF,cK];omega) ?_
    rw[vC (f:=coef (aJ (cM out (eA (rest.length-q.length) [stepC rest q])))) (by omega) (by rw[cc,if_pos rfl]) (fun i hi=>by rw[cc,if_neg hi])]
    have next:=ih (hc+b+1) (aJ (cM out (eA (rest.length-q.length) [stepC rest q]))) (lK rest q) (by omega) (by omega) (hr.step hq x9) (by omega) (bg _) (bg _) (rS (fun i hi=>by
     rw[←dc,cc,if_neg (by omega),cL (by omega)])) (by omega) (fun i=>by
     rw[cc]
     split
     ·omega
     ·exact ho i) (fun i hi=>by rw[cc,if_neg (by omega)];exact F0 i (by omega))
    have inner:∀(j t:Nat),q.length-t=j→t≤q.length→gK.bA (q.map aN) (rest.map aN).length (p.length+1-q.length) (((rest.map aN).length:Int)-((q.map aN).length:Int)) t (aN (bS q)) (aN (stepC rest q)) ((jV rest.length (fun i=>coef rest i-if rest.length-q.length≤i∧i<rest.length-q.length+t then stepC rest q*coef q (i-(rest.length-q.length)) else 0)).map aN) ((jV (p.length+1-q.length) (coef (aJ (cM out (eA (rest.length-q.length) [stepC rest q]))))).map aN)
      (.aE [pq (mM n (aJ (cM out (eA (rest.length-q.length) [stepC rest q]))) (lK rest q) q).1,pq (mM n (aJ (cM out (eA (rest.length-q.length) [stepC rest q]))) (lK rest q) q).2]):=by
     intro j
     induction j with
     |zero =>
      intro t hj ht
      have e:aJ (jV rest.length (fun i=>coef rest i-if rest.length-q.length≤i∧i<rest.length-q.length+t then stepC rest q*coef q (i-(rest.length-q.length)) else 0))=lK rest q:=by
       refine js (fun i => ?_)
       rw[ft,iY,ck]
       by_cases hi:i<rest.length
       ·rw[l7 (fX _ hi)]
        by_cases h3:i<rest.length-q.length
        ·rw[if_neg (by omega),if_pos h3];grind
        ·rw[if_pos (by omega),if_neg h3];grind
       ·rw[cL (p:=jV _ _) (by rw[cK];omega),cL (p:=rest) (by omega),if_neg (by omega),cL (p:=q) (by omega)];grind
      have Tb:=Om (k:=2*hc+2*b+1) (jV rest.length (fun i=>coef rest i-if rest.length-q.length≤i∧i<rest.length-q.length+t then stepC rest q*coef q (i-(rest.length-q.length)) else 0)) (by rw[cK];omega) (kt (fun i=>by
       by_cases hi:i<rest.length
       ·rw[l7 (fX _ hi)]
        have a1:=O0 i
        have a2:=WM (i-(rest.length-q.length))
        have a3:=ll (stepC rest q) (coef q (i-(rest.length-q.length)))
        have a4:=C8 (coef rest i) (stepC rest q*coef q (i-(rest.length-q.length)))
        split
        ·omega
        ·rw[show coef rest i-0=coef rest i from by grind];omega
       ·rw[cL (p:=jV _ _) (by rw[cK];omega),jo];omega)) (by omega)
      rw[e] at Tb
      exact gK.Be _ _ _ _ _ _ _ _ _ _ _ (by rw[bF];omega) (by rw[bF,bF,cK]) Tb next
     |succ j TR =>
      intro t hj ht
      obtain⟨w,hw⟩:∃w,q[t]? = some w:=⟨_,List.getElem?_eq_getElem (by omega)⟩
      have WN:=l7 hw
      have a2:=WM t
      rw[WN] at a2
      have a1:=O0 (rest.length-q.length+t)
      have a3:=ll (stepC rest q) w
      have hg:rest.length-q.length+t<rest.length:=by omega
      refine gK.yj _ _ _ _ _ _ _ _ _ (aN w) (rest.length-q.length+t) (aN (coef rest (rest.length-q.length+t))) _ _ (rest.length-q.length+t) (by rw[bF];omega) (getM hw) (by rw[bF,bF];unfold ax;omega) (by rw[bF,bF];omega) (by rw[bF];omega) ?_ (QF.Mul _ _ (by omega) (by omega)) (QF.Sub (coef rest (rest.length-q.length+t)) (stepC rest q*w) (by omega) (by omega)) (by rw[bF,bF];omega) (by rw[bF];omega) (by rw[bF,cK];omega) (by omega) ?_
      ·rw[getM (fX _ hg),if_neg (by omega)]
       congr 2;grind
      ·rw[vC (f:=fun i=>coef rest i-if rest.length-q.length≤i∧i<rest.length-q.length+(t+1) then stepC rest q*coef q (i-(rest.length-q.length)) else 0) hg (by
        rw[if_pos (by omega),show rest.length-q.length+t-(rest.length-q.length)=t from by omega,WN]) (fun i hi=>by
        by_cases h:rest.length-q.length≤i∧i<rest.length-q.length+t
        ·rw[if_pos h,if_pos (by omega)]
        ·rw[if_neg h,if_neg (by omega)])]
       exact TR (t+1) (by omega) (by omega)
    have:=inner _ 0 rfl (by omega)
    have e0:(jV rest.length (fun i=>coef rest i-if rest.length-q.length≤i∧i<rest.length-q.length+0 then stepC rest q*coef q (i-(rest.length-q.length)) else 0))=rest:=by
     refine List.ext_getElem? (fun i => ?_)
     by_cases hi:i<rest.length
     ·rw[fX _ hi,nO hi,if_neg (by omega)]
      congr 1;grind
     ·rw[List.getElem?_eq_none (by rw[cK];omega),List.getElem?_eq_none (by omega)]
    rwa[e0] at this
 have bh:=fM p
 have hmul:((aJ p).length+1-q.length)*(b+1)≤(p.length+1-q.length)*(b+1):=Nat.mul_le_mul_right _ (by omega)
 have:=loop (p.length+1) h [] (aJ p) (by omega) h1 hp.trim (by omega) rfl (bg p) (by simp) bh (fun i=>by rw[jU,jo];omega) (fun i _=>rfl)
 have Tb:=Om (k:=h) p (by omega) (hp.fl h1) (by omega)
 refine gK.e0 _ _ _ _ (p.length+1-q.length) (q.length-1) (aN (bS q)) Tb (by rw[bF,bF];unfold ax;omega) (by rw[bF,bF];unfold ax;omega) (by rw[bF,bF];omega) (by omega) (by rw[bF];unfold ax;omega) (by rw[bF];omega) (getM (getTop mG)) ?_
 rw[B0]
 exact this
theorem e9{h:Nat}(p:List Rat)(hz:aK p=false)(hp:Ch h p)(h1:1≤h)(hl:p.length≤10000)(hk:3*h+3≤68719476736):Cp 156 [pq p] (pq (bP p)):=by
 by_cases h0:p=[]
 ·subst h0;exact uq.e0 _ rfl
 ·have x9:=cz hz h0
  have Yk:=wT hp h1
  have hZ:=List.length_pos_iff.2 h0
  have vD:=rO.Of 1 (by unfold ax;omega)
  have z1:ht ((1:Int):Rat)=1:=by decide
  have hd:=QF.Div ((1:Int):Rat) (bS p) (by omega) (by omega) x9
  have b1:=pc ((1:Int):Rat) (bS p)
  have GY:=plus (a:=1) (d:=h+1) [] p (((1:Int):Rat)/bS p) (by simp) (by omega) (fun x hx=>by cases hx) (hp.fl h1) (by omega) (by omega) h1 (by omega)
  have e:aJ (cM [] (a6 (((1:Int):Rat)/bS p) p))=bP p:=rfl
  rw[e] at GY
  exact uq.e1 _ _ (p.length-1) _ _ none _ (by rw[bF];omega) vD (by rw[bF];unfold ax;omega) (by rw[bF];omega) (getM (getTop h0)) hd GY
theorem gcd{a b N i j:Nat}(ha:1≤a)(dm:a≤b)(hN:N≤1000)(hk:4*xB a b (N+2)+10≤68719476736)(p q:List Rat)(e:vz a b N i j p q)(hl:p.length≤10000):Cp 154 [pq p,pq q] (pq (bX p q)):=by
 have hx:xB a b (N+2)=xB a b N+2*(xB a b (N+1)+1):=rfl
 have x1:∀j,1≤xB a b j:=fun j=>Nat.le_trans ha (cu a b dm (i:=0) (Nat.zero_le _))
 have loop:∀(n i j:Nat) (p q:List Rat),q.length<n→vz a b N i j p q→p.length≤10000→iq.ah (p.map aN) (q.map aN) (pq (bP (gp n p q))):=by
  intro n
  induction n with
  |zero=>intro i j p q hn;omega
  |succ n ih =>
   intro i j p q hn e hl
   have hi:=e.idx
   have wq:=e.lt
   rw[gp]
   by_cases h:q.length=0
   ·rw[beq_iff.2 h,cond_true]
    have:=cu a b dm (i:=i) (j:=N+1) (by omega)
    exact iq.cV _ _ _ (by rw[bF];omega) (e9 p e.zp e.hp (x1 i) hl (by omega))
   ·have df:q≠[]:=fun e=>h (by rw[e];rfl)
    rw[eR.2 h,cond_false]
    obtain⟨r1,r2⟩:=e.rest dm df
    have hz:=cQ p q
    have hlen:=e.len
    have QU:=e.bound
    have b1:=cu a b dm (i:=j+(p.length-q.length)) (j:=N+1) (by omega)
    have hd:=jH p q e.zq df e.hp e.hq (x1 i) (x1 j) hl (by omega) (by
     obtain⟨j',rfl⟩:∃j',j=j'+1:=⟨j-1,by omega⟩
     obtain⟨d,hd⟩:∃d,p.length-q.length=d+1:=⟨p.length-q.length-1,by omega⟩
     have h2:=cu a b dm (i:=i) (j:=j') (by omega)
     have h3:=qI a b dm j' d
     have h4:=cu a b dm (i:=j'+1+(d+1)) (j:=N+1) (by omega)
     have h5:=cu a b dm (i:=j'+1) (j:=N) (by omega)
     rw[show p.length+1-q.length=d+2 from by omega]
     omega)
    have hm:=e9 (bm p q) hz r1 (x1 _) (by omega) (by omega)
    exact iq.l10 _ _ _ _ _ (by rw[bF];omega) hd hm (ih _ _ q _ (by rw[bJ hz];omega) (e.next dm df (r1.e9 (x1 _) hz) (by rw[bJ hz];exact r2) (bT _)) (by omega))
 exact iq.e0 _ _ (loop (q.length+1) i j p q (Nat.lt_succ_self _) e hl)
end yz
namespace Bl
theorem jH{h b:Nat}(p q:List Rat)(hz:aK q=false)(mG:q≠[])(hp:Ch h p)(hq:Ch b q)(h1:1≤h)(pj:1≤b)(PY:p.length≤10000)(Vf:q.length≤10000)(hk:2*(h+(p.length+1-q.length)*(b+1))+3*b+5≤68719476736):Cp 160 [pq p,pq q] (.aE [pq (cJ p q).1,pq (cJ p q).2]):=by
 have A4:=List.length_pos_iff.2 mG
 have WL:=wT hq pj
 have x9:=cz hz mG
 obtain⟨H,hH⟩:∃H,H=h+(p.length+1-q.length)*(b+1):=⟨_,rfl⟩
 rw[←hH] at hk
 have vD:=Ad.Of 1 (by unfold ax;omega)
 have loop:∀(n hc:Nat) (out rest:List Rat),rest.length<n→1≤hc→Ch hc rest→hc+(rest.length+1-q.length)*(b+1)≤H→out.length≤p.length+1-q.length→rest.length≤p.length→(∀i,ht (coef out i)≤H+b)→(∀i,i+q.length≤rest.length→coef out i=0) →
   eM.ah (q.map aN) (out.map aN) (rest.map aN) (.aE [pq (mM n out rest q).1,pq (mM n out rest q).2]):=by
  intro n
  induction n with
  |zero=>intro hc out rest hn;omega
  |succ n ih =>
   intro hc out rest hn Ac hr Vg lo lr ho F0
   rw[mM]
   cases hb:Nat.blt rest.length q.length with
   |true =>
    have bh:=vt.1 hb
    rw[cond_true]
    exact eM.cV _ _ _ (by rw[bF,bF];exact bh)
   |false =>
    have hle:=sN.1 hb
    rw[cond_false]
    have Bv:rest≠[]:=by intro e;rw[e] at hle;simp at hle;exact mG hle
    have S1:=wT hr Ac
    have QT:=nd x9 (by omega) hle
    have e1:rest.length+1-q.length=(rest.length-q.length)+1:=by omega
    have e2:((lK rest q).length+1-q.length)*(b+1)≤(rest.length-q.length)*(b+1):=Nat.mul_le_mul_right _ (by omega)
    rw[e1,Nat.add_mul,Nat.one_mul] at Vg
    have PU:ht (stepC rest q)≤hc+b:=by
     have:=pc (bS rest) (bS q)
     unfold stepC;omega
    have hdiv:=QR.Div (bS rest) (bS q) (by omega) (by omega) x9
    have cc:∀i,coef (aJ (cM out (eA (rest.length-q.length) [stepC rest q]))) i=if i=rest.length-q.length then stepC rest q else coef out i:=by
     intro i
     rw[dc,ft,iY]
     by_cases h3:i=rest.length-q.length
     ·rw[if_pos h3,if_neg (by omega),F0 i (by omega),h3,Nat.sub_self,sL,Rat.zero_add]
     ·rw[if_neg h3]
      split
      ·rw[Rat.add_zero]
      ·rw[cL (p:=[stepC rest q]) (by simp;omega),Rat.add_zero]
    have p1:=plus (b:=hc+b) (d:=1) out [stepC rest q] ((1:Int):Rat) (rest.length-q.length) (by omega) (by simp;omega) (kt ho) (fun x hx=>by rw[List.mem_singleton.1 hx];exact PU) (by decide) (by omega) (by omega) (by omega)
    have q1:aJ (cM out (eA (rest.length-q.length) (a6 ((1:Int):Rat) [stepC rest q])))=aJ (cM out (eA (rest.length-q.length) [stepC rest q])):=by
     rw[show ((1:Int):Rat)=1 from rfl,sO]
    rw[q1] at p1
    have rP:=QR.Neg (stepC rest q) (by omega)
    have p2:=plus (d:=hc+b) rest q (-(stepC rest q)) (rest.length-q.length) (by omega) (by omega) (hr.fl Ac) (hq.fl pj) (by rw[uk];exact PU) Ac pj (by omega)
    have On:((rest.map aN).length:Int)-((q.map aN).length:Int)=((rest.length-q.length:Nat):Int):=by rw[bF,bF];omega
    have next:=ih (hc+b+1) (aJ (cM out (eA (rest.length-q.length) [stepC rest q]))) (lK rest q) (by omega) (by omega) (hr.step hq x9) (by omega) (rS (fun i hi=>by
     rw[←dc,cc,if_neg (by omega),cL (by omega)])) (by omega) (fun i=>by
     rw[cc]
     split
     ·omega
     ·exact ho i) (fun i hi=>by rw[cc,if_neg (by omega)];exact F0 i (by omega))
    exact eM.l10 _ _ _ (rest.length-1) (aN (bS rest)) (q.length-1) (aN (bS q)) (aN (stepC rest q)) _ _ _ _ _ (by rw[bF,bF];exact hle) (by rw[bF];unfold ax;omega) (by rw[bF];omega) (getM (getTop Bv)) (by rw[bF];unfold ax;omega) (by rw[bF];omega) (getM (getTop mG)) hdiv (by rw[bF,bF];unfold ax;omega) vD (by rw[On];exact p1) rP (by rw[On];exact p2) next
 have bh:=fM p
 have hmul:((aJ p).length+1-q.length)*(b+1)≤(p.length+1-q.length)*(b+1):=Nat.mul_le_mul_right _ (by omega)
 have:=loop (p.length+1) h [] (aJ p) (by omega) h1 hp.trim (by omega) (by simp) bh (fun i=>by rw[jU,jo];omega) (fun i _=>rfl)
 exact eM.e0 _ _ _ (Trim (k:=h) p (by omega) (hp.fl h1) (by omega)) this
theorem e9{h:Nat}(p:List Rat)(hz:aK p=false)(hp:Ch h p)(h1:1≤h)(hl:p.length≤10000)(hk:3*h+3≤68719476736):Cp 163 [pq p] (pq (bP p)):=by
 by_cases h0:p=[]
 ·subst h0;exact jK.e0 _ rfl
 ·have x9:=cz hz h0
  have Yk:=wT hp h1
  have hZ:=List.length_pos_iff.2 h0
  have vD:=Ad.Of 1 (by unfold ax;omega)
  have z1:ht ((1:Int):Rat)=1:=by decide
  have hd:=QR.Div ((1:Int):Rat) (bS p) (by omega) (by omega) x9
  have b1:=pc ((1:Int):Rat) (bS p)
  have GY:=plus (a:=1) (d:=h+1) [] p (((1:Int):Rat)/bS p) 0 (by simp) (by omega) (fun x hx=>by cases hx) (hp.fl h1) (by omega) (by omega) h1 (by omega)
  have e:aJ (cM [] (eA 0 (a6 (((1:Int):Rat)/bS p) p)))=bP p:=rfl
  rw[e] at GY
  exact jK.e1 _ _ (p.length-1) _ _ _ _ (by rw[bF];omega) vD (by rw[bF];unfold ax;omega) (by rw[bF];omega) (getM (getTop h0)) hd GY
theorem gcd{a b N i j:Nat}(ha:1≤a)(dm:a≤b)(hN:N≤1000)(hk:4*xB a b (N+2)+10≤68719476736)(p q:List Rat)(e:vz a b N i j p q)(hl:p.length≤10000):Cp 161 [pq p,pq q] (pq (bX p q)):=by
 have hx:xB a b (N+2)=xB a b N+2*(xB a b (N+1)+1):=rfl
 have x1:∀j,1≤xB a b j:=fun j=>Nat.le_trans ha (cu a b dm (i:=0) (Nat.zero_le _))
 have loop:∀(n i j:Nat) (p q:List Rat),q.length<n→vz a b N i j p q→p.length≤10000→b7.ah (p.map aN) (q.map aN) (pq (gp n p q)):=by
  intro n
  induction n with
  |zero=>intro i j p q hn;omega
  |succ n ih =>
   intro i j p q hn e hl
   have hi:=e.idx
   have wq:=e.lt
   rw[gp]
   by_cases h:q.length=0
   ·rw[beq_iff.2 h,cond_true]
    exact b7.cV _ _ (by rw[bF];omega)
   ·have df:q≠[]:=fun e=>h (by rw[e];rfl)
    rw[eR.2 h,cond_false]
    obtain⟨r1,r2⟩:=e.rest dm df
    have hz:=cQ p q
    have hlen:=e.len
    have QU:=e.bound
    have b1:=cu a b dm (i:=j+(p.length-q.length)) (j:=N+1) (by omega)
    have hd:=jH p q e.zq df e.hp e.hq (x1 i) (x1 j) hl (by omega) (by
     obtain⟨j',rfl⟩:∃j',j=j'+1:=⟨j-1,by omega⟩
     obtain⟨d,hd⟩:∃d,p.length-q.length=d+1:=⟨p.length-q.length-1,by omega⟩
     have h2:=cu a b dm (i:=i) (j:=j') (by omega)
     have h3:=qI a b dm j' d
     have h4:=cu a b dm (i:=j'+1+(d+1)) (j:=N+1) (by omega)
     have h5:=cu a b dm (i:=j'+1) (j:=N) (by omega)
     rw[show p.length+1-q.length=d+2 from by omega]
     omega)
    have hm:=e9 (bm p q) hz r1 (x1 _) (by omega) (by omega)
    exact b7.l10 _ _ _ _ _ (by rw[bF];omega) hd hm (ih _ _ q _ (by rw[bJ hz];omega) (e.next dm df (r1.e9 (x1 _) hz) (by rw[bJ hz];exact r2) (bT _)) (by omega))
 have SU:=e9 p e.zp e.hp (x1 i) hl (by have:=cu a b dm (i:=i) (j:=N+1) (by have:=e.idx;have:=e.lt;omega);omega)
 have QL:=e9 q e.zq e.hq (x1 j) (by have:=e.len;omega) (by have:=cu a b dm (i:=j) (j:=N+1) (by have:=e.idx;omega);omega)
 refine b7.e0 _ _ _ _ SU QL ?_
 have e':vz a b N i j (bP p) (bP q):=⟨e.hp.e9 (x1 i) e.zp,e.hq.e9 (x1 j) e.zq,e.lt,by rw[bJ e.zp,bJ e.zq];exact e.len,by rw[bJ e.zp];exact e.bound,bT _,bT _⟩
 have:=loop (q.length+1) i j (bP p) (bP q) (by rw[bJ e.zq];omega) e' (by rw[bJ e.zp];exact hl)
 rwa[HG p q e.zp e.zq] at this
end Bl
end Go.Proofs.YtllmkadmohkbfaaGreatDoor.Sym
namespace Go.Proofs.YtllmkadmohkbfaaGreatDoor.Sym
open Go Path bN
set_option linter.unusedVariables false
def fB(h L:Nat):Nat:=L*(h+(L+1)*(xB h (h+1) (L+1)+1)+xB h (h+1) (L+1))+1
def sB(h L:Nat):Nat:=xB (fB h L) (fB h L+1) (L+1)
structure dz (h L:Nat) (p:List Rat):Prop where
 zp:aK p=false
 ne:p≠[]
 len:p.length≤L
 ch:Ch h p
 h1:1≤h
 hL:L≤10
 sz:sB h L≤1073741824
theorem r8{a b:Nat}(ha:1≤a)(dm:a≤b)(j:Nat):1≤xB a b j:=Nat.le_trans ha (cu a b dm (i:=0) (Nat.zero_le _))
section
variable {h L:Nat} {p:List Rat}
theorem dz.pos(f:dz h L p):1≤L:=by have:=List.length_pos_iff.2 f.ne;have:=f.len;omega
theorem dz.oJ(f:dz h L p):Sym.oJ (p.map aN)=0:=eK f.zp (by have:=f.len;have:=f.hL;omega)
theorem dz.fb(f:dz h L p):xB h (h+1) (L+1)≤fB h L∧h+(L+1)*(xB h (h+1) (L+1)+1)+xB h (h+1) (L+1)≤fB h L∧1≤fB h L∧fB h L≤1073741824∧h≤fB h L:=by
 have hL:=f.pos
 have h1:1*(h+(L+1)*(xB h (h+1) (L+1)+1)+xB h (h+1) (L+1))≤L*(h+(L+1)*(xB h (h+1) (L+1)+1)+xB h (h+1) (L+1)):=Nat.mul_le_mul_right _ hL
 have h2:=cu (fB h L) (fB h L+1) (Nat.le_succ _) (i:=0) (j:=L+1) (Nat.zero_le _)
 have h3:=f.sz
 have h4:xB (fB h L) (fB h L+1) 0=fB h L:=rfl
 have h5:sB h L=xB (fB h L) (fB h L+1) (L+1):=rfl
 have h6:fB h L=L*(h+(L+1)*(xB h (h+1) (L+1)+1)+xB h (h+1) (L+1))+1:=rfl
 refine⟨?_,?_,?_,?_,?_⟩<;>omega
theorem dz.Tc(f:dz h L p):vz h (h+1) L 0 1 p (ak p):=⟨f.ch,f.ch.derive (by have:=f.len;have:=f.hL;omega),by omega,ja f.ne,by have:=f.len;omega,f.zp,ba p⟩
theorem dz.x2(f:dz h L p):4*xB h (h+1) (L+2)+10≤68719476736:=by
 obtain⟨h1,h2,h3,h4,h5⟩:=f.fb
 have e:xB h (h+1) (L+2)=xB h (h+1) L+2*(xB h (h+1) (L+1)+1):=rfl
 have:=Dn h (h+1) (Nat.le_succ _) L
 omega
theorem dz.GM(f:dz h L p):Ch (xB h (h+1) (L+1)) (bX p (ak p)):=by
 have:=HT f.h1 (Nat.le_succ h) ((ak p).length+1) 0 1 p (ak p) f.Tc
 exact this.e9 (r8 f.h1 (Nat.le_succ h) _) (kB _ _ _ f.zp (ba p))
theorem dz.uw(f:dz h L p):bX p (ak p)≠[]:=yu _ f.zp (ba p) f.ne
theorem dz.Lk(f:dz h L p):2*(h+(p.length+1-(bX p (ak p)).length)*(xB h (h+1) (L+1)+1))+3*xB h (h+1) (L+1)+5≤68719476736:=by
 obtain⟨h1,h2,h3,h4,h5⟩:=f.fb
 have hl:=f.len
 have:(p.length+1-(bX p (ak p)).length)*(xB h (h+1) (L+1)+1)≤(L+1)*(xB h (h+1) (L+1)+1):=Nat.mul_le_mul_right _ (by omega)
 omega
theorem dz.ve(f:dz h L p):(bX p (ak p)).length≤p.length:=((j7 p (ak p) f.zp (ba p)).1.len (eE _ _) f.zp f.ne).2
theorem dz.vE(f:dz h L p):(cJ p (bX p (ak p))).1.length≤p.length:=by
 have:=vy (p:=p) (eE p (ak p)) f.uw
 have:=List.length_pos_iff.2 f.uw
 omega
theorem dz.Ds(f:dz h L p):Ch (fB h L) (cJ p (bX p (ak p))).1:=by
 have hq:=yx f.ch f.GM f.h1 (r8 f.h1 (Nat.le_succ h) _) (eE _ _) f.uw
 have hl:=f.len
 have h1:(p.length+1-(bX p (ak p)).length)*(xB h (h+1) (L+1)+1)≤(L+1)*(xB h (h+1) (L+1)+1):=Nat.mul_le_mul_right _ (by omega)
 have h2:=Ch.E7 (fg hq (show _≤h+(L+1)*(xB h (h+1) (L+1)+1)+xB h (h+1) (L+1) by omega))
 refine h2.mono ?_
 have h3:(cJ p (bX p (ak p))).1.length*(h+(L+1)*(xB h (h+1) (L+1)+1)+xB h (h+1) (L+1))≤L*(h+(L+1)*(xB h (h+1) (L+1)+1)+xB h (h+1) (L+1)):=Nat.mul_le_mul_right _ (by have:=f.vE;omega)
 unfold fB
 omega
theorem dz.vF(f:dz h L p):Ch (fB h L) (bx p):=f.Ds.e9 f.fb.2.2.1 (jt _ _).1
theorem dz.nR(f:dz h L p):(bx p).length≤p.length:=by
 unfold bx
 rw[bJ (jt _ _).1];exact f.vE
theorem dz.vG(f:dz h L p):vz (fB h L) (fB h L+1) L 0 1 (bx p) (ak (bx p)):=by
 obtain⟨f1,f2,_⟩:=free_spec f.zp f.ne
 have:=f.nR
 have:=f.len
 have:=f.hL
 exact⟨f.vF,f.vF.derive (by omega),by omega,ja f2,by omega,f1,ba _⟩
theorem Fa{a b N:Nat}(ha:1≤a)(dm:a≤b):∀(n i j:Nat) (p d:List Rat),vz a b N i j p d→∀g∈chainF n p d,Ch (xB a b (N+1)) g∧g.length≤p.length
 |0,i,j,p,d,e,g,hg=>by
  rw[chainF,List.mem_singleton] at hg
  rw[hg]
  exact⟨e.hp.mono (cu a b dm (by have:=e.idx;have:=e.lt;omega)),Nat.le_refl _⟩
 |n+1,i,j,p,d,e,g,hg=>by
  have hp:Ch (xB a b (N+1)) p:=e.hp.mono (cu a b dm (by have:=e.idx;have:=e.lt;omega))
  by_cases h:d=[]
  ·rw[h,hX,List.mem_singleton] at hg
   rw[hg];exact⟨hp,Nat.le_refl _⟩
  ·rw[fk h] at hg
   rcases List.mem_cons.1 hg with hg|hg
   ·rw[hg];exact⟨hp,Nat.le_refl _⟩
   ·obtain⟨r1,r2⟩:=e.rest dm h
    have hc:Ch (xB a b (j+(p.length-d.length))) (aJ (a6 (-1) (bm p d))):=by
     refine Ch.trim ?_
     obtain⟨D,d1,d2,d3⟩:=r1
     refine⟨D,d1,d2,fun i => ?_⟩
     obtain⟨m,m1,m2⟩:=d3 i
     refine⟨-m,?_,by rw[gF];exact m2⟩
     rw[ck,Rat.intCast_neg,←m1];grind
    have:=Fa ha dm n _ _ d _ (e.next dm h hc (fZ e.zq h) (bg _)) g hg
    exact⟨this.1,by have:=e.len;omega⟩
theorem dz.chain(f:dz h L p):∀g∈bL p,Fl 1073741824 g∧g.length≤10:=by
 intro g hg
 have hf:=f.fb
 obtain⟨h1,h2⟩:=Fa hf.2.2.1 (Nat.le_succ _) (bx p).length 0 1 _ _ f.vG g hg
 have h3:=f.sz
 have h4:=f.nR
 have h5:=f.len
 have h6:=f.hL
 exact⟨fg (h1.fl (r8 hf.2.2.1 (Nat.le_succ _) _)) h3,by omega⟩
theorem dz.oQ(f:dz h L p):(bL p).length≤11:=by
 have h1:=uv (bx p).length (bx p) (ak (bx p))
 have h2:=f.nR
 have h3:=f.len
 have h4:=f.hL
 have h5:(bL p).length≤(bx p).length+1:=h1
 omega
end
theorem r9:∀(l:Int) (r:List Int),0≤varS l r∧varS l r≤r.length
 |_,[]=>⟨Int.le_refl _,Int.le_refl _⟩
 |l,s::r=>by
  rw[varS]
  obtain⟨a,b⟩:=r9 l r
  obtain⟨c,d⟩:=r9 s r
  rw[List.length_cons]
  split
  ·omega
  ·split<;>omega
theorem kC(G:List (List Rat))(x:Rat):0≤fK G x∧fK G x≤G.length:=by
 have:=r9 0 (G.map (fun g=>sg (evalL g x)))
 rw[List.length_map] at this
 exact this
abbrev Mc(G:List (List Rat)):PV:=cT (aC af.cells) (G.map (fun g=>g.map aN))
theorem yz.GN{h L:Nat}{p:List Rat}(f:dz h L p):Cp 76 [pq p] (.aE [pq (bx p),.az]):=by
 have hl:=f.len
 have hL:=f.hL
 have hf:=f.fb
 have DM:=f.ch.fl f.h1
 have tF:=FF.Check (p.map aN) (r7 DM (by omega))
 rw[f.oJ] at tF
 have hd:=FF.derive (p.map aN) (by rw[bF];omega) (fW (fg DM (by omega)))
 rw[dN] at hd
 have hp:=List.length_pos_iff.2 f.ne
 have hg:=yz.gcd f.h1 (Nat.le_succ h) (by omega) f.x2 p (ak p) f.Tc (by omega)
 have K0:=yz.jH p (bX p (ak p)) (eE _ _) f.uw f.ch f.GM f.h1 (r8 f.h1 (Nat.le_succ h) _) (by omega) (by have:=f.ve;omega) f.Lk
 have hm:=yz.e9 (cJ p (bX p (ak p))).1 (jt _ _).1 f.Ds hf.2.2.1 (by have:=f.vE;omega) (by omega)
 exact BW.e1 _ _ _ _ _ _ tF (by rw[bF];omega) hd hg K0 hm
theorem Bl.GN{h L:Nat}{p:List Rat}(f:dz h L p):Cp 78 [pq p] (.aE [pq (bx p),vI 0]):=by
 have hl:=f.len
 have hL:=f.hL
 have hf:=f.fb
 have DM:=f.ch.fl f.h1
 have tF:=Jm.Check (p.map aN) (r7 DM (by omega))
 rw[f.oJ] at tF
 have hd:=Jm.derive (p.map aN) (by rw[bF];omega) (fW (fg DM (by omega)))
 rw[dN] at hd
 have hp:=List.length_pos_iff.2 f.ne
 have hg:=Bl.gcd f.h1 (Nat.le_succ h) (by omega) f.x2 p (ak p) f.Tc (by omega)
 have K0:=Bl.jH p (bX p (ak p)) (eE _ _) f.uw f.ch f.GM f.h1 (r8 f.h1 (Nat.le_succ h) _) (by omega) (by have:=f.ve;omega) f.Lk
 have hm:=Bl.e9 (cJ p (bX p (ak p))).1 (jt _ _).1 f.Ds hf.2.2.1 (by have:=f.vE;omega) (by omega)
 exact nM.e2 _ _ _ _ _ _ _ tF rfl (by rw[bF];omega) hd hg K0 hm
theorem sS{p q:List af}(hp:oJ p=0)(hq:oJ q=0):x8 p q=0:=by unfold x8;rw[if_pos hp];exact hq
theorem yz.next{a b N i j:Nat}(ha:1≤a)(dm:a≤b)(hN:N≤60)(hk:4*xB a b (N+2)+10≤68719476736){p d:List Rat}(e:vz a b N i j p d)(h:d≠[]):Cp 236 [pq p,pq d] (.aE [pq (cJ p d).1,pq (bm p d),.az])∧Cp 237 [pq (bm p d),(aN ((-1:Int):Rat)).pv] (.aE [pq (aJ (a6 (-1) (bm p d))),.az]):=by
 have x1:∀j,1≤xB a b j:=r8 ha dm
 have hi:=e.idx
 have wq:=e.lt
 have hlen:=e.len
 have QU:=e.bound
 obtain⟨r1,r2⟩:=e.rest dm h
 have hx:xB a b (N+2)=xB a b N+2*(xB a b (N+1)+1):=rfl
 have b0:=cu a b dm (i:=i) (j:=N+1) (by omega)
 have b1:=cu a b dm (i:=j+(p.length-d.length)) (j:=N+1) (by omega)
 have b2:=cu a b dm (i:=j) (j:=N+1) (by omega)
 have Vh:=eK e.zp (by omega)
 have Vi:=eK e.zq (by omega)
 have Vj:=cQ p d
 have L8:=eK Vj (by omega)
 constructor
 ·have tF:=yz.sR (p.map aN) (d.map aN) (r7 (e.hp.fl (x1 i)) (by omega)) (r7 (e.hq.fl (x1 j)) (by omega))
  rw[sS Vh Vi] at tF
  have hd:=yz.jH p d e.zq h e.hp e.hq (x1 i) (x1 j) (by omega) (by omega) (by
   obtain⟨j',rfl⟩:∃j',j=j'+1:=⟨j-1,by omega⟩
   obtain⟨d',hd⟩:∃d',p.length-d.length=d'+1:=⟨p.length-d.length-1,by omega⟩
   have h2:=cu a b dm (i:=i) (j:=j') (by omega)
   have h3:=qI a b dm j' d'
   have h4:=cu a b dm (i:=j'+1+(d'+1)) (j:=N+1) (by omega)
   rw[show p.length+1-d.length=d'+2 from by omega]
   omega)
  have:=List.length_pos_iff.2 h
  exact EW.e1 _ _ _ _ tF (by rw[bF];omega) hd
 ·have tF:=FF.Check ((bm p d).map aN) (r7 (r1.fl (x1 _)) (by omega))
  rw[L8] at tF
  have hp:=yz.plus (a:=1) (d:=1) [] (bm p d) ((-1:Int):Rat) (by simp) (by omega) (fun x hx=>by cases hx) (r1.fl (x1 _)) (by decide) (by omega) (x1 _) (by omega)
  exact Af.e0 _ _ _ tF hp
theorem Bl.next{a b N i j:Nat}(ha:1≤a)(dm:a≤b)(hN:N≤60)(hk:4*xB a b (N+2)+10≤68719476736){p d:List Rat}(e:vz a b N i j p d)(h:d≠[]):Cp 242 [pq p,pq d] (.aE [pq (cJ p d).1,pq (bm p d),vI 0])∧Cp 243 [pq (bm p d),(aN ((-1:Int):Rat)).pv] (.aE [pq (aJ (a6 (-1) (bm p d))),vI 0]):=by
 have x1:∀j,1≤xB a b j:=r8 ha dm
 have hi:=e.idx
 have wq:=e.lt
 have hlen:=e.len
 have QU:=e.bound
 obtain⟨r1,r2⟩:=e.rest dm h
 have hx:xB a b (N+2)=xB a b N+2*(xB a b (N+1)+1):=rfl
 have b0:=cu a b dm (i:=i) (j:=N+1) (by omega)
 have b1:=cu a b dm (i:=j+(p.length-d.length)) (j:=N+1) (by omega)
 have b2:=cu a b dm (i:=j) (j:=N+1) (by omega)
 have Vh:=eK e.zp (by omega)
 have Vi:=eK e.zq (by omega)
 have Vj:=cQ p d
 have L8:=eK Vj (by omega)
 constructor
 ·have tF:=Bl.both (p.map aN) (d.map aN) (r7 (e.hp.fl (x1 i)) (by omega)) (r7 (e.hq.fl (x1 j)) (by omega))
  rw[sS Vh Vi] at tF
  have hd:=Bl.jH p d e.zq h e.hp e.hq (x1 i) (x1 j) (by omega) (by omega) (by
   obtain⟨j',rfl⟩:∃j',j=j'+1:=⟨j-1,by omega⟩
   obtain⟨d',hd⟩:∃d',p.length-d.length=d'+1:=⟨p.length-d.length-1,by omega⟩
   have h2:=cu a b dm (i:=i) (j:=j') (by omega)
   have h3:=qI a b dm j' d'
   have h4:=cu a b dm (i:=j'+1+(d'+1)) (j:=N+1) (by omega)
   rw[show p.length+1-d.length=d'+2 from by omega]
   omega)
  have:=List.length_pos_iff.2 h
  exact oL.e2 _ _ _ _ _ tF rfl (by rw[bF];omega) hd
 ·have tF:=Jm.Check ((bm p d).map aN) (r7 (r1.fl (x1 _)) (by omega))
  rw[L8] at tF
  have hp:=Bl.plus (a:=1) (d:=1) [] (bm p d) ((-1:Int):Rat) 0 (by simp) (by omega) (fun x hx=>by cases hx) (r1.fl (x1 _)) (by decide) (by omega) (x1 _) (by omega)
  exact mP.e1 _ _ _ _ tF rfl hp
theorem dz.HY{h L:Nat}{p:List Rat}(f:dz h L p):4*xB (fB h L) (fB h L+1) (L+2)+10≤68719476736:=by
 have e:xB (fB h L) (fB h L+1) (L+2)=xB (fB h L) (fB h L+1) L+2*(xB (fB h L) (fB h L+1) (L+1)+1):=rfl
 have h1:=Dn (fB h L) (fB h L+1) (Nat.le_succ _) L
 have h2:=f.sz
 have h3:sB h L=xB (fB h L) (fB h L+1) (L+1):=rfl
 omega
end Go.Proofs.YtllmkadmohkbfaaGreatDoor.Sym
namespace Go.Proofs.YtllmkadmohkbfaaGreatDoor.Sym.Path
open Go
set_option maxRecDepth 20000
set_option linter.unusedVariables false
namespace tG
theorem e0(p:Rs)(b:af)(c:List (Rs))(d:af)(z:List aj)(h1:Cp 150 [ae p] (.aE [b.pv,.az]))(h2:Cp 151 [ae p] (.aE [(cT (aC af.cells) c),.az]))(h3:Cp 87 [b.pv] d.pv)(h4:av bp 152 [.pv .dF,.pv (ae p),.pv (cT (aC af.cells) c),.pv d.pv,.pv b.pv] [] (.row 0 0 z.length 6) [(0,(.pure ((z:List aj).map aj.cells).flatten))]):Cp 75 [ae p] (.aE [cT aj.cells z,.az]) :=
 eD Tryz.func75 114 [1,1,1,1,3] [.q,.h 1 (.pv (.aE [b.pv,.az])),.q,.a,.h 1 (.pv (.aE [(cT (aC af.cells) c),.az])),.q,.a,dr 5 3 [.none,.none,.none,(.pv d.pv),.none,(.bG [] (some (0,28)) (.row 0 0 z.length 6) [(0,(.pure ((z:List aj).map aj.cells).flatten))])],.fo 2 ((z:List aj).map aj.cells)] (y5 h1 h2 h3 h4 (cU pC (z:List aj) (Eq.refl (z:List aj).length)))
end tG
namespace qX
theorem e0(p:Rs)(rV:aj)(b:Bool)(c:Option Int)(h1:Cp 165 [ae p] .az)(h2:Cp 166 [ae p,rV.pv] (.aE [vB b,bc c])):Cp 82 [ae p,rV.pv] (.aE [vB b,bc c]) :=
 eD Tryz.func82 93 [1,1] [.q,.h 1 (.pv .az),.q,.a,.h 2 (.pv (.aE [vB b,bc c]))] (y2 h1 h2)
end qX
namespace gx
theorem e0(p:Rs)(a:Int)(h1:Cp 56 [ae p] (vI a))(h2:a≠0):Cp 83 [ae p] (vI a) :=
 eD Tryz.func83 90 [1,1] [.q,.h 1 (.pv (vI a)),.q,.t,.q] (y2 h1 (gB h2))
theorem e1(p:Rs)(a:Int)(h1:Cp 56 [ae p] (vI a))(h2:a=0)(h3:p.length=0):Cp 83 [ae p] (vI 8) :=
 eD Tryz.func83 105 [1,1,1,1] [.q,.h 1 (.pv (vI a)),.q,.f,.h 1 (iI (p.length:Int)),.t,.q] (y4 h1 (gk h2) (an af.cells p) (aM h3))
theorem e2(p:Rs)(a:Int)(h1:Cp 56 [ae p] (vI a))(h2:a=0)(h3:p.length≠0):Cp 83 [ae p] (vI 0) :=
 eD Tryz.func83 108 [1,1,1,1] [.q,.h 1 (.pv (vI a)),.q,.f,.h 1 (iI (p.length:Int)),.f,.q] (y4 h1 (gk h2) (an af.cells p) (aB h3))
end gx
namespace kD
theorem e1(p:Rs)(rV:aj)(a:Int)(b:Bool)(h1:Cp 83 [ae p] (vI a))(h2:a=0)(h3:Cp 168 [ae p,rV.pv] (vB b)):Cp 86 [ae p,rV.pv] (.aE [vB b,vI 0]) :=
 eD Tryz.func86 93 [1,1,1] [.q,.h 1 (.pv (vI a)),.q,.f,.h 2 (.pv (vB b))] (y3 h1 (gk h2) h3)
end kD
namespace gN
@[reducible] noncomputable def fn:Func:=Tryz.f150
noncomputable def bf:List eg:=focus [0,2,0,0,2,0,2,1,2,0,2,0,0,2,0,0] [.code (ay fn)]
def inv1(p:List af)(ud:Nat)(iX:af):St:=⟨[(0,(.pv (ae p))),(2,(.ptr 2 0)),(5,(.ptr 5 0)),(17,(.pv (ae p))),(18,(eI (p.length:Int))),(19,(eI (ud:Int)))],[(2,(.lit [(eB false),(.pv (.list [])),(.pv (.list []))])),(5,(.lit [(eB iX.neg),(.pv (aa iX.num)),(.pv (aa iX.den))]))]⟩
@[reducible] noncomputable def ah(p:List af)(ud:Nat)(iX:af)(r:PV):Prop:=L bp fn bf (inv1 p ud iX) r
noncomputable def nD:List eg:=focus [0,2,0,0,2,0,2,1,2,0,2,0,0,2,0,0,0,0,2,0,0,2,0,0,0,2,0,2,0,0,2,1,2,0,0] [.code (ay fn)]
def inv2(p:List af)(ud:Nat)(iX div:af):St:=⟨[(0,(.pv (ae p))),(2,(.ptr 2 0)),(5,(.ptr 5 0)),(8,(.ptr 8 0)),(17,(.pv (ae p))),(18,(eI (p.length:Int))),(19,(eI (ud:Int)))],[(2,(.lit [(eB false),(.pv (.list [])),(.pv (.list []))])),(5,(.lit [(eB iX.neg),(.pv (aa iX.num)),(.pv (aa iX.den))])),(8,(.lit [(eB div.neg),(.pv (aa div.num)),(.pv (aa div.den))]))]⟩
@[reducible] noncomputable def bA(p:List af)(ud:Nat)(iX div:af)(r:PV):Prop:=L bp fn nD (inv2 p ud iX div) r
theorem e0(p:Rs)(of:af){r:PV}(h1:Cp 165 [ae p] .az)(h2:Cp 46 [vI 1] of.pv)(hL:ah p 0 of r):Cp 150 [ae p] r :=
 eG Tryz.func150 108 [1,1,1] [.q,.h 1 (.pv .az),.q,.a,.h 0 (.pv of.pv),.h 1 (iI (p.length:Int)),.aH [0,2,5,17,18,19],.ord [2,5]] (y3 h1 h2 (an af.cells p)) hL
theorem l10(p:Rs)(b:Nat)(c v:af)(k:Nat)(v1 d:af){r:PV}(h1:b<p.length)(h2:p[b]? = some v)(h3:ax ((p.length:Int)-1))(h4:((p.length:Int)-1)=(k:Int))(h5:p[k]? = some v1)(h6:Cp 234 [v.pv,v1.pv] (.aE [d.pv,.az]))(hL:bA p b c d r):ah p b c r :=
 lG 165 [1,3,1,1,3,1] [.a,.q,.t,.h 0 (.row b (af.cells v)),dr 13 1 [.none,.none,.none,(iI (p.length:Int)),(iI ((p.length:Int)-1)),(.row k (af.cells v1)),.none,(.pv (.aE [d.pv,.az]))],.q,.a,.aH [0,2,5,8,17,18,19],.drop [7],.ord [2,5,8]] (y6 (ai h1) (bO af.cells (Eq.refl (((b:Nat):Int):Int)) h2) (an af.cells p) (aW h3) (bO af.cells h4 h5) h6) hL
theorem kI(p:Rs)(b:Nat)(c:af)(h1:p.length≤b):ah p b c (.aE [c.pv,.az]) :=
 lD 141 [1] [.a,.q,.f,.q] (y1 (ar h1))
theorem yj(p:Rs)(b:Nat)(c d of g i:af)(j:Int)(k:af){r:PV}(h1:Cp 46 [vI 1] of.pv)(h2:Cp 235 [d.pv] g.pv)(h3:Cp 91 [of.pv,g.pv] i.pv)(h4:Cp 34 [c.pv,i.pv] (vI j))(h5:j<0)(h6:Cp 91 [c.pv,c.pv] k.pv)(hL:bA p b k d r):bA p b c d r :=
 lG 192 [1,1,1,1,1,1] [.a,dr 7 0 [.none,(.pv of.pv),.none,(.pv g.pv),(.pv i.pv),(.pv (vI j))],.t,.h 2 (.pv k.pv),.aH [0,2,5,8,17,18,19]] (y6 h1 h2 h3 h4 (bY h5) h6) hL
theorem Be(p:Rs)(b:Nat)(c d of g i:af)(j:Int){r:PV}(h1:Cp 46 [vI 1] of.pv)(h2:Cp 235 [d.pv] g.pv)(h3:Cp 91 [of.pv,g.pv] i.pv)(h4:Cp 34 [c.pv,i.pv] (vI j))(h5:0≤j)(h6:(b+1)<9223372036854775808)(hL:ah p (b+1) c r):bA p b c d r :=
 lG 198 [1,1,1,1,1,1] [.a,dr 7 0 [.none,(.pv of.pv),.none,(.pv g.pv),(.pv i.pv),(.pv (vI j))],.f,.h 0 (iI (((b+1):Nat):Int)),.aH [0,2,5,17,18,19],.drop [8]] (y6 h1 h2 h3 h4 (bD h5) (aL h6)) hL
end gN
namespace mA
@[reducible] noncomputable def fn:Func:=Tryz.f151
noncomputable def bf:List eg:=focus [0,2,0,2,0,0,2,1,2,0,2,0,0,2,1,2,0,2,0,0,0] [.code (ay fn)]
def inv1(Vk:List af)(mX:List (List af)):St:=⟨[(6,(.pv (ae Vk))),(7,(.row 28 0 mX.length 1))],[(28,(.pure ((mX:List (List af)).map (aC af.cells)).flatten))]⟩
@[reducible] noncomputable def ah(Vk:List af)(mX:List (List af))(r:PV):Prop:=L bp fn bf (inv1 Vk mX) r
theorem e0(p b c:Rs){r:PV}(h1:Cp 76 [ae p] (.aE [ae b,.az]))(h2:Cp 80 [ae b] (.aE [ae c,.az]))(hL:ah c [b] r):Cp 151 [ae p] r :=
 eG Tryz.func151 123 [1,1] [.q,.h 1 (.pv (.aE [ae b,.az])),.q,.a,.h 1 (.pv (.aE [ae c,.az])),.q,.a,.q,.aH [6,7]] (y2 h1 h2) hL
theorem l10(b:Rs)(c:List (Rs))(k:Nat)(v d g:Rs)(of:af)(i:Rs){r:PV}(h1:0<b.length)(h2:((c++[b]):List (Rs)).length*24≤140737488355328)(h3:ax ((((c++[b]).length:Nat):Int)-2))(h4:((((c++[b]).length:Nat):Int)-2)=(k:Int))(h5:k<(c++[b]).length)(h6:(c++[b])[k]? = some v)(h7:Cp 236 [ae v,ae b] (.aE [ae d,ae g,.az]))(h8:Cp 46 [(vI (-1))] of.pv)(h9:Cp 237 [ae g,of.pv] (.aE [ae i,.az]))(hL:ah i (c++[b]) r):ah b c r :=
 lG 192 [1,1,6,1,2,1,1,1,1] [.a,.h 1 (iI (b.length:Int)),.t,.h 3 (.app ((c++[b]):List (Rs)).length (((c++[b]):List (Rs)).map (aC af.cells)).flatten),.aV [.o,.o,.o,(iI ((((c++[b]).length:Nat):Int)-2)),(.nat k),(.ev (.pv (ae v))),.o,(.pv (.aE [ae d,ae g,.az]))],.q,.a,.aV [.o,(.pv of.pv),(.pv (.aE [ae i,.az]))],.q,.a,.aH [6,7],.drop [34],.ra 35 28] (y9 (an af.cells b) (ai h1) (gR (qh af.cells) (c:List (Rs)) ([b]:List (Rs)) 24 (Eq.refl (c:List (Rs)).length) (Eq.refl ([b]:List (Rs)).length) h2 rfl) (aW h3) (cj h4 h5) (fj (enc:=(aC af.cells)) (f:=fun a=>(ae a)) (fun _=>rfl) h6) h7 h8 h9) hL
theorem ta(b:Rs)(c:List (Rs))(h1:b.length≤0):ah b c (.aE [(cT (aC af.cells) c),.az]) :=
 lD 156 [1,1,3] [.a,.h 1 (iI (b.length:Int)),.f,.q,.fo 2 ((c:List (Rs)).map (aC af.cells))] (y3 (an af.cells b) (ar h1) (cU (qh af.cells) (c:List (Rs)) (Eq.refl (c:List (Rs)).length)))
end mA
namespace iA
@[reducible] noncomputable def fn:Func:=Tryz.f152
theorem e0(p:Rs)(l:List (Rs))(lo hi:af)(a b:Int)(h1:Cp 238 [(cT (aC af.cells) l),lo.pv] (vI a))(h2:Cp 238 [(cT (aC af.cells) l),hi.pv] (vI b))(h3:ax (a-b))(h4:(a-b)=0):av bp 152 [(.pv .dF),(.pv (ae p)),(.pv (cT (aC af.cells) l)),(.pv lo.pv),(.pv hi.pv)] [] (.row 0 0 0 6) [(0,(.pure (([]:List aj).map aj.cells).flatten))] :=
 IL Tryz.func152 90 [1,1,1,1] [.jM 0 1 6,.q,dr 7 1 [.none,.none,(.pv (vI a)),.none,.none,(.pv (vI b)),(iI (a-b))],.q,.t,.q,.ra 1 0,.drop [9,8],.ord [0]] (y4 h1 h2 (aW h3) (aP h4))
theorem e1(p:Rs)(l:List (Rs))(lo hi:af)(a b c d:Int)(g:aj)(h1:Cp 238 [(cT (aC af.cells) l),lo.pv] (vI a))(h2:Cp 238 [(cT (aC af.cells) l),hi.pv] (vI b))(h3:ax (a-b))(h4:(a-b)≠0)(h5:(a-b)=1)(h6:Cp 239 [ae p,lo.pv] (vI c))(h7:c≠0)(h8:Cp 239 [ae p,hi.pv] (vI d))(h9:d=0)(ec:Cp 65 [hi.pv] g.pv)(il:(([]:List aj)++[g]:List aj).length*112≤140737488355328):av bp 152 [(.pv .dF),(.pv (ae p)),(.pv (cT (aC af.cells) l)),(.pv lo.pv),(.pv hi.pv)] [] (.row 0 0 ([g].length) 6) [(0,(.pure (([g]:List aj).map aj.cells).flatten))] :=
 IL Tryz.func152 117 [1,1,1,1,1,1,1,1,1,1,1,1,1,1,6] [.jM 0 1 6,.q,dr 7 1 [.none,.none,(.pv (vI a)),.none,.none,(.pv (vI b)),(iI (a-b))],.q,.f,.aV [.o,.o,.o,.o,.o,(.pv (vI c)),.o,(.dec true)],.t,.h 2 (.pv (vI d)),.t,.aV [.o,.o,(.pv g.pv),.o,(.app ([g]:List aj).length (([g]:List aj).map aj.cells).flatten)],.ra 39 0,.drop [38,9,8],.ord [0]] (Jk h1 h2 (aW h3) (bW h4) (aP h5) (aP h5) (aP h5) h6 (aP h5) (aP h5) (gB h7) h8 (aP h9) ec (gR pC ([]:List aj) ([g]:List aj) 112 (Eq.refl ([]:List aj).length) (Eq.refl ([g]:List aj).length) il rfl))
theorem e2(p:Rs)(l:List (Rs))(lo hi:af)(a b c d:Int)(g i:af)(h1:Cp 238 [(cT (aC af.cells) l),lo.pv] (vI a))(h2:Cp 238 [(cT (aC af.cells) l),hi.pv] (vI b))(h3:ax (a-b))(h4:(a-b)≠0)(h5:(a-b)=1)(h6:Cp 239 [ae p,lo.pv] (vI c))(h7:c≠0)(h8:Cp 239 [ae p,hi.pv] (vI d))(h9:d≠0)(ec:Cp 91 [lo.pv,(⟨false,[],[]⟩:af).pv] g.pv)(il:Cp 91 [hi.pv,(⟨false,[],[]⟩:af).pv] i.pv)(mF:(([]:List aj)++[(⟨g,i⟩:aj)]:List aj).length*112≤140737488355328):av bp 152 [(.pv .dF),(.pv (ae p)),(.pv (cT (aC af.cells) l)),(.pv lo.pv),(.pv hi.pv)] [] (.row 0 0 ([(⟨g,i⟩:aj)].length) 6) [(0,(.pure (([(⟨g,i⟩:aj)]:List aj).map aj.cells).flatten))] :=
 IL Tryz.func152 120 [1,1,1,1,1,1,1,1,1,1,1,1,1,1,1,6] [.jM 0 1 6,.q,dr 7 1 [.none,.none,(.pv (vI a)),.none,.none,(.pv (vI b)),(iI (a-b))],.q,.f,.aV [.o,.o,.o,.o,.o,(.pv (vI c)),.o,(.dec true)],.t,.h 2 (.pv (vI d)),.f,dr 9 2 [.none,.none,.none,(.pv g.pv),.none,.none,(.pv i.pv),.none,.none,(.app ([(⟨g,i⟩:aj)]:List aj).length (([(⟨g,i⟩:aj)]:List aj).map aj.cells).flatten)],.ra 49 0,.drop [48,9,8],.ord [0]] (FB h1 h2 (aW h3) (bW h4) (aP h5) (aP h5) (aP h5) h6 (aP h5) (aP h5) (gB h7) h8 (bW h9) ec il (gR pC ([]:List aj) ([(⟨g,i⟩:aj)]:List aj) 112 (Eq.refl ([]:List aj).length) (Eq.refl ([(⟨g,i⟩:aj)]:List aj).length) mF rfl))
theorem Dt(p:List af)(l:List (List af))(lo hi j6:af)(z z1:List aj):wA bp mU fn.ntmps (bC (focus [0,2,0,2,0,0,2,1,2,0,0,2,1,2,0,2,0] [.code (ay fn)])) (mf (bC (focus [0,2,0,2,0,0,2,1,2,0,0,2,1,2,0,2,0] [.code (ay fn)])) [0,1,2,6,7]) (jN (bC (focus [0,2,0,2,0,0,2,1,2,0,0,2,1,2,0,2,0] [.code (ay fn)])) [0,1,2,6,7]) [.none,.none,.none,.none,.none,(.bG [(1,200000)] (some (0,59)) (.row 0 0 z.length 6) [(0,(.pure ((z:List aj).map aj.cells).flatten))]),.none,.none,.none,.none,(.bG [(59,200000)] (some (0,64)) (.row 0 0 z1.length 6) [(0,(.pure ((z1:List aj).map aj.cells).flatten))]),.none] (BF mU fn.ntmps (bC (focus [0,2,0,2,0,0,2,1,2,0,0,2,1,2,0,2,0] [.code (ay fn)])) [0,1,2,6,7] ⟨[(0,(.row 1 0 0 6)),(1,(.pv (ae p))),(2,(.pv (cT (aC af.cells) l))),(8,(.ptr 8 0)),(9,(.ptr 9 0)),(12,(.ptr 12 0))],[(12,(.lit [(eB j6.neg),(.pv (aa j6.num)),(.pv (aa j6.den))])),(9,(.lit [(eB hi.neg),(.pv (aa hi.num)),(.pv (aa hi.den))])),(8,(.lit [(eB lo.neg),(.pv (aa lo.num)),(.pv (aa lo.den))])),(1,(.pure (([]:List aj).map aj.cells).flatten))]⟩)=wB bp mU fn.ntmps (bC (focus [0,2,0,2,0,0,2,1,2,0,0,2,1,2,0,2,0] [.code (ay fn)])) (mf (bC (focus [0,2,0,2,0,0,2,1,2,0,0,2,1,2,0,2,0] [.code (ay fn)])) [0,1,2,6,7]) (jN (bC (focus [0,2,0,2,0,0,2,1,2,0,0,2,1,2,0,2,0] [.code (ay fn)])) [0,1,2,6,7]) [.none,.none,.none,.none,.none,(.bG [(1,200000)] (some (0,59)) (.row 0 0 z.length 6) [(0,(.pure ((z:List aj).map aj.cells).flatten))]),.none,.none,.none,.none,(.bG [(59,200000)] (some (0,64)) (.row 0 0 z1.length 6) [(0,(.pure ((z1:List aj).map aj.cells).flatten))]),.none] (BF mU fn.ntmps (bC (focus [0,2,0,2,0,0,2,1,2,0,0,2,1,2,0,2,0] [.code (ay fn)])) [0,1,2,6,7] ⟨[(0,(.row 1 0 0 6)),(1,(.pv (ae p))),(2,(.pv (cT (aC af.cells) l))),(8,(.ptr 8 0)),(9,(.ptr 9 0)),(12,(.ptr 12 0))],[(12,(.lit [(eB j6.neg),(.pv (aa j6.num)),(.pv (aa j6.den))])),(9,(.lit [(eB hi.neg),(.pv (aa hi.num)),(.pv (aa hi.den))])),(8,(.lit [(eB lo.neg),(.pv (aa lo.num)),(.pv (aa lo.den))])),(1,(.pure (([]:List aj).map aj.cells).flatten))]⟩):=by kernel_rfl
theorem e3(p:Rs)(l:List (Rs))(lo hi:af)(a b c:Int)(d:af)(z z1:List aj)(h1:Cp 238 [(cT (aC af.cells) l),lo.pv] (vI a))(h2:Cp 238 [(cT (aC af.cells) l),hi.pv] (vI b))(h3:ax (a-b))(h4:(a-b)≠0)(h5:(a-b)=1)(h6:Cp 239 [ae p,lo.pv] (vI c))(h7:c=0)(h8:Cp 176 [(⟨lo,hi⟩:aj).pv] d.pv)(h9:av bp 152 [.row 200000 0 0 6,.pv (ae p),.pv (cT (aC af.cells) l),.pv lo.pv,.pv d.pv] [(200000,(.pure (([]:List aj).map aj.cells).flatten))] (.row 0 0 z.length 6) [(0,(.pure ((z:List aj).map aj.cells).flatten))])(ec:av bp 152 [.row 200000 0 z.length 6,.pv (ae p),.pv (cT (aC af.cells) l),.pv d.pv,.pv hi.pv] [(200000,(.pure ((z:List aj).map aj.cells).flatten))] (.row 0 0 z1.length 6) [(0,(.pure ((z1:List aj).map aj.cells).flatten))]):av bp 152 [(.pv .dF),(.pv (ae p)),(.pv (cT (aC af.cells) l)),(.pv lo.pv),(.pv hi.pv)] [] (.row 0 0 z1.length 6) [(0,(.pure ((z1:List aj).map aj.cells).flatten))] :=
 IL Tryz.func152 114 [1,1,1,1,1,1,1,1,1,1,1,1,1,1,1] [.jM 0 1 6,.q,dr 7 1 [.none,.none,(.pv (vI a)),.none,.none,(.pv (vI b)),(iI (a-b))],.q,.f,.aV [.o,.o,.o,.o,.o,(.pv (vI c)),.o,(.dec true)],.f,.h 3 (.pv d.pv),.aH [0,1,2,8,9,12],.any [0,1,2,6,7] [.none,.none,.none,.none,.none,(.bG [(1,200000)] (some (0,59)) (.row 0 0 z.length 6) [(0,(.pure ((z:List aj).map aj.cells).flatten))]),.none,.none,.none,.none,(.bG [(59,200000)] (some (0,64)) (.row 0 0 z1.length 6) [(0,(.pure ((z1:List aj).map aj.cells).flatten))]),.none],.ra 64 0,.drop [12,9,8],.ord [0]] (Jk h1 h2 (aW h3) (bW h4) (aP h5) (aP h5) (aP h5) h6 (aP h5) (aP h5) (gk h7) h8 h9 ec (Dt p l lo hi d z z1))
theorem Du(p:List af)(l:List (List af))(lo hi j6:af)(z z1:List aj):wA bp mU fn.ntmps (bC (focus [0,2,0,2,0,0,2,1,2,0,0,2,1,2,0,2,0] [.code (ay fn)])) (mf (bC (focus [0,2,0,2,0,0,2,1,2,0,0,2,1,2,0,2,0] [.code (ay fn)])) [0,1,2,6,7]) (jN (bC (focus [0,2,0,2,0,0,2,1,2,0,0,2,1,2,0,2,0] [.code (ay fn)])) [0,1,2,6,7]) [.none,.none,.none,.none,.none,(.bG [(1,200000)] (some (0,59)) (.row 0 0 z.length 6) [(0,(.pure ((z:List aj).map aj.cells).flatten))]),.none,.none,.none,.none,(.bG [(59,200000)] (some (0,64)) (.row 0 0 z1.length 6) [(0,(.pure ((z1:List aj).map aj.cells).flatten))]),.none] (BF mU fn.ntmps (bC (focus [0,2,0,2,0,0,2,1,2,0,0,2,1,2,0,2,0] [.code (ay fn)])) [0,1,2,6,7] ⟨[(0,(.row 1 0 0 6)),(1,(.pv (ae p))),(2,(.pv (cT (aC af.cells) l))),(8,(.ptr 8 0)),(9,(.ptr 9 0)),(12,(.ptr 12 0))],[(12,(.lit [(eB j6.neg),(.pv (aa j6.num)),(.pv (aa j6.den))])),(9,(.lit [(eB hi.neg),(.pv (aa hi.num)),(.pv (aa hi.den))])),(8,(.lit [(eB lo.neg),(.pv (aa lo.num)),(.pv (aa lo.den))])),(1,(.pure (([]:List aj).map aj.cells).flatten))]⟩)=wB bp mU fn.ntmps (bC (focus [0,2,0,2,0,0,2,1,2,0,0,2,1,2,0,2,0] [.code (ay fn)])) (mf (bC (focus [0,2,0,2,0,0,2,1,2,0,0,2,1,2,0,2,0] [.code (ay fn)])) [0,1,2,6,7]) (jN (bC (focus [0,2,0,2,0,0,2,1,2,0,0,2,1,2,0,2,0] [.code (ay fn)])) [0,1,2,6,7]) [.none,.none,.none,.none,.none,(.bG [(1,200000)] (some (0,59)) (.row 0 0 z.length 6) [(0,(.pure ((z:List aj).map aj.cells).flatten))]),.none,.none,.none,.none,(.bG [(59,200000)] (some (0,64)) (.row 0 0 z1.length 6) [(0,(.pure ((z1:List aj).map aj.cells).flatten))]),.none] (BF mU fn.ntmps (bC (focus [0,2,0,2,0,0,2,1,2,0,0,2,1,2,0,2,0] [.code (ay fn)])) [0,1,2,6,7] ⟨[(0,(.row 1 0 0 6)),(1,(.pv (ae p))),(2,(.pv (cT (aC af.cells) l))),(8,(.ptr 8 0)),(9,(.ptr 9 0)),(12,(.ptr 12 0))],[(12,(.lit [(eB j6.neg),(.pv (aa j6.num)),(.pv (aa j6.den))])),(9,(.lit [(eB hi.neg),(.pv (aa hi.num)),(.pv (aa hi.den))])),(8,(.lit [(eB lo.neg),(.pv (aa lo.num)),(.pv (aa lo.den))])),(1,(.pure (([]:List aj).map aj.cells).flatten))]⟩):=by kernel_rfl
theorem e4(p:Rs)(l:List (Rs))(lo hi:af)(b c:Int)(d:af)(z z1:List aj)(h1:Cp 238 [(cT (aC af.cells) l),lo.pv] (vI b))(h2:Cp 238 [(cT (aC af.cells) l),hi.pv] (vI c))(h3:ax (b-c))(h4:(b-c)≠0)(h5:(b-c)≠1)(h6:Cp 176 [(⟨lo,hi⟩:aj).pv] d.pv)(h7:av bp 152 [.row 200000 0 0 6,.pv (ae p),.pv (cT (aC af.cells) l),.pv lo.pv,.pv d.pv] [(200000,(.pure (([]:List aj).map aj.cells).flatten))] (.row 0 0 z.length 6) [(0,(.pure ((z:List aj).map aj.cells).flatten))])(h8:av bp 152 [.row 200000 0 z.length 6,.pv (ae p),.pv (cT (aC af.cells) l),.pv d.pv,.pv hi.pv] [(200000,(.pure ((z:List aj).map aj.cells).flatten))] (.row 0 0 z1.length 6) [(0,(.pure ((z1:List aj).map aj.cells).flatten))]):av bp 152 [(.pv .dF),(.pv (ae p)),(.pv (cT (aC af.cells) l)),(.pv lo.pv),(.pv hi.pv)] [] (.row 0 0 z1.length 6) [(0,(.pure ((z1:List aj).map aj.cells).flatten))] :=
 IL Tryz.func152 114 [1,1,1,1,1,1,1,1,1,1,1,1,1] [.jM 0 1 6,.q,dr 7 1 [.none,.none,(.pv (vI b)),.none,.none,(.pv (vI c)),(iI (b-c))],.q,.f,.aV [.o,.o,.o,.skip,.skip,.skip,.skip,(.dec false)],.a,.h 3 (.pv d.pv),.aH [0,1,2,8,9,12],.any [0,1,2,6,7] [.none,.none,.none,.none,.none,(.bG [(1,200000)] (some (0,59)) (.row 0 0 z.length 6) [(0,(.pure ((z:List aj).map aj.cells).flatten))]),.none,.none,.none,.none,(.bG [(59,200000)] (some (0,64)) (.row 0 0 z1.length 6) [(0,(.pure ((z1:List aj).map aj.cells).flatten))]),.none],.ra 64 0,.drop [12,9,8],.ord [0]] (Ht h1 h2 (aW h3) (bW h4) (bW h5) (bW h5) (bW h5) (bW h5) (bW h5) h6 h7 h8 (Du p l lo hi d z z1))
end iA
namespace iB
@[reducible] noncomputable def fn:Func:=Tryz.f152
theorem e0(a:List aj)(p:Rs)(l:List (Rs))(lo hi:af)(b c:Int)(h1:Cp 238 [(cT (aC af.cells) l),lo.pv] (vI b))(h2:Cp 238 [(cT (aC af.cells) l),hi.pv] (vI c))(h3:ax (b-c))(h4:(b-c)=0):av bp 152 [(.row 200000 0 a.length 6),(.pv (ae p)),(.pv (cT (aC af.cells) l)),(.pv lo.pv),(.pv hi.pv)] [(200000,(.pure ((a:List aj).map aj.cells).flatten))] (.row 0 0 a.length 6) [(0,(.pure ((a:List aj).map aj.cells).flatten))] :=
 IL Tryz.func152 90 [1,1,1,1] [.ra 200000 1,.q,dr 7 1 [.none,.none,(.pv (vI b)),.none,.none,(.pv (vI c)),(iI (b-c))],.q,.t,.q,.ra 1 0,.drop [9,8],.ord [0]] (y4 h1 h2 (aW h3) (aP h4))
theorem e1(a:List aj)(p:Rs)(l:List (Rs))(lo hi:af)(b c d g:Int)(i:aj)(h1:Cp 238 [(cT (aC af.cells) l),lo.pv] (vI b))(h2:Cp 238 [(cT (aC af.cells) l),hi.pv] (vI c))(h3:ax (b-c))(h4:(b-c)≠0)(h5:(b-c)=1)(h6:Cp 239 [ae p,lo.pv] (vI d))(h7:d≠0)(h8:Cp 239 [ae p,hi.pv] (vI g))(h9:g=0)(ec:Cp 65 [hi.pv] i.pv)(il:((a++[i]):List aj).length*112≤140737488355328):av bp 152 [(.row 200000 0 a.length 6),(.pv (ae p)),(.pv (cT (aC af.cells) l)),(.pv lo.pv),(.pv hi.pv)] [(200000,(.pure ((a:List aj).map aj.cells).flatten))] (.row 0 0 ((a++[i]).length) 6) [(0,(.pure (((a++[i]):List aj).map aj.cells).flatten))] :=
 IL Tryz.func152 117 [1,1,1,1,1,1,1,1,1,1,1,1,1,1,6] [.ra 200000 1,.q,dr 7 1 [.none,.none,(.pv (vI b)),.none,.none,(.pv (vI c)),(iI (b-c))],.q,.f,.aV [.o,.o,.o,.o,.o,(.pv (vI d)),.o,(.dec true)],.t,.h 2 (.pv (vI g)),.t,.aV [.o,.o,(.pv i.pv),.o,(.app ((a++[i]):List aj).length (((a++[i]):List aj).map aj.cells).flatten)],.ra 39 0,.drop [38,9,8],.ord [0]] (Jk h1 h2 (aW h3) (bW h4) (aP h5) (aP h5) (aP h5) h6 (aP h5) (aP h5) (gB h7) h8 (aP h9) ec (gR pC (a:List aj) ([i]:List aj) 112 (Eq.refl (a:List aj).length) (Eq.refl ([i]:List aj).length) il rfl))
theorem e2(a:List aj)(p:Rs)(l:List (Rs))(lo hi:af)(b c d g:Int)(i j:af)(h1:Cp 238 [(cT (aC af.cells) l),lo.pv] (vI b))(h2:Cp 238 [(cT (aC af.cells) l),hi.pv] (vI c))(h3:ax (b-c))(h4:(b-c)≠0)(h5:(b-c)=1)(h6:Cp 239 [ae p,lo.pv] (vI d))(h7:d≠0)(h8:Cp 239 [ae p,hi.pv] (vI g))(h9:g≠0)(ec:Cp 91 [lo.pv,(⟨false,[],[]⟩:af).pv] i.pv)(il:Cp 91 [hi.pv,(⟨false,[],[]⟩:af).pv] j.pv)(mF:((a++[(⟨i,j⟩:aj)]):List aj).length*112≤140737488355328):av bp 152 [(.row 200000 0 a.length 6),(.pv (ae p)),(.pv (cT (aC af.cells) l)),(.pv lo.pv),(.pv hi.pv)] [(200000,(.pure ((a:List aj).map aj.cells).flatten))] (.row 0 0 ((a++[(⟨i,j⟩:aj)]).length) 6) [(0,(.pure (((a++[(⟨i,j⟩:aj)]):List aj).map aj.cells).flatten))] :=
 IL Tryz.func152 120 [1,1,1,1,1,1,1,1,1,1,1,1,1,1,1,6] [.ra 200000 1,.q,dr 7 1 [.none,.none,(.pv (vI b)),.none,.none,(.pv (vI c)),(iI (b-c))],.q,.f,.aV [.o,.o,.o,.o,.o,(.pv (vI d)),.o,(.dec true)],.t,.h 2 (.pv (vI g)),.f,dr 9 2 [.none,.none,.none,(.pv i.pv),.none,.none,(.pv j.pv),.none,.none,(.app ((a++[(⟨i,j⟩:aj)]):List aj).length (((a++[(⟨i,j⟩:aj)]):List aj).map aj.cells).flatten)],.ra 49 0,.drop [48,9,8],.ord [0]] (FB h1 h2 (aW h3) (bW h4) (aP h5) (aP h5) (aP h5) h6 (aP h5) (aP h5) (gB h7) h8 (bW h9) ec il (gR pC (a:List aj) ([(⟨i,j⟩:aj)]:List aj) 112 (Eq.refl (a:List aj).length) (Eq.refl ([(⟨i,j⟩:aj)]:List aj).length) mF rfl))
theorem Dt(out:List aj)(p:List af)(l:List (List af))(lo hi j6:af)(z z1:List aj):wA bp mU fn.ntmps (bC (focus [0,2,0,2,0,0,2,1,2,0,0,2,1,2,0,2,0] [.code (ay fn)])) (mf (bC (focus [0,2,0,2,0,0,2,1,2,0,0,2,1,2,0,2,0] [.code (ay fn)])) [0,1,2,6,7]) (jN (bC (focus [0,2,0,2,0,0,2,1,2,0,0,2,1,2,0,2,0] [.code (ay fn)])) [0,1,2,6,7]) [.none,.none,.none,.none,.none,(.bG [(1,200000)] (some (0,59)) (.row 0 0 z.length 6) [(0,(.pure ((z:List aj).map aj.cells).flatten))]),.none,.none,.none,.none,(.bG [(59,200000)] (some (0,64)) (.row 0 0 z1.length 6) [(0,(.pure ((z1:List aj).map aj.cells).flatten))]),.none] (BF mU fn.ntmps (bC (focus [0,2,0,2,0,0,2,1,2,0,0,2,1,2,0,2,0] [.code (ay fn)])) [0,1,2,6,7] ⟨[(0,(.row 1 0 out.length 6)),(1,(.pv (ae p))),(2,(.pv (cT (aC af.cells) l))),(8,(.ptr 8 0)),(9,(.ptr 9 0)),(12,(.ptr 12 0))],[(12,(.lit [(eB j6.neg),(.pv (aa j6.num)),(.pv (aa j6.den))])),(9,(.lit [(eB hi.neg),(.pv (aa hi.num)),(.pv (aa hi.den))])),(8,(.lit [(eB lo.neg),(.pv (aa lo.num)),(.pv (aa lo.den))])),(1,(.pure ((out:List aj).map aj.cells).flatten))]⟩)=wB bp mU fn.ntmps (bC (focus [0,2,0,2,0,0,2,1,2,0,0,2,1,2,0,2,0] [.code (ay fn)])) (mf (bC (focus [0,2,0,2,0,0,2,1,2,0,0,2,1,2,0,2,0] [.code (ay fn)])) [0,1,2,6,7]) (jN (bC (focus [0,2,0,2,0,0,2,1,2,0,0,2,1,2,0,2,0] [.code (ay fn)])) [0,1,2,6,7]) [.none,.none,.none,.none,.none,(.bG [(1,200000)] (some (0,59)) (.row 0 0 z.length 6) [(0,(.pure ((z:List aj).map aj.cells).flatten))]),.none,.none,.none,.none,(.bG [(59,200000)] (some (0,64)) (.row 0 0 z1.length 6) [(0,(.pure ((z1:List aj).map aj.cells).flatten))]),.none] (BF mU fn.ntmps (bC (focus [0,2,0,2,0,0,2,1,2,0,0,2,1,2,0,2,0] [.code (ay fn)])) [0,1,2,6,7] ⟨[(0,(.row 1 0 out.length 6)),(1,(.pv (ae p))),(2,(.pv (cT (aC af.cells) l))),(8,(.ptr 8 0)),(9,(.ptr 9 0)),(12,(.ptr 12 0))],[(12,(.lit [(eB j6.neg),(.pv (aa j6.num)),(.pv (aa j6.den))])),(9,(.lit [(eB hi.neg),(.pv (aa hi.num)),(.pv (aa hi.den))])),(8,(.lit [(eB lo.neg),(.pv (aa lo.num)),(.pv (aa lo.den))])),(1,(.pure ((out:List aj).map aj.cells).flatten))]⟩):=by kernel_rfl
theorem e3(a:List aj)(p:Rs)(l:List (Rs))(lo hi:af)(b c d:Int)(g:af)(z z1:List aj)(h1:Cp 238 [(cT (aC af.cells) l),lo.pv] (vI b))(h2:Cp 238 [(cT (aC af.cells) l),hi.pv] (vI c))(h3:ax (b-c))(h4:(b-c)≠0)(h5:(b-c)=1)(h6:Cp 239 [ae p,lo.pv] (vI d))(h7:d=0)(h8:Cp 176 [(⟨lo,hi⟩:aj).pv] g.pv)(h9:av bp 152 [.row 200000 0 a.length 6,.pv (ae p),.pv (cT (aC af.cells) l),.pv lo.pv,.pv g.pv] [(200000,(.pure ((a:List aj).map aj.cells).flatten))] (.row 0 0 z.length 6) [(0,(.pure ((z:List aj).map aj.cells).flatten))])(ec:av bp 152 [.row 200000 0 z.length 6,.pv (ae p),.pv (cT (aC af.cells) l),.pv g.pv,.pv hi.pv] [(200000,(.pure ((z:List aj).map aj.cells).flatten))] (.row 0 0 z1.length 6) [(0,(.pure ((z1:List aj).map aj.cells).flatten))]):av bp 152 [(.row 200000 0 a.length 6),(.pv (ae p)),(.pv (cT (aC af.cells) l)),(.pv lo.pv),(.pv hi.pv)] [(200000,(.pure ((a:List aj).map aj.cells).flatten))] (.row 0 0 z1.length 6) [(0,(.pure ((z1:List aj).map aj.cells).flatten))] :=
 IL Tryz.func152 114 [1,1,1,1,1,1,1,1,1,1,1,1,1,1,1] [.ra 200000 1,.q,dr 7 1 [.none,.none,(.pv (vI b)),.none,.none,(.pv (vI c)),(iI (b-c))],.q,.f,.aV [.o,.o,.o,.o,.o,(.pv (vI d)),.o,(.dec true)],.f,.h 3 (.pv g.pv),.aH [0,1,2,8,9,12],.any [0,1,2,6,7] [.none,.none,.none,.none,.none,(.bG [(1,200000)] (some (0,59)) (.row 0 0 z.length 6) [(0,(.pure ((z:List aj).map aj.cells).flatten))]),.none,.none,.none,.none,(.bG [(59,200000)] (some (0,64)) (.row 0 0 z1.length 6) [(0,(.pure ((z1:List aj).map aj.cells).flatten))]),.none],.ra 64 0,.drop [12,9,8],.ord [0]] (Jk h1 h2 (aW h3) (bW h4) (aP h5) (aP h5) (aP h5) h6 (aP h5) (aP h5) (gk h7) h8 h9 ec (Dt a p l lo hi g z z1))
theorem Du(out:List aj)(p:List af)(l:List (List af))(lo hi j6:af)(z z1:List aj):wA bp mU fn.ntmps (bC (focus [0,2,0,2,0,0,2,1,2,0,0,2,1,2,0,2,0] [.code (ay fn)])) (mf (bC (focus [0,2,0,2,0,0,2,1,2,0,0,2,1,2,0,2,0] [.code (ay fn)])) [0,1,2,6,7]) (jN (bC (focus [0,2,0,2,0,0,2,1,2,0,0,2,1,2,0,2,0] [.code (ay fn)])) [0,1,2,6,7]) [.none,.none,.none,.none,.none,(.bG [(1,200000)] (some (0,59)) (.row 0 0 z.length 6) [(0,(.pure ((z:List aj).map aj.cells).flatten))]),.none,.none,.none,.none,(.bG [(59,200000)] (some (0,64)) (.row 0 0 z1.length 6) [(0,(.pure ((z1:List aj).map aj.cells).flatten))]),.none] (BF mU fn.ntmps (bC (focus [0,2,0,2,0,0,2,1,2,0,0,2,1,2,0,2,0] [.code (ay fn)])) [0,1,2,6,7] ⟨[(0,(.row 1 0 out.length 6)),(1,(.pv (ae p))),(2,(.pv (cT (aC af.cells) l))),(8,(.ptr 8 0)),(9,(.ptr 9 0)),(12,(.ptr 12 0))],[(12,(.lit [(eB j6.neg),(.pv (aa j6.num)),(.pv (aa j6.den))])),(9,(.lit [(eB hi.neg),(.pv (aa hi.num)),(.pv (aa hi.den))])),(8,(.lit [(eB lo.neg),(.pv (aa lo.num)),(.pv (aa lo.den))])),(1,(.pure ((out:List aj).map aj.cells).flatten))]⟩)=wB bp mU fn.ntmps (bC (focus [0,2,0,2,0,0,2,1,2,0,0,2,1,2,0,2,0] [.code (ay fn)])) (mf (bC (focus [0,2,0,2,0,0,2,1,2,0,0,2,1,2,0,2,0] [.code (ay fn)])) [0,1,2,6,7]) (jN (bC (focus [0,2,0,2,0,0,2,1,2,0,0,2,1,2,0,2,0] [.code (ay fn)])) [0,1,2,6,7]) [.none,.none,.none,.none,.none,(.bG [(1,200000)] (some (0,59)) (.row 0 0 z.length 6) [(0,(.pure ((z:List aj).map aj.cells).flatten))]),.none,.none,.none,.none,(.bG [(59,200000)] (some (0,64)) (.row 0 0 z1.length 6) [(0,(.pure ((z1:List aj).map aj.cells).flatten))]),.none] (BF mU fn.ntmps (bC (focus [0,2,0,2,0,0,2,1,2,0,0,2,1,2,0,2,0] [.code (ay fn)])) [0,1,2,6,7] ⟨[(0,(.row 1 0 out.length 6)),(1,(.pv (ae p))),(2,(.pv (cT (aC af.cells) l))),(8,(.ptr 8 0)),(9,(.ptr 9 0)),(12,(.ptr 12 0))],[(12,(.lit [(eB j6.neg),(.pv (aa j6.num)),(.pv (aa j6.den))])),(9,(.lit [(eB hi.neg),(.pv (aa hi.num)),(.pv (aa hi.den))])),(8,(.lit [(eB lo.neg),(.pv (aa lo.num)),(.pv (aa lo.den))])),(1,(.pure ((out:List aj).map aj.cells).flatten))]⟩):=by kernel_rfl
theorem e4(b:List aj)(p:Rs)(l:List (Rs))(lo hi:af)(c d:Int)(g:af)(z z1:List aj)(h1:Cp 238 [(cT (aC af.cells) l),lo.pv] (vI c))(h2:Cp 238 [(cT (aC af.cells) l),hi.pv] (vI d))(h3:ax (c-d))(h4:(c-d)≠0)(h5:(c-d)≠1)(h6:Cp 176 [(⟨lo,hi⟩:aj).pv] g.pv)(h7:av bp 152 [.row 200000 0 b.length 6,.pv (ae p),.pv (cT (aC af.cells) l),.pv lo.pv,.pv g.pv] [(200000,(.pure ((b:List aj).map aj.cells).flatten))] (.row 0 0 z.length 6) [(0,(.pure ((z:List aj).map aj.cells).flatten))])(h8:av bp 152 [.row 200000 0 z.length 6,.pv (ae p),.pv (cT (aC af.cells) l),.pv g.pv,.pv hi.pv] [(200000,(.pure ((z:List aj).map aj.cells).flatten))] (.row 0 0 z1.length 6) [(0,(.pure ((z1:List aj).map aj.cells).flatten))]):av bp 152 [(.row 200000 0 b.length 6),(.pv (ae p)),(.pv (cT (aC af.cells) l)),(.pv lo.pv),(.pv hi.pv)] [(200000,(.pure ((b:List aj).map aj.cells).flatten))] (.row 0 0 z1.length 6) [(0,(.pure ((z1:List aj).map aj.cells).flatten))] :=
 IL Tryz.func152 114 [1,1,1,1,1,1,1,1,1,1,1,1,1] [.ra 200000 1,.q,dr 7 1 [.none,.none,(.pv (vI c)),.none,.none,(.pv (vI d)),(iI (c-d))],.q,.f,.aV [.o,.o,.o,.skip,.skip,.skip,.skip,(.dec false)],.a,.h 3 (.pv g.pv),.aH [0,1,2,8,9,12],.any [0,1,2,6,7] [.none,.none,.none,.none,.none,(.bG [(1,200000)] (some (0,59)) (.row 0 0 z.length 6) [(0,(.pure ((z:List aj).map aj.cells).flatten))]),.none,.none,.none,.none,(.bG [(59,200000)] (some (0,64)) (.row 0 0 z1.length 6) [(0,(.pure ((z1:List aj).map aj.cells).flatten))]),.none],.ra 64 0,.drop [12,9,8],.ord [0]] (Ht h1 h2 (aW h3) (bW h4) (bW h5) (bW h5) (bW h5) (bW h5) (bW h5) h6 h7 h8 (Du b p l lo hi g z z1))
end iB
namespace fa
@[reducible] noncomputable def fn:Func:=Tryz.f159
noncomputable def bf:List eg:=focus [0,2,0,2,0,2,0,2,0,0,0] [.code (ay fn)]
def inv1(Vl:List af)(yA:List (List af)):St:=⟨[(5,(.pv (ae Vl))),(7,(.row 22 0 yA.length 1))],[(22,(.pure ((yA:List (List af)).map (aC af.cells)).flatten))]⟩
@[reducible] noncomputable def ah(Vl:List af)(yA:List (List af))(r:PV):Prop:=L bp fn bf (inv1 Vl yA) r
theorem e0(p a:Rs)(b:Int)(c:Rs)(d:Int){r:PV}(h1:Cp 78 [ae p] (.aE [ae a,vI b]))(h2:Cp 84 [ae a] (.aE [ae c,vI d]))(hL:ah c [a] r):Cp 159 [ae p] r :=
 eG Tryz.func159 93 [1,1] [.q,.h 1 (.pv (.aE [ae a,vI b])),.h 1 (.pv (.aE [ae c,vI d])),.q,.aH [5,7]] (y2 h1 h2) hL
theorem l10(b:Rs)(c:List (Rs))(k:Nat)(v d g:Rs)(i:Int)(of:af)(j:Rs)(l:Int){r:PV}(h1:0<b.length)(h2:((c++[b]):List (Rs)).length*24≤140737488355328)(h3:ax ((((c++[b]).length:Nat):Int)-2))(h4:((((c++[b]).length:Nat):Int)-2)=(k:Int))(h5:k<(c++[b]).length)(h6:(c++[b])[k]? = some v)(h7:Cp 242 [ae v,ae b] (.aE [ae d,ae g,vI i]))(h8:Cp 89 [(vI (-1))] of.pv)(h9:Cp 243 [ae g,of.pv] (.aE [ae j,vI l]))(hL:ah j (c++[b]) r):ah b c r :=
 lG 132 [1,1,6,1,2,1,1,1,1] [.a,.h 1 (iI (b.length:Int)),.t,.h 3 (.app ((c++[b]):List (Rs)).length (((c++[b]):List (Rs)).map (aC af.cells)).flatten),.aV [.o,.o,.o,(iI ((((c++[b]).length:Nat):Int)-2)),(.nat k),(.ev (.pv (ae v))),.o,(.pv (.aE [ae d,ae g,vI i]))],.aV [.o,(.pv of.pv),(.pv (.aE [ae j,vI l]))],.aH [5,7],.drop [28],.ra 29 22] (y9 (an af.cells b) (ai h1) (gR (qh af.cells) (c:List (Rs)) ([b]:List (Rs)) 24 (Eq.refl (c:List (Rs)).length) (Eq.refl ([b]:List (Rs)).length) h2 rfl) (aW h3) (cj h4 h5) (fj (enc:=(aC af.cells)) (f:=fun a=>(ae a)) (fun _=>rfl) h6) h7 h8 h9) hL
theorem cV(b:Rs)(c:List (Rs))(h1:b.length≤0):ah b c (cT (aC af.cells) c) :=
 lD 126 [1,1,3] [.a,.h 1 (iI (b.length:Int)),.f,.q,.fo 2 ((c:List (Rs)).map (aC af.cells))] (y3 (an af.cells b) (ar h1) (cU (qh af.cells) (c:List (Rs)) (Eq.refl (c:List (Rs)).length)))
end fa
namespace oR
theorem e0(p:Rs)(h1:Cp 79 [ae p] .az)(h2:p.length=0):Cp 165 [ae p] (.iface 67 (vI 8)) :=
 eD Tryz.func165 105 [1,1,1] [.q,.h 1 (.pv .az),.q,.a,.h 1 (iI (p.length:Int)),.t,.q] (y3 h1 (an af.cells p) (aM h2))
theorem e1(p:Rs)(h1:Cp 79 [ae p] .az)(h2:p.length≠0):Cp 165 [ae p] .az :=
 eD Tryz.func165 108 [1,1,1] [.q,.h 1 (.pv .az),.q,.a,.h 1 (iI (p.length:Int)),.f,.q] (y3 h1 (an af.cells p) (aB h2))
theorem e2(p:Rs)(b:Int)(h1:Cp 79 [ae p] (.iface 67 (vI b))):Cp 165 [ae p] (.iface 67 (vI b)) :=
 eD Tryz.func165 90 [1] [.q,.h 1 (.pv (.iface 67 (vI b))),.q,.a,.q] (y1 h1)
end oR
namespace iv
theorem e0(p:Rs)(rV:aj)(a:Bool)(h1:Cp 213 [rV.pv] (vB a))(h2:a=false):Cp 166 [ae p,rV.pv] (.aE [vB false,.az]) :=
 eD Tryz.func166 84 [1,1] [.q,.h 1 (.pv (vB a)),.t,.q] (y2 h1 (cf h2))
theorem e1(p:Rs)(rV:aj)(a:Bool)(b c:Int)(h1:Cp 213 [rV.pv] (vB a))(h2:a=true)(h3:Cp 34 [rV.lo.pv,rV.hi.pv] (vI b))(h4:b=0)(h5:Cp 239 [ae p,rV.lo.pv] (vI c)):Cp 166 [ae p,rV.pv] (.aE [(vB (c==0)),.az]) :=
 eD Tryz.func166 99 [1,1,1,1,1] [.q,.h 1 (.pv (vB a)),.f,.h 4 (.pv (vI b)),.t,.h 3 (.pv (vI c))] (y5 h1 (aU h2) h3 (aP h4) h5)
theorem e2(p:Rs)(rV:aj)(b:Bool)(c:Int)(d:Rs)(g i:Int)(h1:Cp 213 [rV.pv] (vB b))(h2:b=true)(h3:Cp 34 [rV.lo.pv,rV.hi.pv] (vI c))(h4:c≠0)(h5:Cp 76 [ae p] (.aE [ae d,.az]))(h6:Cp 239 [ae d,rV.lo.pv] (vI g))(h7:Cp 239 [ae d,rV.hi.pv] (vI i))(h8:ax (g*i))(h9:(g*i)≠(-1)):Cp 166 [ae p,rV.pv] (.aE [vB false,.az]) :=
 eD Tryz.func166 135 [1,1,1,1,1,1,1,1,1] [.q,.h 1 (.pv (vB b)),.f,.h 4 (.pv (vI c)),.f,.h 1 (.pv (.aE [ae d,.az])),.q,.a,dr 10 0 [.none,.none,.none,(.pv (vI g)),.none,.none,.none,(.pv (vI i)),(iI (g*i))],.t,.q] (y9 h1 (aU h2) h3 (bW h4) h5 h6 h7 (tV h8) (gB h9))
theorem e3(p:Rs)(rV:aj)(b:Bool)(c:Int)(d:Rs)(g i j:Int)(k:Option Int)(h1:Cp 213 [rV.pv] (vB b))(h2:b=true)(h3:Cp 34 [rV.lo.pv,rV.hi.pv] (vI c))(h4:c≠0)(h5:Cp 76 [ae p] (.aE [ae d,.az]))(h6:Cp 239 [ae d,rV.lo.pv] (vI g))(h7:Cp 239 [ae d,rV.hi.pv] (vI i))(h8:ax (g*i))(h9:(g*i)=(-1))(ec:Cp 246 [ae p,rV.lo.pv,rV.hi.pv] (.aE [vI j,bc k])):Cp 166 [ae p,rV.pv] (.aE [(vB (j==1)),bc k]) :=
 eD Tryz.func166 144 [1,1,1,1,1,1,1,1,1,1] [.q,.h 1 (.pv (vB b)),.f,.h 4 (.pv (vI c)),.f,.h 1 (.pv (.aE [ae d,.az])),.q,.a,dr 10 0 [.none,.none,.none,(.pv (vI g)),.none,.none,.none,(.pv (vI i)),(iI (g*i))],.f,.h 5 (.pv (.aE [vI j,bc k])),.q] (FA h1 (aU h2) h3 (bW h4) h5 h6 h7 (tV h8) (gk h9) ec)
end iv
namespace dP
theorem e0(p:Rs)(rV:aj)(a:Bool)(h1:Cp 247 [rV.pv] (vB a))(h2:a=false):Cp 168 [ae p,rV.pv] (vB false) :=
 eD Tryz.func168 84 [1,1] [.q,.h 1 (.pv (vB a)),.t,.q] (y2 h1 (cf h2))
theorem e1(p:Rs)(rV:aj)(a:Bool)(b c:Int)(h1:Cp 247 [rV.pv] (vB a))(h2:a=true)(h3:Cp 69 [rV.lo.pv,rV.hi.pv] (vI b))(h4:b=0)(h5:Cp 248 [ae p,rV.lo.pv] (vI c)):Cp 168 [ae p,rV.pv] (vB (c==0)) :=
 eD Tryz.func168 99 [1,1,1,1,1] [.q,.h 1 (.pv (vB a)),.f,.h 4 (.pv (vI b)),.t,.h 3 (.pv (vI c))] (y5 h1 (aU h2) h3 (aP h4) h5)
theorem e2(p:Rs)(rV:aj)(a:Bool)(b c d g:Int)(h1:Cp 247 [rV.pv] (vB a))(h2:a=true)(h3:Cp 69 [rV.lo.pv,rV.hi.pv] (vI b))(h4:b≠0)(h5:Cp 248 [ae p,rV.lo.pv] (vI c))(h6:Cp 248 [ae p,rV.hi.pv] (vI d))(h7:ax (c*d))(h8:(c*d)=(-1))(h9:Cp 249 [ae p,rV.lo.pv,rV.hi.pv] (vI g)):Cp 168 [ae p,rV.pv] (vB (g==1)) :=
 eD Tryz.func168 102 [1,1,1,1,1,1,1,1,1,1,1,1,1,1,1,1] [.q,.h 1 (.pv (vB a)),.f,.h 4 (.pv (vI b)),.f,dr 19 1 [.none,.none,.none,(.pv (vI c)),.none,.none,.none,(.pv (vI d)),(iI (c*d)),.none,.none,.none,.none,.none,.none,.none,(.pv (vI g)),.none,(.dec true)]] (FB h1 (aU h2) h3 (bW h4) h5 h6 (tV h7) (aP h8) (aP h8) (aP h8) (aP h8) (aP h8) (aP h8) h9 (aP h8) (aP h8))
theorem e3(p:Rs)(rV:aj)(a:Bool)(b c d:Int)(h1:Cp 247 [rV.pv] (vB a))(h2:a=true)(h3:Cp 69 [rV.lo.pv,rV.hi.pv] (vI b))(h4:b≠0)(h5:Cp 248 [ae p,rV.lo.pv] (vI c))(h6:Cp 248 [ae p,rV.hi.pv] (vI d))(h7:ax (c*d))(h8:(c*d)≠(-1)):Cp 168 [ae p,rV.pv] (vB false) :=
 eD Tryz.func168 102 [1,1,1,1,1,1,1,1,1,1,1,1,1,1,1] [.q,.h 1 (.pv (vB a)),.f,.h 4 (.pv (vI b)),.f,dr 19 1 [.none,.none,.none,(.pv (vI c)),.none,.none,.none,(.pv (vI d)),(iI (c*d)),.none,.none,.skip,.skip,.skip,.skip,.skip,.skip,.skip,(.dec false)]] (Jk h1 (aU h2) h3 (bW h4) h5 h6 (tV h7) (bW h8) (bW h8) (bW h8) (bW h8) (bW h8) (bW h8) (bW h8) (bW h8))
end dP
namespace gj
@[reducible] noncomputable def fn:Func:=Tryz.f238
noncomputable def bf:List eg:=focus [0,2,0,2,0,0,2,0,0] [.code (ay fn)]
def inv1(P0:Nat)(ux:Int)(l:List (List af))(zW:Nat)(x:af):St:=⟨[(3,(.ptr 3 0)),(5,(eI (P0:Int))),(6,(eI ux)),(10,(.pv (cT (aC af.cells) l))),(11,(eI (l.length:Int))),(12,(eI (zW:Int)))],[(3,(.lit [(eB x.neg),(.pv (aa x.num)),(.pv (aa x.den))]))]⟩
@[reducible] noncomputable def ah(P0:Nat)(ux:Int)(l:List (List af))(zW:Nat)(x:af)(r:PV):Prop:=L bp fn bf (inv1 P0 ux l zW x) r
theorem e0 (l : List (Rs)) (x : af) {r : PV}  (hL : ah 0 0 l 0 x r) : Cp 238 [(cT (aC af.cells) l), x.pv] r :=
 eG Tryz.func238 87 [1] [.q,.q,.h 1 (iI (l.length:Int)),.aH [3,5,6,10,11,12]] (y1 (an (aC af.cells) l)) hL
theorem l10(b:Nat)(c:Int)(l:List (Rs))(d:Nat)(x:af)(v:Rs)(g:Int){r:PV}(h1:d<l.length)(h2:l[d]? = some v)(h3:Cp 239 [ae v,x.pv] (vI g))(h4:g≠0)(h5:ax (-c))(h6:g=(-c))(h7:(b+1)<9223372036854775808)(h8:(d+1)<9223372036854775808)(hL:ah (b+1) g l (d+1) x r):ah b c l d x r :=
 lG 156 [1,3,1,1,1,1,1,1] [.a,.q,.t,.h 0 (.row d ((aC af.cells) v)),.h 2 (.pv (vI g)),.q,.t,.h 2 (iI (-c)),.t,.h 1 (iI (((b+1):Nat):Int)),.q,.h 0 (iI (((d+1):Nat):Int)),.aH [3,5,6,10,11,12]] (y8 (ai h1) (bO (aC af.cells) (Eq.refl (((d:Nat):Int):Int)) h2) h3 (gB h4) (o4 h5) (aP h6) (aL h7) (aL h8)) hL
theorem cV(b:Nat)(c:Int)(l:List (Rs))(d:Nat)(x:af)(v:Rs)(g:Int){r:PV}(h1:d<l.length)(h2:l[d]? = some v)(h3:Cp 239 [ae v,x.pv] (vI g))(h4:g≠0)(h5:ax (-c))(h6:g≠(-c))(h7:(d+1)<9223372036854775808)(hL:ah b g l (d+1) x r):ah b c l d x r :=
 lG 156 [1,3,1,1,1,1,1] [.a,.q,.t,.h 0 (.row d ((aC af.cells) v)),.h 2 (.pv (vI g)),.q,.t,.h 2 (iI (-c)),.f,.q,.h 0 (iI (((d+1):Nat):Int)),.aH [3,5,6,10,11,12]] (y7 (ai h1) (bO (aC af.cells) (Eq.refl (((d:Nat):Int):Int)) h2) h3 (gB h4) (o4 h5) (bW h6) (aL h7)) hL
theorem kI(b:Nat)(c:Int)(l:List (Rs))(d:Nat)(x:af)(v:Rs)(g:Int){r:PV}(h1:d<l.length)(h2:l[d]? = some v)(h3:Cp 239 [ae v,x.pv] (vI g))(h4:g=0)(h5:(d+1)<9223372036854775808)(hL:ah b c l (d+1) x r):ah b c l d x r :=
 lG 141 [1,3,1,1,1] [.a,.q,.t,.h 0 (.row d ((aC af.cells) v)),.h 2 (.pv (vI g)),.q,.f,.h 0 (iI (((d+1):Nat):Int)),.aH [3,5,6,10,11,12]] (y5 (ai h1) (bO (aC af.cells) (Eq.refl (((d:Nat):Int):Int)) h2) h3 (gk h4) (aL h5)) hL
theorem ta(b:Nat)(c:Int)(l:List (Rs))(d:Nat)(x:af)(h1:l.length≤d):ah b c l d x (vI (b:Int)) :=
 lD 120 [1] [.a,.q,.f,.q] (y1 (ar h1))
end gj
namespace se
theorem e0(p:Rs)(x a:af)(b:Option Int)(c:Int)(h1:Cp 133 [ae p,x.pv] (.aE [a.pv,bc b]))(h2:Cp 33 [a.pv] (vI c)):Cp 239 [ae p,x.pv] (vI c) :=
 eD Tryz.func239 78 [1,1] [.q,.h 2 (.pv (.aE [a.pv,bc b])),.h 1 (.pv (vI c))] (y2 h1 h2)
end se
namespace cR
@[reducible] noncomputable def fn:Func:=Tryz.f241
noncomputable def bf:List eg:=focus [0,2,0,2,0,0,2,0,0] [.code (ay fn)]
def inv1(P0:Nat)(ux:Int)(l:List (List af))(zW:Nat)(x:af):St:=⟨[(3,(.ptr 3 0)),(5,(eI (P0:Int))),(6,(eI ux)),(10,(.pv (cT (aC af.cells) l))),(11,(eI (l.length:Int))),(12,(eI (zW:Int)))],[(3,(.lit [(eB x.neg),(.pv (aa x.num)),(.pv (aa x.den))]))]⟩
@[reducible] noncomputable def ah(P0:Nat)(ux:Int)(l:List (List af))(zW:Nat)(x:af)(r:PV):Prop:=L bp fn bf (inv1 P0 ux l zW x) r
theorem e0 (l : List (Rs)) (x : af) {r : PV}  (hL : ah 0 0 l 0 x r) : Cp 241 [(cT (aC af.cells) l), x.pv] r :=
 eG Tryz.func241 87 [1] [.q,.q,.h 1 (iI (l.length:Int)),.aH [3,5,6,10,11,12]] (y1 (an (aC af.cells) l)) hL
theorem l10(b:Nat)(c:Int)(l:List (Rs))(d:Nat)(x:af)(v:Rs)(g:af)(i:Int){r:PV}(h1:d<l.length)(h2:l[d]? = some v)(h3:Cp 208 [ae v,x.pv] g.pv)(h4:Cp 124 [g.pv] (vI i))(h5:i=0)(h6:(d+1)<9223372036854775808)(hL:ah b c l (d+1) x r):ah b c l d x r :=
 lG 147 [1,3,1,1,1,1] [.a,.q,.t,.h 0 (.row d ((aC af.cells) v)),.aV [.o,.o,(.pv g.pv),(.pv (vI i))],.q,.t,.h 0 (iI (((d+1):Nat):Int)),.aH [3,5,6,10,11,12]] (y6 (ai h1) (bO (aC af.cells) (Eq.refl (((d:Nat):Int):Int)) h2) h3 h4 (aP h5) (aL h6)) hL
theorem cV(b:Nat)(c:Int)(l:List (Rs))(d:Nat)(x:af)(v:Rs)(g:af)(i:Int){r:PV}(h1:d<l.length)(h2:l[d]? = some v)(h3:Cp 208 [ae v,x.pv] g.pv)(h4:Cp 124 [g.pv] (vI i))(h5:i≠0)(h6:ax (-c))(h7:i=(-c))(h8:(b+1)<9223372036854775808)(h9:(d+1)<9223372036854775808)(hL:ah (b+1) i l (d+1) x r):ah b c l d x r :=
 lG 162 [1,3,1,1,1,1,1,1,1] [.a,.q,.t,.h 0 (.row d ((aC af.cells) v)),.aV [.o,.o,(.pv g.pv),(.pv (vI i))],.q,.f,.h 2 (iI (-c)),.t,.h 1 (iI (((b+1):Nat):Int)),.q,.h 0 (iI (((d+1):Nat):Int)),.aH [3,5,6,10,11,12]] (y9 (ai h1) (bO (aC af.cells) (Eq.refl (((d:Nat):Int):Int)) h2) h3 h4 (bW h5) (o4 h6) (aP h7) (aL h8) (aL h9)) hL
theorem kI(b:Nat)(c:Int)(l:List (Rs))(d:Nat)(x:af)(v:Rs)(g:af)(i:Int){r:PV}(h1:d<l.length)(h2:l[d]? = some v)(h3:Cp 208 [ae v,x.pv] g.pv)(h4:Cp 124 [g.pv] (vI i))(h5:i≠0)(h6:ax (-c))(h7:i≠(-c))(h8:(d+1)<9223372036854775808)(hL:ah b i l (d+1) x r):ah b c l d x r :=
 lG 162 [1,3,1,1,1,1,1,1] [.a,.q,.t,.h 0 (.row d ((aC af.cells) v)),.aV [.o,.o,(.pv g.pv),(.pv (vI i))],.q,.f,.h 2 (iI (-c)),.f,.q,.h 0 (iI (((d+1):Nat):Int)),.aH [3,5,6,10,11,12]] (y8 (ai h1) (bO (aC af.cells) (Eq.refl (((d:Nat):Int):Int)) h2) h3 h4 (bW h5) (o4 h6) (bW h7) (aL h8)) hL
theorem ta(b:Nat)(c:Int)(l:List (Rs))(d:Nat)(x:af)(h1:l.length≤d):ah b c l d x (vI (b:Int)) :=
 lD 120 [1] [.a,.q,.f,.q] (y1 (ar h1))
end cR
namespace xI
theorem e3(p:Rs)(lo hi:af)(b c:Bool)(d:Int)(g:List (Rs))(i j:Int)(h1:Cp 165 [ae p] .az)(h2:Cp 164 [lo.pv] (vB b))(h3:b=true)(h4:Cp 164 [hi.pv] (vB c))(h5:c=true)(h6:Cp 34 [lo.pv,hi.pv] (vI d))(h7:d≤0)(h8:Cp 151 [ae p] (.aE [(cT (aC af.cells) g),.az]))(h9:Cp 238 [(cT (aC af.cells) g),lo.pv] (vI i))(ec:Cp 238 [(cT (aC af.cells) g),hi.pv] (vI j))(il:ax (i-j)):Cp 246 [ae p,lo.pv,hi.pv] (.aE [(vI (i-j)),.az]) :=
 eD Tryz.func246 129 [1,1,1,1,1,1,1,1,1,1,1,1,1,1,1,1,1,1] [.q,.h 1 (.pv .az),.q,.a,.aV [.o,(.pv (vB b)),.o,.o,.o,(.pv (vB c)),.o,(.dec false),.o,.o,.o,(.pv (vI d)),.o,(.dec false)],.f,.h 1 (.pv (.aE [(cT (aC af.cells) g),.az])),.q,.a,dr 7 2 [.none,.none,(.pv (vI i)),.none,.none,(.pv (vI j)),(iI (i-j))]] (RL h1 h2 (aU h3) (aU h3) h4 (aU h3) (aU h3) (aU h5) (aU h5) (aU h5) h6 (aU h5) (aU h5) (bD h7) h8 h9 ec (aW il))
end xI
namespace nS
theorem e0(p:Rs)(x:af)(a:Rs)(b:Int)(c:af)(d:Int)(h1:Cp 78 [ae p] (.aE [ae a,vI b]))(h2:Cp 208 [ae a,x.pv] c.pv)(h3:Cp 124 [c.pv] (vI d)):Cp 248 [ae p,x.pv] (vI d) :=
 eD Tryz.func248 78 [1,1,1] [.q,.h 1 (.pv (.aE [ae a,vI b])),.aV [.o,.o,(.pv c.pv),(.pv (vI d))]] (y3 h1 h2 h3)
end nS
namespace mQ
theorem e0(p:Rs)(lo hi:af)(a:List (Rs))(b c:Int)(h1:Cp 159 [ae p] (cT (aC af.cells) a))(h2:Cp 241 [(cT (aC af.cells) a),lo.pv] (vI b))(h3:Cp 241 [(cT (aC af.cells) a),hi.pv] (vI c))(h4:ax (b-c)):Cp 249 [ae p,lo.pv,hi.pv] (vI (b-c)) :=
 eD Tryz.func249 78 [1,1,1,1] [.q,.h 1 (.pv (cT (aC af.cells) a)),dr 7 1 [.none,.none,(.pv (vI b)),.none,.none,(.pv (vI c)),(iI (b-c))]] (y4 h1 h2 h3 (aW h4))
end mQ
end Go.Proofs.YtllmkadmohkbfaaGreatDoor.Sym.Path
