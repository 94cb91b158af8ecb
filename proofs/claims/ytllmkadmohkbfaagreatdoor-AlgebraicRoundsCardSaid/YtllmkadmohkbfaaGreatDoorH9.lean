/- Lemmas for the statements of this seat. -/
import Derived.Test.YtllmkadmohkbfaaGreatDoorH8
import Derived.Test.YtllmkadmohkbfaaGreatDoorQ6
import Derived.Test.YtllmkadmohkbfaaGreatDoorH3
namespace Go.Proofs.YtllmkadmohkbfaaGreatDoor.Sym
open Go Path cP
set_option linter.unusedVariables false
def Fa(v:af):Bool := !v.neg&&v.num.isEmpty&&v.den.isEmpty
def N7(a:List af):Nat→List af
 |0=>if (a.take 1).all Fa then [] else a.take 1
 |k+1=>if ((a.take (2^(k+1))).drop (2^k)).all Fa then N7 a k else a.take (2^(k+1))
theorem Hj{α:Type}{p:α→Bool}{l:List α}{t:Nat}{v:α}(h:l[t]? = some v):(l.drop t).all p=(p v&&(l.drop (t+1)).all p):=by
 rw[drop_cons h,List.all_cons]
namespace NJ
theorem DX{k:Nat}(h:k≤10):1*2^k<9223372036854775808:=by
 have:2^k≤2^10:=Nat.pow_le_pow_right (by omega) h
 omega
theorem level{a:List af}{k:Nat}(hk:k≤10)(h:a.length=2^k):Cp 195 [ae a] (vI (k:Int)):=by
 have loop:∀d t:Nat,t+d=k→jK.ah a t (vI (k:Int)):=by
  intro d
  induction d with
  |zero =>
   intro t ht
   have:t=k:=by omega
   subst this
   exact jK.kM a t (by omega) (DX hk) (by omega) (by omega)
  |succ d ih =>
   intro t ht
   have:2^t<2^k:=Nat.pow_lt_pow_right (by omega) (by omega)
   exact jK.l10 a t (by omega) (DX (by omega)) (by omega) (by omega) (ih (t+1) (by omega))
 exact jK.e0 a (loop k 0 (by omega))
theorem K5:Cp 195 [ae []] (vI (-1)) :=
 jK.e0 [] (jK.cR [] 0 (by omega) (by decide) (by decide) (by decide))
theorem empty(a:List af)(hl:a.length≤1000):Cp 196 [ae a] (vB (a.all Fa)):=by
 have loop:∀d t:Nat,a.length-t=d→iE.ah a t (vB ((a.drop t).all Fa)):=by
  intro d
  induction d with
  |zero =>
   intro t hd
   rw[List.drop_of_length_le (by omega)]
   exact iE.Ew a t (by omega)
  |succ d ih =>
   intro t hd
   obtain⟨v,hv⟩:∃v,a[t]? = some v:=⟨_,List.getElem?_eq_getElem (by omega)⟩
   rw[Hj hv]
   unfold Fa
   by_cases h1:v.neg=true
   ·rw[h1]
    exact iE.l10 a t v (by omega) hv h1
   ·rw[Bool.not_eq_true] at h1
    rw[h1]
    by_cases h2:v.num=[]
    ·rw[h2]
     by_cases h3:v.den=[]
     ·rw[h3]
      exact iE.tq a t v (by omega) hv h1 (by rw[h2];simp) (by rw[h3];simp) (by omega) (ih (t+1) (by omega))
     ·rw[show v.den.isEmpty=false from by cases hh:v.den<;>simp_all]
      exact iE.kM a t v (by omega) hv h1 (by rw[h2];simp) (List.length_pos_iff.2 h3)
    ·rw[show v.num.isEmpty=false from by cases hh:v.num<;>simp_all]
     exact iE.cR a t v (by omega) hv h1 (List.length_pos_iff.2 h2)
 have:=loop _ 0 rfl
 rw[List.drop_zero] at this
 exact iE.e0 a this
theorem copied(a:List af)(hl:a.length≤1000)(hf:lh 1073741824 a):Cp 178 [ae a] (ae a):=by
 have loop:∀d t:Nat,a.length-t=d→t≤a.length→me.ah (a.take t) a t (ae a):=by
  intro d
  induction d with
  |zero =>
   intro t hd ht
   rw[show a.take t=a from List.take_of_length_le (by omega)]
   exact me.cR a a t (by omega)
  |succ d ih =>
   intro t hd ht
   obtain⟨v,hv⟩:∃v,a[t]? = some v:=⟨_,List.getElem?_eq_getElem (by omega)⟩
   have:=ih (t+1) (by omega) (by omega)
   rw[List.take_add_one,hv] at this
   have f:=hf v (List.mem_of_getElem? hv)
   exact me.l10 _ a t v (by omega) hv (by rw[List.nil_append];have:=f.1;omega) (by rw[List.nil_append];have:=f.2;omega) (by rw[List.length_append,List.length_take,List.length_singleton];omega) (by omega) this
 exact me.e0 a (loop _ 0 rfl (by omega))
theorem K6:Cp 116 [ae []] (ae []) :=
 gP.e3 [] (-1) K5 (by decide) (gP.WM [] 0 [] (by omega) (by omega) (by decide) (copied [] (by decide) (by intro x h;cases h)))
theorem NK{a:List af}{k:Nat}(hk:k≤5)(h:a.length=2^k)(hf:lh 1073741824 a):Cp 116 [ae a] (ae (N7 a k)):=by
 have tk:∀n,lh 1073741824 (a.take n):=fun n x hx=>hf x (List.mem_of_mem_take hx)
 have b5:2^k≤2^5:=Nat.pow_le_pow_right (by omega) hk
 have loop:∀t:Nat,t≤k→gP.ah a (2^t) (ae (N7 a t)):=by
  intro t
  induction t with
  |zero =>
   intro _
   have p0:0<2^k:=Nat.two_pow_pos _
   have e:=empty (a.take 1) (by rw[List.length_take];omega)
   unfold N7
   by_cases hb:(a.take 1).all Fa=true
   ·rw[if_pos hb]
    exact gP.Ew a 1 _ (by omega) rfl (by omega) e hb
   ·rw[if_neg hb]
    exact gP.TW a 1 _ _ (by omega) rfl (by omega) e (by rwa[Bool.not_eq_true] at hb) (by omega) (copied _ (by rw[List.length_take];omega) (tk 1))
  |succ t ih =>
   intro ht
   have le:2^(t+1)≤2^k:=Nat.pow_le_pow_right (by omega) ht
   have p0:0<2^t:=Nat.two_pow_pos _
   have hh:2^(t+1)/2=2^t:=by rw[Nat.pow_succ];omega
   have h2:1<2^(t+1):=by rw[Nat.pow_succ];omega
   have e:=empty ((a.take (2^(t+1))).drop (2^t)) (by rw[List.length_drop,List.length_take];omega)
   unfold N7
   by_cases hb:((a.take (2^(t+1))).drop (2^t)).all Fa=true
   ·rw[if_pos hb]
    exact gP.l10 a _ _ h2 (by omega) (by omega) (by omega) (by rw[hh];exact e) hb (by rw[hh];exact ih (by omega))
   ·rw[if_neg hb]
    exact gP.tq a _ _ _ h2 (by omega) (by omega) (by omega) (by rw[hh];exact e) (by rwa[Bool.not_eq_true] at hb) (by omega) (copied _ (by rw[List.length_take];omega) (tk _))
 have:=loop k (Nat.le_refl _)
 rw[←h] at this
 have p0:0<2^k:=Nat.two_pow_pos _
 exact gP.e2 a (k:Int) (level (by omega) h) (by omega) (by omega) (by omega) this
end NJ
def zV(q:List Rat):Bool:=q.all (fun x=>decide (x=0))
def sN(q:List Rat)(n:Nat):List Rat:=q.take n++List.replicate (n-q.length) 0
def Kd(p q:List Rat):List Rat:=List.zipWith (·+·) (sN p (max p.length q.length)) (sN q (max p.length q.length))
theorem uD(q:List Rat)(n:Nat):(sN q n).length=n:=by unfold sN;rw[List.length_append,List.length_take,List.length_replicate];omega
theorem wY{α:Type}{l1 l2:List α}{v w:α}{t:Nat}(h:l1.length=t):(l1++v::l2).set t w=(l1++[w])++l2:=by
 subst h
 simp
namespace NJ
theorem zero(q:List Rat)(hl:q.length≤1000)(hf:Fl 68719476736 q):Cp 197 [pq q] (vB (zV q)):=by
 have loop:∀d t:Nat,q.length-t=d→mQ.ah (q.map aJ) t (vB (zV (q.drop t))):=by
  intro d
  induction d with
  |zero =>
   intro t hd
   rw[List.drop_of_length_le (by omega)]
   exact mQ.kM _ t (by rw[List.length_map];omega)
  |succ d ih =>
   intro t hd
   obtain⟨v,hv⟩:∃v,q[t]? = some v:=⟨_,List.getElem?_eq_getElem (by omega)⟩
   have Fj:(q.map aJ)[t]? = some (aJ v):=by rw[List.getElem?_map,hv];rfl
   have s:=QF.Sign v (hf v (List.mem_of_getElem? hv))
   unfold zV
   rw[Hj hv]
   by_cases h0:v=0
   ·rw[decide_eq_true h0]
    exact mQ.cR _ t _ _ (by rw[List.length_map];omega) Fj s (ew.2 h0) (by omega) (ih (t+1) (by omega))
   ·rw[decide_eq_false h0]
    exact mQ.l10 _ t _ _ (by rw[List.length_map];omega) Fj s (fun e=>h0 (ew.1 e))
 have:=loop _ 0 rfl
 rw[List.drop_zero] at this
 exact mQ.e0 _ this
theorem minus(q:List Rat)(hl:q.length≤1000)(hf:Fl 68719476736 q):Cp 120 [pq q] (pq (q.map (- ·))):=by
 have loop:∀d t:Nat,q.length-t=d→t≤q.length→nD.ah (q.map aJ) t (((q.take t).map (- ·)).map aJ++List.replicate d (⟨false,[],[]⟩:af)) (pq (q.map (- ·))):=by
  intro d
  induction d with
  |zero =>
   intro t hd ht
   rw[show q.take t=q from List.take_of_length_le (by omega),List.replicate_zero,List.append_nil]
   exact nD.cR _ t _ (by rw[List.length_map];omega) (by simp)
  |succ d ih =>
   intro t hd ht
   obtain⟨v,hv⟩:∃v,q[t]? = some v:=⟨_,List.getElem?_eq_getElem (by omega)⟩
   have Fj:(q.map aJ)[t]? = some (aJ v):=by rw[List.getElem?_map,hv];rfl
   have s:=QF.Neg v (hf v (List.mem_of_getElem? hv))
   have:=ih (t+1) (by omega) (by omega)
   rw[List.take_add_one,hv] at this
   refine nD.l10 _ t _ _ _ (by rw[List.length_map];omega) Fj s (by simp;omega) (by omega) ?_
   rw[List.replicate_succ,wY (by simp;omega)]
   simpa using this
 have:=loop _ 0 rfl (by omega)
 refine nD.e0 _ (by rw[List.length_map];omega) ?_
 rw[List.length_map]
 simpa using this
theorem Fb(q:List Rat)(n:Nat):(q.map aJ).take (min (q.map aJ).length n)++(List.replicate n (⟨false,[],[]⟩:af)).drop (min (q.map aJ).length n)=(sN q n).map aJ:=by
 unfold sN
 rw[List.map_append,List.map_take,List.map_replicate,rf,List.length_map,List.drop_replicate]
 by_cases h:q.length≤n
 ·rw[Nat.min_eq_left h,List.take_of_length_le (by simp),List.take_of_length_le (by simp;omega)]
 ·rw[Nat.min_eq_right (by omega),Nat.sub_self,show n-q.length=0 from by omega]
theorem wide(q:List Rat)(n:Nat)(hn:n≤1000):Cp 177 [pq q,vI (n:Int)] (pq (sN q n)):=by
 have:=BG.e0 (q.map aJ) (n:Int) n rfl (by omega) (by rw[List.length_replicate];omega) (by rw[Fb,List.length_map,uD])
 rwa[Fb] at this
theorem UF(q:List Rat)(n:Nat)(hn:n≤1000):av bp 177 [.pv (pq q),.pv (vI (n:Int))] [] (.row 0 0 n 3) [(0,(.pure ((((sN q n).map aJ):List af).map af.cells).flatten))]:=by
 have:=zd.e0 (q.map aJ) (n:Int) n rfl (by omega) (by rw[List.length_replicate];omega)
 rwa[Fb,List.take_of_length_le (by rw[List.length_map,uD];omega)] at this
end NJ
theorem Ke{H:Nat}{q:List Rat}(n:Nat)(h:Fl H q)(h1:1≤H):Fl H (sN q n):=fun x hx=>by
 unfold sN at hx
 rcases List.mem_append.1 hx with hx|hx
 ·exact h x (List.mem_of_mem_take hx)
 ·rw[(List.mem_replicate.1 hx).2]
  exact Nat.le_trans (show ht 0≤1 by decide) h1
theorem Kf(x:Rat):Fa (aJ x)=decide (x=0):=by
 by_cases h:x=0
 ·subst h;rfl
 ·rw[decide_eq_false h]
  refine Bool.eq_false_iff.2 fun e=>h ?_
  apply JC
  rw[rf]
  unfold Fa at e
  rcases hm:aJ x with ⟨a,b,c⟩
  rw[hm] at e
  simp at e
  obtain⟨⟨rfl,rfl⟩,rfl⟩:=e
  rfl
namespace NJ
theorem plus(p q:List Rat)(hp:p.length≤1000)(hq:q.length≤1000)(fp:Fl 68719476736 p)(fq:Fl 68719476736 q):Cp 118 [pq p,pq q] (pq (Kd p q)):=by
 unfold Kd
 have ln:max (p.map aJ).length (q.map aJ).length=max p.length q.length:=by rw[List.length_map,List.length_map]
 generalize hn:max p.length q.length=n at *
 have wx:=UF p n (by omega)
 have w:=wide q n (by omega)
 have hA:=uD p n
 have hB:=uD q n
 have fA:=Ke n fp (by omega)
 have fB:=Ke n fq (by omega)
 generalize sN p n=A at *
 generalize sN q n=B at *
 have loop:∀d t:Nat,n-t=d→t≤n→o8.ah n (B.map aJ) t ((List.zipWith (·+·) (A.take t) (B.take t)++A.drop t).map aJ) (pq (List.zipWith (·+·) A B)):=by
  intro d
  induction d with
  |zero =>
   intro t hd ht
   rw[show A.take t=A from List.take_of_length_le (by omega),show B.take t=B from List.take_of_length_le (by omega),List.drop_of_length_le (by omega),List.append_nil]
   exact o8.cR n _ t _ (by omega) (by simp;omega)
  |succ d ih =>
   intro t hd ht
   obtain⟨v,hv⟩:∃v,A[t]? = some v:=⟨_,List.getElem?_eq_getElem (by omega)⟩
   obtain⟨u,hu⟩:∃v,B[t]? = some v:=⟨_,List.getElem?_eq_getElem (by omega)⟩
   have hl:(List.zipWith (·+·) (A.take t) (B.take t)).length=t:=by simp;omega
   have:=ih (t+1) (by omega) (by omega)
   rw[List.take_add_one,List.take_add_one,hv,hu] at this
   refine o8.l10 n _ t _ (aJ v) (aJ u) (aJ (v+u)) (by omega) ?_ (by rw[List.getElem?_map,hu];rfl) (QF.Add v u (fA v (List.mem_of_getElem? hv)) (fB u (List.mem_of_getElem? hu))) (by simp;omega) (by omega) ?_
   ·rw[List.getElem?_map,List.getElem?_append_right (by omega),hl,Nat.sub_self,List.getElem?_drop,Nat.add_zero,hv];rfl
   ·rw[drop_cons hv,List.map_append,List.map_cons,wY (by rw[List.length_map];exact hl)]
    rw[List.zipWith_append (by simp;omega)] at this
    simpa using this
 have:=loop _ 0 rfl (by omega)
 refine o8.e0 _ _ (A.map aJ) n (B.map aJ) (by rw[ln];exact wx) (by rw[ln];exact w) ?_
 simpa using this
theorem UG{H:Nat}{q:List Rat}(h:Fl H q)(h1:H≤68719476736):Fl 68719476736 q:=fun x hx=>Nat.le_trans (h x hx) h1
theorem number(t:bz)(q:List Rat)(hf:Fl 68719476736 q)(ht:t.roots.length≤10)(hl:q=[]∨∃k,k≤t.roots.length∧q.length=2^k):Cp 194 [t.pv,pq q] .az:=by
 have hlen:q.length≤1024:=by
  rcases hl with rfl|⟨k,h1,h2⟩
  ·simp
  ·have:2^k≤2^10:=Nat.pow_le_pow_right (by omega) (by omega)
   omega
 have loop:∀d t:Nat,q.length-t=d→j6.ah (q.map aJ) t .az:=by
  intro d
  induction d with
  |zero =>
   intro t hd
   exact j6.kM _ t (by rw[List.length_map];omega)
  |succ d ih =>
   intro t hd
   obtain⟨v,hv⟩:∃v,q[t]? = some v:=⟨_,List.getElem?_eq_getElem (by omega)⟩
   have Fj:(q.map aJ)[t]? = some (aJ v):=by rw[List.getElem?_map,hv];rfl
   exact j6.cR _ t _ _ (by rw[List.length_map];omega) Fj (QF.Valid v (hf v (List.mem_of_getElem? hv))) rfl (by omega) (ih (t+1) (by omega))
 rcases hl with rfl|⟨k,h1,h2⟩
 ·exact j6.e3 t _ (by simp) (loop _ 0 rfl)
 ·have p0:0<2^k:=Nat.two_pow_pos _
  exact j6.e2 t _ (k:Int) (by rw[List.length_map];omega) (level (by omega) (by rw[List.length_map];exact h2)) (by omega) (by omega) (loop _ 0 rfl)
def PC(q:List Rat):List Rat:=if zV q then [] else q
theorem yA(q:List Rat)(hl:q.length≤1)(hf:Fl 1073741824 q):Cp 116 [pq q] (pq (PC q)):=by
 match q,hl with
 |[],_=>exact K6
 |[x],_ =>
  have:=NK (a:=[aJ x]) (k:=0) (by omega) rfl (fun y hy=>by
   have:=List.mem_singleton.1 hy
   subst this
   have:=aZ (hf x (by simp))
   exact⟨Nat.le_trans this.1 (by omega),Nat.le_trans this.2 (by omega)⟩)
  unfold N7 at this
  unfold PC zV
  rw[show ([aJ x]:List af).take 1=[aJ x] from rfl] at this
  by_cases h:x=0
  ·rw[if_pos (by simp[h])]
   rwa[if_pos (by simp[Kf,h])] at this
  ·rw[if_neg (by simp[h])]
   rwa[if_neg (by simp[Kf,h])] at this
def Sv(p q:List Rat):List Rat:=if zV p||zV q then [] else [p.headD 0*q.headD 0]
theorem Sw(t:bz)(p q:List Rat)(hp:p.length≤1)(hq:q.length≤1)(fp:Fl 68719476736 p)(fq:Fl 68719476736 q):Cp 117 [t.pv,pq p,pq q] (pq (Sv p q)):=by
 have zp:=zero p (by omega) fp
 have zq:=zero q (by omega) fq
 unfold Sv
 by_cases h:p.length<q.length
 ·have iY:p=[]:=List.eq_nil_of_length_eq_zero (by omega)
  subst iY
  rw[show zV []=true from rfl,Bool.true_or,if_pos rfl]
  by_cases hz:zV q=true
  ·exact lE.e0 t _ _ _ (by simpa using h) zq hz
  ·exact lE.e1 t _ _ _ _ (by simpa using h) zq (by rwa[Bool.not_eq_true] at hz) zp rfl
 ·by_cases hz:zV p=true
  ·rw[hz,Bool.true_or,if_pos rfl]
   exact lE.e5 t _ _ _ (by simpa using h) zp hz
  ·rw[Bool.not_eq_true] at hz
   rw[hz,Bool.false_or]
   by_cases hy:zV q=true
   ·rw[if_pos hy]
    exact lE.e6 t _ _ _ _ (by simpa using h) zp hz zq hy
   ·rw[if_neg hy]
    rw[Bool.not_eq_true] at hy
    rcases p with _|⟨x,p⟩
    ·cases hz
    rcases q with _|⟨y,q⟩
    ·cases hy
    have e1:p=[]:=List.eq_nil_of_length_eq_zero (by rw[List.length_cons] at hp;omega)
    have e2:q=[]:=List.eq_nil_of_length_eq_zero (by rw[List.length_cons] at hq;omega)
    subst e1 e2
    have m:=QF.Mul x y (fp x (by simp)) (fq y (by simp))
    exact lE.e7 t [aJ x] [aJ y] _ _ (aJ x) (aJ y) (aJ (x*y)) (by simp) zp hz zq hy (by simp) (by simp) (by simp) m
end NJ
namespace Qu
theorem Za:xq 7 6:=by decide +kernel
theorem Qy{q:List Rat}(z:aK q=false)(h0:q≠[])(hl:q.length≤6)(hf:Fl 1 q):dG 7 6 q:=⟨z,h0,hl,(Ch.DP hf).mono (by omega),by omega,by omega,by decide +kernel⟩
theorem UH(a b:Rat)(dF:a≤b)(ha:a.num.natAbs<100)(hb:b.num.natAbs<100)(ha2:a.den<100)(tU:b.den<100)(s1:(ratT a).size<1000)(s2:(ratT b).size<1000):Cp 60 [(gI a b).pv] (.str (ratT a++ByteArray.mk #[46,46]++ratT b)):=by
 have h1:ht a≤1:=Nat.max_le.2 ⟨e9 (by omega),e9 (by rw[Int.natAbs_natCast];omega)⟩
 have h2:ht b≤1:=Nat.max_le.2 ⟨e9 (by omega),e9 (by rw[Int.natAbs_natCast];omega)⟩
 have hc:=Sc.clean (gI a b) (ou (Nat.le_trans h1 (by omega)) (Nat.le_trans h2 (by omega)))
 rw[nX dF,nY dF] at hc
 have e2:(ByteArray.mk #[46,46]).size=2:=rfl
 exact u6.e0 _ (gI a b) _ _ hc (Vo.tT a ha ha2) (by omega) (Vo.tT b hb tU) (by rw[ByteArray.size_append];omega)
abbrev GZ:List Rat:=[-2,0,1]
abbrev IT:List Rat:=[-3,0,1]
theorem XO:sC 7 6 GZ=[(-4,0),(0,4)]:=by decide +kernel
theorem XP:sC 7 6 IT=[(-4,0),(0,4)]:=by decide +kernel
def a2:aH:=dN (bH GZ) 0 4
def a3:aH:=dN (bH IT) 0 4
theorem UI:bH GZ=GZ:=by decide +kernel
theorem UJ:bH IT=IT:=by decide +kernel
theorem PD:a2=dN GZ 0 4:=by unfold a2;rw[UI]
theorem PE:a3=dN IT 0 4:=by unfold a3;rw[UJ]
theorem DY:bI a2.p=GZ:=by rw[PD];exact eS _
theorem NL:bI a3.p=IT:=by rw[PE];exact eS _
theorem Nx:loG a2.rV=0:=nX (by decide +kernel)
theorem uP:hiG a2.rV=4:=nY (by decide +kernel)
theorem Zb:loG a3.rV=0:=nX (by decide +kernel)
theorem On:hiG a3.rV=4:=nY (by decide +kernel)
theorem UK:Sh a2:=by
 have hf:Fl 1 GZ:=by decide +kernel
 rw[PD]
 exact⟨by unfold dN;simp,iz hf,⟨aZ (by decide +kernel),aZ (by decide +kernel)⟩⟩
theorem XQ:Sh a3:=by
 have hf:Fl 1 IT:=by decide +kernel
 rw[PE]
 exact⟨by unfold dN;simp,iz hf,⟨aZ (by decide +kernel),aZ (by decide +kernel)⟩⟩
theorem zT:gZ a2=0:=by
 have z:aK GZ=false:=by decide +kernel
 have he:yq a2.p=0:=by
  unfold yq
  rw[show py a2.p=0 from by rw[PD];exact fj z (by simp),if_pos rfl,if_neg (by rw[PD];unfold dN;simp)]
 have hg:(bE GZ (ak GZ)).length=1:=by decide +kernel
 have hi:qK GZ a2.rV=true:=by
  unfold qK
  rw[show a2.rV=gI 0 4 from rfl,Cd (by decide +kernel),nX (by decide +kernel),nY (by decide +kernel),Bool.true_and]
  decide +kernel
 unfold gZ
 rw[DY,if_neg (by omega),if_neg (by omega),if_pos hi]
theorem Sx:gZ a3=0:=by
 have z:aK IT=false:=by decide +kernel
 have he:yq a3.p=0:=by
  unfold yq
  rw[show py a3.p=0 from by rw[PE];exact fj z (by simp),if_pos rfl,if_neg (by rw[PE];unfold dN;simp)]
 have hg:(bE IT (ak IT)).length=1:=by decide +kernel
 have hi:qK IT a3.rV=true:=by
  unfold qK
  rw[show a3.rV=gI 0 4 from rfl,Cd (by decide +kernel),nX (by decide +kernel),nY (by decide +kernel),Bool.true_and]
  decide +kernel
 unfold gZ
 rw[NL,if_neg (by omega),if_neg (by omega),if_pos hi]
theorem XS:aP GZ 0 4 (grQ 1 0)=1:=by decide +kernel
theorem XT:aP GZ 0 4 (grQ 2 0) = -1:=by decide +kernel
theorem Sy:aP GZ 0 4 (grQ 2 1)=1:=by decide +kernel
theorem SA:aP GZ 0 4 (grQ 3 1) = -1:=by decide +kernel
theorem XU:aP IT 0 4 (grQ 2 0) = -1:=by decide +kernel
theorem UL:aP IT 0 4 (grQ 3 1)=1:=by decide +kernel
theorem Qz:Cp 35 [a2.pv,a3.pv] (.aB [vI (-1),.az]):=by
 have A:=(UK.acc zT).wa
 have B:=(XQ.acc Sx).wa
 obtain⟨s,s1,s2⟩:=rp.o9 UK XQ zT Sx
 have lt:GN (bI a2.p) (loG a2.rV) (hiG a2.rV) (bI a3.p) (loG a3.rV) (hiG a3.rV):=by
  rw[DY,NL,Nx,uP,Zb,On]
  exact⟨grQ 3 1,SA,UL⟩
 rcases s2 with ⟨_,q⟩|⟨q,_⟩|⟨_,q⟩
 ·exact absurd q (xg A B lt)
 ·rw[q] at s1;exact s1
 ·exact absurd q (Cb A B lt)
theorem UM:Cp 13 [a2.pv,vI 1] (.aB [(gI 1 (Rat.divInt 3 2)).pv,.az]):=by
 have A:=(UK.acc zT).wa
 obtain⟨n,_,n2,n3,n4⟩:=rp.UC UK zT (b:=1) (by omega)
 have e:n=2:=by
  refine vZ A n2 n3 ?_ ?_
  ·rw[DY,Nx,uP,Sy];omega
  ·rw[DY,Nx,uP];exact SA
 subst e
 rw[DY,Nx,uP,if_neg (by rw[Sy];omega)] at n4
 rw[show grQ 2 1=1 from by decide +kernel,show grQ (2+1) 1=Rat.divInt 3 2 from by decide +kernel] at n4
 exact n4
theorem SB:Cp 14 [a2.pv,a3.pv] (.aB [(aJ (Rat.divInt 3 2)).pv,.az]):=by
 have A:=UK.acc zT
 have B:=XQ.acc Sx
 rw[DY,Nx,uP] at A
 rw[NL,Zb,On] at B
 have s0:=rp.yy A B (t:=0) (by omega) (n:=1) (by rw[XS];omega) XT
 have s1:=rp.yy A B (t:=1) (by omega) (n:=2) (by rw[Sy];omega) SA
 have r:=s0.2 (by show aP IT 0 4 (grQ 2 0)≠1;rw[XU];omega) _ (s1.1 UL)
 rw[show grQ (2+1) 1=Rat.divInt 3 2 from by decide +kernel] at r
 exact b9.e1 a2 a3 _ Qz (by omega) r
theorem n1:numT 1=ByteArray.mk #[49]:=by unfold numT;rw[if_neg (by decide),show(1:Int).natAbs=1 from rfl,uC (by omega)];rfl
theorem n2:numT 2=ByteArray.mk #[50]:=by unfold numT;rw[if_neg (by decide),show(2:Int).natAbs=2 from rfl,uC (by omega)];rfl
theorem n3:numT 3=ByteArray.mk #[51]:=by unfold numT;rw[if_neg (by decide),show(3:Int).natAbs=3 from rfl,uC (by omega)];rfl
theorem t1:ratT 1=ByteArray.mk #[49]:=by unfold ratT;rw[if_pos (by decide),show(1:Rat).num=1 from rfl,n1]
theorem t32:ratT (Rat.divInt 3 2)=ByteArray.mk #[51,47,50]:=by
 have en:(Rat.divInt 3 2).num=3:=by decide +kernel
 have ed:((Rat.divInt 3 2).den:Int)=2:=by decide +kernel
 unfold ratT
 rw[if_neg (by rw[ed];decide),en,ed,n3,n2]
 decide +kernel
theorem UN(q:List Rat)(hl:q.length≤1000)(hf:Fl 68719476736 q):Cp 42 [pq q,pq q] (vB true):=by
 have:=Uf.Xf (q.map aJ) (q.map aJ) (by rw[bJ];omega) (fun a ha=>by
  obtain⟨x,hx,rfl⟩:=List.mem_map.1 ha
  have:=aZ (hf x hx)
  omega)
 rw[KS] at this
 exact oZ.e0 _ _ _ this
theorem SD(mi:Cp 38 [(⟨[[aJ 2]]⟩:bz).pv,pq [1,1]] (.aB [pq [-1, -2,1],.az])):Cp 12 [] (vB true):=by
 have h2:=of [-2,0,1] (by unfold ax;decide) (by decide)
 have h3:=of [-3,0,1] (by unfold ax;decide) (by decide)
 have g1:=of [2] (by unfold ax;decide) (by decide)
 have g2:=of [1,1] (by unfold ax;decide) (by decide)
 have g3:=of [-1, -2,1] (by unfold ax;decide) (by decide)
 have F2:Fl 1 GZ:=by decide +kernel
 have F3:Fl 1 IT:=by decide +kernel
 have r2:=rp.Qx (Qy (by decide +kernel) (by simp) (by decide) F2) F2.bd Za
 have r3:=rp.Qx (Qy (by decide +kernel) (by simp) (by decide) F3) F3.bd Za
 rw[XO] at r2
 rw[XP] at r3
 have x1:=UH 1 (Rat.divInt 3 2) (by decide +kernel) (by decide +kernel) (by decide +kernel) (by decide +kernel) (by decide +kernel) (by rw[t1];decide) (by rw[t32];decide)
 rw[t1,t32] at x1
 have x2:=Vo.tT (Rat.divInt 3 2) (by decide +kernel) (by decide +kernel)
 rw[t32] at x2
 have sm:=UN [-1, -2,1] (by decide) (by decide +kernel)
 exact od.e2 _ _ _ _ _ _ _ a2 a3 (-1) (gI 1 (Rat.divInt 3 2)) (aJ (Rat.divInt 3 2)) _ _ _ _ h2 r2 h3 r3 g1 g2 mi rfl rfl rfl rfl Qz UM SB rfl x1 (by decide +kernel) x2 rfl g3 sm
end Qu
def eQ:bz:=⟨[[aJ 2]]⟩
abbrev uN(q:List Rat):Prop:=Fl 1073741824 q
theorem uN.fl{q:List Rat}(h:uN q):Fl 68719476736 q:=NJ.UG h (by omega)
namespace NJ
theorem UO:Cp 119 [(⟨[]⟩:bz).pv,pq [2]] (vI 1):=by
 have f:Fl 1073741824 [(2:Rat)]:=by decide +kernel
 have s:=yA [2] (by decide) f
 rw[show PC [2]=[2] from by decide +kernel] at s
 have g:=QF.Sign 2 (by decide +kernel)
 rw[show eh 2 0=1 from by decide +kernel] at g
 exact BE.e1 ⟨[]⟩ [aJ 2] [aJ 2] (aJ 2) 1 s (by simp) (by simp) (by simp) g
theorem NM:Cp 193 [eQ.pv] .az:=by
 have n:=number ⟨[]⟩ [2] (by decide +kernel) (by decide) (Or.inr ⟨0,by decide,rfl⟩)
 exact ql.e1 eQ (by decide) (ql.kM eQ 0 [aJ 2] 1 (by decide) rfl (by omega) (by decide) rfl (by omega) n UO (by omega) (by omega) (ql.Ew eQ 1 (by decide)))
def Lv(q:List Rat):Prop:=q=[]∨∃k,k≤1∧q.length=2^k
theorem SE{q:List Rat}(f:uN q)(h:Lv q):Cp 194 [eQ.pv,pq q] .az:=number eQ q (uN.fl f) (by decide) h
theorem Fc{p:List Rat}(fp:uN p)(hp:Lv p):Cp 115 [eQ.pv,dj (aC af.cells) [p.map aJ]] .az :=
 gO.e0 eQ _ NM (gO.l10 _ 0 eQ (p.map aJ) (by simp) rfl (SE fp hp) (by omega) (gO.kM _ 1 eQ (by simp)))
theorem ux{p q:List Rat}(fp:uN p)(hp:Lv p)(fq:uN q)(hq:Lv q):Cp 115 [eQ.pv,dj (aC af.cells) [p.map aJ,q.map aJ]] .az :=
 gO.e0 eQ _ NM (gO.l10 _ 0 eQ (p.map aJ) (by simp) rfl (SE fp hp) (by omega) (gO.l10 _ 1 eQ (q.map aJ) (by simp) rfl (SE fq hq) (by omega) (gO.kM _ 2 eQ (by simp))))
theorem SF{q:List Rat}(h:q.length≤1):Lv q:=by
 match q,h with
 |[],_=>exact Or.inl rfl
 |[x],_=>exact Or.inr ⟨0,by omega,rfl⟩
theorem mulC(p q r m:List Rat)(hp:p.length≤1)(hq:q.length≤1)(fp:uN p)(fq:uN q)(hm:Sv p q=m)(lm:m.length≤1)(fm:uN m)(hr:PC m=r):Cp 47 [eQ.pv,pq p,pq q] (.aB [pq r,.az]):=by
 subst hr hm
 exact Dk.e0 eQ _ _ _ _ (ux fp (SF hp) fq (SF hq)) (Sw eQ p q hp hq (uN.fl fp) (uN.fl fq)) (yA _ lm fm)
theorem PF(p q r m:List Rat)(hp:p.length≤1)(hq:q.length≤1)(fp:uN p)(fq:uN q)(hm:Kd p q=m)(lm:m.length≤1)(fm:uN m)(hr:PC m=r):Cp 48 [eQ.pv,pq p,pq q] (.aB [pq r,.az]):=by
 subst hr hm
 exact Dm.e0 eQ _ _ _ _ (ux fp (SF hp) fq (SF hq)) (plus p q (by omega) (by omega) (uN.fl fp) (uN.fl fq)) (yA _ lm fm)
theorem PG(p q r m n:List Rat)(hp:p.length≤1)(hq:q.length≤1)(fp:uN p)(fq:uN q)(hn:q.map (- ·)=n)(fn:uN n)(hm:Kd p n=m)(lm:m.length≤1)(fm:uN m)(hr:PC m=r):Cp 251 [eQ.pv,pq p,pq q] (.aB [pq r,.az]):=by
 subst hr hm hn
 exact Dl.e0 eQ _ _ _ _ _ (ux fp (SF hp) fq (SF hq)) (minus q (by omega) (uN.fl fq)) (plus p _ (by omega) (by rw[List.length_map];omega) (uN.fl fp) (uN.fl fn)) (yA _ lm fm)
theorem SG(x:Rat)(h:x≠0)(f:uN [x]):Cp 181 [eQ.pv,pq [x]] (.aB [(aJ x).pv,vB true]):=by
 have s:=yA [x] (by simp) f
 rw[show PC [x]=[x] from by unfold PC zV;rw[if_neg (by simp[h])]] at s
 exact Dn.e2 eQ [aJ x] true [aJ x] (aJ x) (ze.e0 eQ _ (Fc f (SF (by simp)))) rfl s (by simp) (by simp) (by simp)
end NJ
namespace NJ
abbrev Li(l:List Rat):List af:=l.map aJ
abbrev cA:List (List af):=[Li [-1],Li [1]]
abbrev cB:List (List af):=[Li [-1],Li [0]]
abbrev cC:List (List af):=[Li [-1, -1],Li [1]]
theorem step(i k:Nat)(p1 p2 q1 q2 a b c d o r:List Rat)(s s':List (List af)){R:PV}
  (hk:k<2) (hi:i<2) (e1:cA[i]? = some (Li p1)) (e2:cA[k]? = some (Li p2)) (e3:cB[i]? = some (Li q1)) (e4:cB[k]? = some (Li q2))
  (hs:s.length=3) (eo:s[i+k]? = some (Li o))
  (m1:Cp 47 [eQ.pv,pq p1,pq p2] (.aB [pq a,.az]))
  (m2:Cp 47 [eQ.pv,pq q1,pq q2] (.aB [pq b,.az]))
  (m3:Cp 47 [eQ.pv,pq b,pq [2]] (.aB [pq c,.az]))
  (m4:Cp 251 [eQ.pv,pq a,pq c] (.aB [pq d,.az]))
  (m5:Cp 48 [eQ.pv,pq o,pq d] (.aB [pq r,.az]))
  (Kk:s.set (i+k) (Li r)=s')
  (hL:cy.mB cC 1 cA cB 3 i i (k+1) eQ s' R):cy.mB cC 1 cA cB 3 i i k eQ s R:=by
 subst Kk
 exact cy.WH cC 1 cA cB 3 i i k eQ s (Li p1) (Li p2) (Li a) (Li q1) (Li q2) (Li b) 0 (Li [2]) (Li c) (Li d) (Li o) (Li r) (by show k<2;exact hk) (by show i<2;exact hi) e1 (by show k<2;exact hk) e2 m1 (by show i<2;exact hi) e3 (by show k<2;exact hk) e4 m2 (by unfold ax;omega) rfl rfl m3 m4 (by omega) (by omega) eo m5 (by omega) (by omega) hL
theorem UP:Cp 180 [eQ.pv,dj (aC af.cells) cC,vI 1] (.aB [dj (aC af.cells) [Li [-1],Li [-2],Li [1]],.az]):=by
 have L2:cy.bK cC 1 cA cB 3 0 eQ [[],[],[]] (.aB [dj (aC af.cells) [Li [-1],Li [-2],Li [1]],.az]):=by
  refine cy.Ac cC 1 cA cB 3 0 eQ _ (by decide) ?_
  refine step 0 0 [-1] [-1] [-1] [-1] [1] [1] [2] [-1] [] [-1] _ [Li [-1],[],[]] (by omega) (by omega) rfl rfl rfl rfl rfl rfl
   (mulC _ _ _ [1] (by decide) (by decide) (by decide +kernel) (by decide +kernel) (by decide +kernel) (by decide) (by decide +kernel) (by decide +kernel))
   (mulC _ _ _ [1] (by decide) (by decide) (by decide +kernel) (by decide +kernel) (by decide +kernel) (by decide) (by decide +kernel) (by decide +kernel))
   (mulC _ _ _ [2] (by decide) (by decide) (by decide +kernel) (by decide +kernel) (by decide +kernel) (by decide) (by decide +kernel) (by decide +kernel))
   (PG _ _ _ [-1] [-2] (by decide) (by decide) (by decide +kernel) (by decide +kernel) (by decide +kernel) (by decide +kernel) (by decide +kernel) (by decide) (by decide +kernel) (by decide +kernel))
   (PF _ _ _ [-1] (by decide) (by decide) (by decide +kernel) (by decide +kernel) (by decide +kernel) (by decide) (by decide +kernel) (by decide +kernel)) rfl ?_
  refine step 0 1 [-1] [1] [-1] [0] [-1] [] [] [-1] [] [-1] _ [Li [-1],Li [-1],[]] (by omega) (by omega) rfl rfl rfl rfl rfl rfl
   (mulC _ _ _ [-1] (by decide) (by decide) (by decide +kernel) (by decide +kernel) (by decide +kernel) (by decide) (by decide +kernel) (by decide +kernel))
   (mulC _ _ _ [] (by decide) (by decide) (by decide +kernel) (by decide +kernel) (by decide +kernel) (by decide) (by decide +kernel) (by decide +kernel))
   (mulC _ _ _ [] (by decide) (by decide) (by decide +kernel) (by decide +kernel) (by decide +kernel) (by decide) (by decide +kernel) (by decide +kernel))
   (PG _ _ _ [-1] [] (by decide) (by decide) (by decide +kernel) (by decide +kernel) (by decide +kernel) (by decide +kernel) (by decide +kernel) (by decide) (by decide +kernel) (by decide +kernel))
   (PF _ _ _ [-1] (by decide) (by decide) (by decide +kernel) (by decide +kernel) (by decide +kernel) (by decide) (by decide +kernel) (by decide +kernel)) rfl ?_
  refine cy.YA cC 1 cA cB 3 0 0 2 eQ _ (by decide) (by omega) ?_
  refine cy.Ac cC 1 cA cB 3 1 eQ _ (by decide) ?_
  refine step 1 0 [1] [-1] [0] [-1] [-1] [] [] [-1] [-1] [-2] _ [Li [-1],Li [-2],[]] (by omega) (by omega) rfl rfl rfl rfl rfl rfl
   (mulC _ _ _ [-1] (by decide) (by decide) (by decide +kernel) (by decide +kernel) (by decide +kernel) (by decide) (by decide +kernel) (by decide +kernel))
   (mulC _ _ _ [] (by decide) (by decide) (by decide +kernel) (by decide +kernel) (by decide +kernel) (by decide) (by decide +kernel) (by decide +kernel))
   (mulC _ _ _ [] (by decide) (by decide) (by decide +kernel) (by decide +kernel) (by decide +kernel) (by decide) (by decide +kernel) (by decide +kernel))
   (PG _ _ _ [-1] [] (by decide) (by decide) (by decide +kernel) (by decide +kernel) (by decide +kernel) (by decide +kernel) (by decide +kernel) (by decide) (by decide +kernel) (by decide +kernel))
   (PF _ _ _ [-2] (by decide) (by decide) (by decide +kernel) (by decide +kernel) (by decide +kernel) (by decide) (by decide +kernel) (by decide +kernel)) rfl ?_
  refine step 1 1 [1] [1] [0] [0] [1] [] [] [1] [] [1] _ [Li [-1],Li [-2],Li [1]] (by omega) (by omega) rfl rfl rfl rfl rfl rfl
   (mulC _ _ _ [1] (by decide) (by decide) (by decide +kernel) (by decide +kernel) (by decide +kernel) (by decide) (by decide +kernel) (by decide +kernel))
   (mulC _ _ _ [] (by decide) (by decide) (by decide +kernel) (by decide +kernel) (by decide +kernel) (by decide) (by decide +kernel) (by decide +kernel))
   (mulC _ _ _ [] (by decide) (by decide) (by decide +kernel) (by decide +kernel) (by decide +kernel) (by decide) (by decide +kernel) (by decide +kernel))
   (PG _ _ _ [1] [] (by decide) (by decide) (by decide +kernel) (by decide +kernel) (by decide +kernel) (by decide +kernel) (by decide +kernel) (by decide) (by decide +kernel) (by decide +kernel))
   (PF _ _ _ [1] (by decide) (by decide) (by decide +kernel) (by decide +kernel) (by decide +kernel) (by decide) (by decide +kernel) (by decide +kernel)) rfl ?_
  refine cy.YA cC 1 cA cB 3 1 1 2 eQ _ (by decide) (by omega) ?_
  exact cy.CN cC 1 cA cB 3 2 eQ _ (by decide) rfl
 refine cy.e0 eQ cC 1 0 (by unfold ax;omega) rfl (by omega) (by decide) ?_
 refine cy.l10 cC 1 0 [] [] 0 eQ (Li [-1, -1]) 0 (by decide) rfl (by decide) (by decide) (by unfold ax;decide) (by decide) (by decide) (by decide) (by decide) (by decide) (by decide) (by omega) ?_
 refine cy.l10 cC 1 0 _ _ 1 eQ (Li [1]) 1 (by decide) rfl (by decide) (by decide) (by unfold ax;decide) (by decide) (by decide) (by decide) (by decide) (by decide) (by decide) (by omega) ?_
 refine cy.cR cC 1 0 _ _ 2 eQ 3 (by decide) (by decide) (by unfold ax;decide) (by decide) (by omega) ?_
 exact L2
theorem NN:Cp 38 [eQ.pv,pq [1,1]] (.aB [pq [-1, -2,1],.az]):=by
 have f1:uN [1,1]:=by unfold uN;decide +kernel
 have fm:uN [-1, -1]:=by unfold uN;decide +kernel
 have lv:Lv [1,1]:=Or.inr ⟨1,by omega,rfl⟩
 have s1:=NK (a:=Li [1,1]) (k:=1) (by omega) rfl (fun y hy=>by
  have h:y=aJ 1:=by simpa using hy
  subst h
  exact⟨by decide +kernel,by decide +kernel⟩)
 rw[show N7 (Li [1,1]) 1=Li [1,1] from by unfold N7;rw[if_neg (by decide +kernel)];rfl] at s1
 have s2:=NK (a:=Li [-1, -1]) (k:=1) (by omega) rfl (fun y hy=>by
  have h:y=aJ (-1):=by simpa using hy
  subst h
  exact⟨by decide +kernel,by decide +kernel⟩)
 rw[show N7 (Li [-1, -1]) 1=Li [-1, -1] from by unfold N7;rw[if_neg (by decide +kernel)];rfl] at s2
 have mi:=minus [1,1] (by decide) (uN.fl f1)
 rw[show ([1,1]:List Rat).map (- ·)=[-1, -1] from by decide +kernel] at mi
 have ng:=Dj.e0 eQ (Li [1,1]) _ _ (Fc f1 lv) mi s2
 have cp:=copied (Li [1,1]) (by decide) (fun y hy=>by
  have h:y=aJ 1:=by simpa using hy
  subst h
  exact⟨by decide +kernel,by decide +kernel⟩)
 have w:=wide [1,1] 2 (by omega)
 have lf:=BH.e0 eQ (Li [1,1]) _ _ (Fc f1 lv) cp (by decide) (by decide) w
 have o1:=um.Of 1 ⟨by decide,by decide⟩
 have sh:=yA [1] (by decide) (by decide +kernel)
 rw[show PC [1]=[1] from by decide +kernel] at sh
 have to:=Gf.e0 (aJ 1) (aJ 1) _ (QF.uM 1 (by decide +kernel)) sh
 have tr:=Ay.Trim (k:=100) [-1, -2,1] (by decide) (by decide +kernel) (by omega)
 rw[show aL [-1, -2,1]=[-1, -2,1] from by decide +kernel] at tr
 refine qm.e0 eQ (Li [1,1]) _ (Li [-1, -2,1]) none lf ?_
 refine cN.e0 eQ _ _ s1 ?_
 refine cN.l10 _ 0 eQ (by omega) (by decide) (by decide) (by omega) ?_
 refine cN.cR _ 1 eQ _ _ _ (by omega) (by decide) (by decide) ng o1 to ?_
 refine cN.Ac cC 1 eQ _ (by omega) UP (by unfold ax;omega) ?_
 refine cN.Mt _ _ eQ (by omega) ?_
 refine cN.TV [] _ _ 0 eQ (Li [-1]) (aJ (-1)) true (by decide) rfl (SG _ (by decide +kernel) (by unfold uN;decide +kernel)) rfl (by decide) (by omega) ?_
 refine cN.TV _ _ _ 1 eQ (Li [-2]) (aJ (-2)) true (by decide) rfl (SG _ (by decide +kernel) (by unfold uN;decide +kernel)) rfl (by decide) (by omega) ?_
 refine cN.TV _ _ _ 2 eQ (Li [1]) (aJ 1) true (by decide) rfl (SG _ (by decide +kernel) (by unfold uN;decide +kernel)) rfl (by decide) (by omega) ?_
 exact cN.Z7 _ _ _ 3 eQ _ (by decide) tr
end NJ
theorem Qu.Kg:Cp 12 [] (vB true):=Qu.SD NJ.NN
theorem IU(c:Int):(pc c).getD 0=c:=by
 by_cases h:c=0
 ·subst h;rfl
 ·rw[jO h];rfl
namespace rp
theorem NO{a:aH}(ha:Sh a)(h1:gZ a≠0)(b:Int):Cp 13 [a.pv,vI b] (.aB [(⟨⟨false,[],[]⟩,⟨false,[],[]⟩⟩:ai).pv,bw (some (gZ a))]):=by
 have c1:=rp.Check ha
 rw[jO h1] at c1
 exact iu.e7 a b _ c1
theorem NP{a:aH}(ha:Sh a)(h1:gZ a=0){b:Int}(hb:b<0∨64<b):Cp 13 [a.pv,vI b] (.aB [(⟨⟨false,[],[]⟩,⟨false,[],[]⟩⟩:ai).pv,bw (some 3)]):=by
 have c1:=rp.Check ha
 rw[h1] at c1
 by_cases h:b<0
 ·exact iu.e0 a b c1 h
 ·exact iu.e1 a b c1 (by omega) (by omega)
end rp
namespace vY
theorem o9{a b:aH}(ha:Sh a)(hb:Sh b)(h1:gZ a=0)(h2:gZ b=0):∃s,Cm s (bI a.p) (loG a.rV) (hiG a.rV) (bI b.p) (loG b.rV) (hiG b.rV)∧Cp 53 [a.pv,b.pv] (.aB [vI s,vI 0]):=by
 have A:=ha.acc h1
 have B:=hb.acc h2
 obtain⟨s,s1,s2⟩:=cmp A.sm B.sm A.wa B.wa A.h1 A.h2 B.h1 B.h2
 rw[←A.e,←B.e] at s2
 exact⟨s,s1,jy.e2 a b _ _ _ (vY.Check ha) h1 (vY.Check hb) h2 s2⟩
theorem Ss{a b:aH}(ha:Sh a)(hb:Sh b)(h:(if gZ a≠0 then gZ a else gZ b)≠0):Cp 53 [a.pv,b.pv] (.aB [vI 0,vI (if gZ a≠0 then gZ a else gZ b)]):=by
 by_cases h1:gZ a=0
 ·rw[if_neg (by omega)] at h ⊢
  exact jy.e1 a b _ _ (vY.Check ha) h1 (vY.Check hb) h
 ·rw[if_pos h1]
  exact jy.e0 a b _ (vY.Check ha) h1
theorem NO{a:aH}(ha:Sh a)(h1:gZ a≠0)(b:Int):Cp 15 [a.pv,vI b] (.aB [(⟨⟨false,[],[]⟩,⟨false,[],[]⟩⟩:ai).pv,vI (gZ a)]):=gy.e0 a b _ (vY.Check ha) h1
theorem NP{a:aH}(ha:Sh a)(h1:gZ a=0){b:Int}(hb:b<0∨64<b):Cp 15 [a.pv,vI b] (.aB [(⟨⟨false,[],[]⟩,⟨false,[],[]⟩⟩:ai).pv,vI 3]):=by
 by_cases h:b<0
 ·exact gy.e1 a b _ (vY.Check ha) h1 h
 ·exact gy.e2 a b _ (vY.Check ha) h1 (by omega) (by omega)
end vY
namespace Qu
theorem K7{a:aH}(ha:Sh a)(h1:gZ a=0){b:Nat}(hb:b≤64):∃n:Int,n.natAbs<2^100∧0≤aP (bI a.p) (loG a.rV) (hiG a.rV) (grQ n b)∧aP (bI a.p) (loG a.rV) (hiG a.rV) (grQ (n+1) b) = -1 ∧
  Cp 13 [a.pv,vI (b:Int)] (.aB [(vY.mE (bI a.p) (loG a.rV) (hiG a.rV) n b).pv,.az])∧Cp 15 [a.pv,vI (b:Int)] (.aB [(vY.mE (bI a.p) (loG a.rV) (hiG a.rV) n b).pv,vI 0]):=by
 obtain⟨n,n1,n2,n3,n4⟩:=rp.UC ha h1 hb
 have A:=ha.acc h1
 have hr:=vY.Iq A hb n1 n2 n3
 exact⟨n,n1,n2,n3,n4,gy.e3 a _ _ _ (vY.Check ha) h1 (by omega) (by omega) hr⟩
theorem Fe(q:Rat)(h:ht q≤68719476736):Cp 19 [(aJ q).pv,(aJ q).pv] (vB true):=by
 have f:=aZ h
 have:=Uf.Rat (aJ q) (aJ q) (by omega) (by omega)
 rw[Gw] at this
 exact oV.e0 _ _ _ this
theorem IV:Cp 19 [(⟨false,[],[]⟩:af).pv,(⟨false,[],[]⟩:af).pv] (vB true):=Fe 0 (by decide)
theorem IW(a b:Rat)(h1:ht a≤68719476736)(h2:ht b≤68719476736):Cp 18 [(gI a b).pv,(gI a b).pv] (vB true) :=
 o4.e0 (gI a b) (gI a b) _ _ (Fe a h1) rfl (Fe b h2)
theorem NQ:Cp 18 [(⟨⟨false,[],[]⟩,⟨false,[],[]⟩⟩:ai).pv,(⟨⟨false,[],[]⟩,⟨false,[],[]⟩⟩:ai).pv] (vB true):=IW 0 0 (by decide) (by decide)
theorem IX{a b:aH}{f g:List Rat}{lo hi lo' hi':Rat}(A:Acc a f lo hi)(B:Acc b g lo' hi'){t:Nat}(ht:t≤64){n:Int}(PB:n.natAbs<2^100)(n1:0≤aP f lo hi (grQ n t))(n2:aP f lo hi (grQ (n+1) t) = -1) :
  (aP g lo' hi' (grQ (n+1) t)=1→bB.ah t a b (.aB [(aJ (grQ (n+1) t)).pv,vI 0]))∧(aP g lo' hi' (grQ (n+1) t)≠1→∀r,bB.ah (t+1) a b r→bB.ah t a b r):=by
 have hn:=vY.Iq A ht PB n1 n2
 have g0:=mY (b:=t) (show n.natAbs<2^101 by omega) ht
 have g1:=mY (b:=t) (show (n+1).natAbs<2^101 by omega) ht
 have gp:=mY (n:=1) (b:=t) (by decide) ht
 have Vq:Sym.ht (grQ (n+1) t)≤900:=by
  unfold grQ
  rw[Rat.divInt_eq_div]
  have w:wl (n+1)≤4:=qL (Nat.lt_of_lt_of_le (show (n+1).natAbs<2^101 by omega) (by decide))
  have x1:=nV (((n+1:Int)):Rat) ((((2^t:Nat):Int)):Rat)
  have x2:Sym.ht (((n+1:Int)):Rat)≤4:=by rw[tF];omega
  have x3:Sym.ht ((((2^t:Nat):Int)):Rat)≤3:=tQ (j:=t) (by omega)
  omega
 have w:=sj hi' lo'
 have b1:=B.h1
 have b2:=B.h2
 have hc:=vY.AA (K:=1000000) B.sm B.wa (Dy.start _ _) (vY.Of (v:=grQ (n+1) t) (by omega)) (show 1≤900 by omega) Vq (by omega) (by omega) (by omega) B.bd.1 B.bd.2
 rw[←B.e] at hc
 by_cases h0:aP f lo hi (grQ n t)=0
 ·have e:vY.mE f lo hi n t=gI (grQ n t) (grQ n t):=by unfold vY.mE;rw[if_pos h0]
  rw[e] at hn
  have c0:=QR.o9 (grQ n t) (grQ n t) (by omega) (by omega)
  have ad:=QR.Add (grQ n t) (grQ 1 t) (by omega) (by omega)
  rw[E9] at ad
  have pw:=vY.GD ht
  exact⟨fun h=>bB.l10 t a b (gI (grQ n t) (grQ n t)) _ _ _ _ (by omega) hn c0 (gY _) pw ad hc (by omega),
   fun h r hL=>bB.cR t a b (gI (grQ n t) (grQ n t)) _ _ _ _ (by omega) hn c0 (gY _) pw ad hc (by rcases B.wa.three (grQ (n+1) t) with q|q|q<;>omega) (by omega) hL⟩
 ·have e:vY.mE f lo hi n t=gI (grQ n t) (grQ (n+1) t):=by unfold vY.mE;rw[if_neg h0]
  rw[e] at hn
  have c0:=QR.o9 (grQ n t) (grQ (n+1) t) (by omega) (by omega)
  have di:grQ n t≠grQ (n+1) t:=fun q=>by rw[q] at n1;omega
  exact⟨fun h=>bB.kM t a b (gI (grQ n t) (grQ (n+1) t)) _ _ (by omega) hn c0 (dV di) hc (by omega),
   fun h r hL=>bB.tq t a b (gI (grQ n t) (grQ (n+1) t)) _ _ (by omega) hn c0 (dV di) hc (by rcases B.wa.three (grQ (n+1) t) with q|q|q<;>omega) (by omega) hL⟩
theorem DZ{a b:aH}{f g:List Rat}{lo hi lo' hi':Rat}(A:Acc a f lo hi)(B:Acc b g lo' hi'):∀d t:Nat,t+d=65→∃(x:af) (e:Int),((e=4∧x=⟨false,[],[]⟩)∨(e=0∧∃q,x=aJ q∧Sym.ht q≤1000∧aP f lo hi q = -1∧aP g lo' hi' q=1)) ∧
  b9.ah t a b (.aB [x.pv,bw (pc e)])∧bB.ah t a b (.aB [x.pv,vI e])
 |0,t,h=>⟨⟨false,[],[]⟩,4,Or.inl ⟨rfl,rfl⟩,b9.TW t a b (by omega),bB.Ew t a b (by omega)⟩
 |d+1,t,h=>by
  obtain⟨n,m1,m2,m3,m4⟩:=rp.floor A.sm A.wa A.h1 A.h2 (b:=t) (by omega)
  obtain⟨p1,p2⟩:=rp.yy A B (t:=t) (by omega) m3 m4
  obtain⟨q1,q2⟩:=IX A B (t:=t) (by omega) m2 m3 m4
  by_cases hc:aP g lo' hi' (grQ (n+1) t)=1
  ·exact⟨_,0,Or.inr ⟨rfl,_,rfl,mY (by omega) (by omega),m4,hc⟩,p1 hc,q1 hc⟩
  ·obtain⟨x,e,h1,h2,h3⟩:=DZ A B d (t+1) (by omega)
   exact⟨x,e,h1,p2 hc _ h2,q2 hc _ h3⟩
theorem K8{a b:aH}(ha:Sh a)(hb:Sh b):∃(x:af) (e:Int),(x.num.length≤1000∧x.den.length≤1000)∧Cp 19 [x.pv,x.pv] (vB true)∧Cp 14 [a.pv,b.pv] (.aB [x.pv,bw (pc e)])∧Cp 16 [a.pv,b.pv] (.aB [x.pv,vI e]):=by
 by_cases h:(if gZ a≠0 then gZ a else gZ b)=0
 ·have h1:gZ a=0:=Classical.byContradiction fun e=>by rw[if_pos e] at h;exact e h
  have h2:gZ b=0:=by rw[if_neg (by omega)] at h;exact h
  obtain⟨s,s1,s2⟩:=rp.o9 ha hb h1 h2
  obtain⟨t,t1,t2⟩:=vY.o9 ha hb h1 h2
  have e:s=t:=Cm.uniq (ha.acc h1).wa (hb.acc h2).wa s2 t1
  subst e
  by_cases hs:0≤s
  ·exact⟨⟨false,[],[]⟩,3,by simp,IV,b9.e0 a b s s1 hs,bB.e1 a b s 0 t2 rfl hs⟩
  ·obtain⟨x,e,k1,k2,k3⟩:=DZ (ha.acc h1) (hb.acc h2) 65 0 (by omega)
   refine⟨x,e,?_,?_,b9.e1 a b s s1 (by omega) k2,bB.e2 a b s 0 t2 rfl (by omega) k3⟩
   ·rcases k1 with ⟨-,rfl⟩|⟨-,q,rfl,hq, -⟩
    ·simp
    ·exact aZ hq
   ·rcases k1 with ⟨-,rfl⟩|⟨-,q,rfl,hq, -⟩
    ·exact IV
    ·exact Fe q (by omega)
 ·refine⟨⟨false,[],[]⟩,_,by simp,IV,?_,bB.e0 a b 0 _ (vY.Ss ha hb h) h⟩
  rw[jO h]
  exact b9.e2 a b 0 _ (rp.Ss ha hb h)
theorem NR{a:aH}(ha:Sh a){b:Int} : ∃(r:ai) (e:Int),Cp 18 [r.pv,r.pv] (vB true)∧Cp 13 [a.pv,vI b] (.aB [r.pv,bw (pc e)])∧Cp 15 [a.pv,vI b] (.aB [r.pv,vI e]):=by
 by_cases h:gZ a=0
 ·by_cases hb:b<0∨64<b
  ·exact⟨_,3,NQ,rp.NP ha h hb,vY.NP ha h hb⟩
  ·obtain⟨k,rfl⟩:∃k:Nat,b=(k:Int):=⟨b.toNat,by omega⟩
   obtain⟨n,n1,n2,n3,n4,n5⟩:=K7 ha h (b:=k) (by omega)
   refine⟨_,0,?_,n4,n5⟩
   have g0:=mY (b:=k) (show n.natAbs<2^101 by omega) (by omega)
   have g1:=mY (b:=k) (show (n+1).natAbs<2^101 by omega) (by omega)
   unfold vY.mE
   split
   ·exact IW _ _ (by omega) (by omega)
   ·exact IW _ _ (by omega) (by omega)
 ·refine⟨_,gZ a,NQ,?_,vY.NO ha h b⟩
  rw[jO h]
  exact rp.NO ha h b
theorem zW(a b:aH)(bits:Int){C:Prop}(_:C):Cp 3 [a.pv,b.pv,vI bits] (vB true):=by
 obtain⟨b1,h1,g1⟩:=small [a,b] (by simp)
 cases b1 with
 |false=>exact cO.e0 a b bits _ _ h1 rfl Kg
 |true =>
  have sa:=(g1 rfl a (by simp)).1
  have sb:=(g1 rfl b (by simp)).1
  obtain⟨r,e,r1,r2,r3⟩:=NR sa (b:=bits)
  obtain⟨x,f, -,x1,x2,x3⟩:=K8 sa sb
  have n1:=Uf.YR (pc e)
  have n2:=Uf.YR (pc f)
  rw[IU] at n1 n2
  by_cases hb:bits≤12
  ·exact cO.e5 a b bits _ _ r (pc e) x (pc f) r e x f _ _ _ _ h1 rfl hb Kg rfl r2 x2 r3 x3 n1 rfl r1 rfl n2 rfl x1
  ·by_cases hc:bits≤64
   ·exact cO.e1 a b bits _ _ h1 rfl (by omega) hc Kg
   ·exact cO.e3 a b bits _ _ r (pc e) x (pc f) r e x f _ _ _ _ h1 rfl (by omega) (by omega) Kg rfl r2 x2 r3 x3 n1 rfl r1 rfl n2 rfl x1
end Qu
end Go.Proofs.YtllmkadmohkbfaaGreatDoor.Sym
