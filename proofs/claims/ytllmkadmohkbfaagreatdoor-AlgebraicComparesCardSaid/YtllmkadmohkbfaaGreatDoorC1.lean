/- Lemmas. -/
import Derived.Test.YtllmkadmohkbfaaGreatDoorC0
import Derived.Test.YtllmkadmohkbfaaGreatDoorP4
namespace Go.Proofs.YtllmkadmohkbfaaGreatDoor.Sym
open Go Path dE
set_option linter.unusedVariables false
def n6(v:ah):Bool := !v.neg&&v.num.isEmpty&&v.den.isEmpty
def xq(a:List ah):Nat→List ah
 |0=>if (a.take 1).all n6 then [] else a.take 1
 |k+1=>if ((a.take (2^(k+1))).drop (2^k)).all n6 then xq a k else a.take (2^(k+1))
theorem pP{α:Type}{p:α→Bool}{l:List α}{t:Nat}{v:α}(h:l[t]? = some v):(l.drop t).all p=(p v&&(l.drop (t+1)).all p):=by
 rw[drop_cons h,List.all_cons]
namespace vR
theorem nr{k:Nat}(h:k≤10):1*2^k<9223372036854775808:=by
 have:2^k≤2^10:=Nat.pow_le_pow_right (by omega) h
 omega
theorem level{a:List ah}{k:Nat}(hk:k≤10)(h:a.length=2^k):Cp 195 [ae a] (vI (k:Int)):=by
 have loop:∀d t:Nat,t+d=k→dZ.aj a t (vI (k:Int)):=by
  intro d
  induction d with
  |zero =>
   intro t ht
   have:t=k:=by omega
   subst this
   exact dZ.ji a t (by omega) (nr hk) (by omega) (by omega)
  |succ d ih =>
   intro t ht
   have:2^t<2^k:=Nat.pow_lt_pow_right (by omega) (by omega)
   exact dZ.l10 a t (by omega) (nr (by omega)) (by omega) (by omega) (ih (t+1) (by omega))
 exact dZ.e0 a (loop k 0 (by omega))
theorem tB:Cp 195 [ae []] (vI (-1)):=
 dZ.e0 [] (dZ.dw [] 0 (by omega) (by decide) (by decide) (by decide))
theorem empty(a:List ah)(hl:a.length≤1000):Cp 196 [ae a] (vB (a.all n6)):=by
 have loop:∀d t:Nat,a.length-t=d→dC.aj a t (vB ((a.drop t).all n6)):=by
  intro d
  induction d with
  |zero =>
   intro t hd
   rw[List.drop_of_length_le (by omega)]
   exact dC.AS a t (by omega)
  |succ d ih =>
   intro t hd
   obtain⟨v,hv⟩:∃v,a[t]? = some v:=⟨_,List.getElem?_eq_getElem (by omega)⟩
   rw[pP hv]
   unfold n6
   by_cases h1:v.neg=true
   ·rw[h1]
    exact dC.l10 a t v (by omega) hv h1
   ·rw[Bool.not_eq_true] at h1
    rw[h1]
    by_cases h2:v.num=[]
    ·rw[h2]
     by_cases h3:v.den=[]
     ·rw[h3]
      exact dC.oK a t v (by omega) hv h1 (by rw[h2];simp) (by rw[h3];simp) (by omega) (ih (t+1) (by omega))
     ·rw[show v.den.isEmpty=false from by cases hh:v.den<;>simp_all]
      exact dC.ji a t v (by omega) hv h1 (by rw[h2];simp) (List.length_pos_iff.2 h3)
    ·rw[show v.num.isEmpty=false from by cases hh:v.num<;>simp_all]
     exact dC.dw a t v (by omega) hv h1 (List.length_pos_iff.2 h2)
 have:=loop _ 0 rfl
 rw[List.drop_zero] at this
 exact dC.e0 a this
theorem copied(a:List ah)(hl:a.length≤1000)(hf:iN 1073741824 a):Cp 178 [ae a] (ae a):=by
 have loop:∀d t:Nat,a.length-t=d→t≤a.length→fU.aj (a.take t) a t (ae a):=by
  intro d
  induction d with
  |zero =>
   intro t hd ht
   rw[show a.take t=a from List.take_of_length_le (by omega)]
   exact fU.dw a a t (by omega)
  |succ d ih =>
   intro t hd ht
   obtain⟨v,hv⟩:∃v,a[t]? = some v:=⟨_,List.getElem?_eq_getElem (by omega)⟩
   have:=ih (t+1) (by omega) (by omega)
   rw[List.take_add_one,hv] at this
   have f:=hf v (List.mem_of_getElem? hv)
   exact fU.l10 _ a t v (by omega) hv (by rw[List.nil_append];have:=f.1;omega) (by rw[List.nil_append];have:=f.2;omega) (by rw[List.length_append,List.length_take,List.length_singleton];omega) (by omega) this
 exact fU.e0 a (loop _ 0 rfl (by omega))
theorem tC:Cp 116 [ae []] (ae []):=
 cW.e3 [] (-1) tB (by decide) (cW.Wr [] 0 [] (by omega) (by omega) (by decide) (copied [] (by decide) (by intro x h;cases h)))
theorem vS{a:List ah}{k:Nat}(hk:k≤5)(h:a.length=2^k)(hf:iN 1073741824 a):Cp 116 [ae a] (ae (xq a k)):=by
 have tk:∀n,iN 1073741824 (a.take n):=fun n x hx=>hf x (List.mem_of_mem_take hx)
 have b5:2^k≤2^5:=Nat.pow_le_pow_right (by omega) hk
 have loop:∀t:Nat,t≤k→cW.aj a (2^t) (ae (xq a t)):=by
  intro t
  induction t with
  |zero =>
   intro _
   have p0:0<2^k:=Nat.two_pow_pos _
   have e:=empty (a.take 1) (by rw[List.length_take];omega)
   unfold xq
   by_cases hb:(a.take 1).all n6=true
   ·rw[if_pos hb]
    exact cW.AS a 1 _ (by omega) rfl (by omega) e hb
   ·rw[if_neg hb]
    exact cW.T2 a 1 _ _ (by omega) rfl (by omega) e (by rwa[Bool.not_eq_true] at hb) (by omega) (copied _ (by rw[List.length_take];omega) (tk 1))
  |succ t ih =>
   intro ht
   have le:2^(t+1)≤2^k:=Nat.pow_le_pow_right (by omega) ht
   have p0:0<2^t:=Nat.two_pow_pos _
   have hh:2^(t+1)/2=2^t:=by rw[Nat.pow_succ];omega
   have h2:1<2^(t+1):=by rw[Nat.pow_succ];omega
   have e:=empty ((a.take (2^(t+1))).drop (2^t)) (by rw[List.length_drop,List.length_take];omega)
   unfold xq
   by_cases hb:((a.take (2^(t+1))).drop (2^t)).all n6=true
   ·rw[if_pos hb]
    exact cW.l10 a _ _ h2 (by omega) (by omega) (by omega) (by rw[hh];exact e) hb (by rw[hh];exact ih (by omega))
   ·rw[if_neg hb]
    exact cW.oK a _ _ _ h2 (by omega) (by omega) (by omega) (by rw[hh];exact e) (by rwa[Bool.not_eq_true] at hb) (by omega) (copied _ (by rw[List.length_take];omega) (tk _))
 have:=loop k (Nat.le_refl _)
 rw[←h] at this
 have p0:0<2^k:=Nat.two_pow_pos _
 exact cW.e2 a (k:Int) (level (by omega) h) (by omega) (by omega) (by omega) this
end vR
def kU(q:List Rat):Bool:=q.all (fun x=>decide (x=0))
def gQ(q:List Rat)(n:Nat):List Rat:=q.take n++List.replicate (n-q.length) 0
def sD(p q:List Rat):List Rat:=List.zipWith (·+·) (gQ p (max p.length q.length)) (gQ q (max p.length q.length))
theorem iK(q:List Rat)(n:Nat):(gQ q n).length=n:=by unfold gQ;rw[List.length_append,List.length_take,List.length_replicate];omega
theorem oY{α:Type}{l1 l2:List α}{v w:α}{t:Nat}(h:l1.length=t):(l1++v::l2).set t w=(l1++[w])++l2:=by
 subst h
 simp
namespace vR
theorem zero(q:List Rat)(hl:q.length≤1000)(hf:Fl 68719476736 q):Cp 197 [pq q] (vB (kU q)):=by
 have loop:∀d t:Nat,q.length-t=d→fW.aj (q.map aE) t (vB (kU (q.drop t))):=by
  intro d
  induction d with
  |zero =>
   intro t hd
   rw[List.drop_of_length_le (by omega)]
   exact fW.ji _ t (by rw[List.length_map];omega)
  |succ d ih =>
   intro t hd
   obtain⟨v,hv⟩:∃v,q[t]? = some v:=⟨_,List.getElem?_eq_getElem (by omega)⟩
   have uy:(q.map aE)[t]? = some (aE v):=by rw[List.getElem?_map,hv];rfl
   have s:=QF.Sign v (hf v (List.mem_of_getElem? hv))
   unfold kU
   rw[pP hv]
   by_cases h0:v=0
   ·rw[decide_eq_true h0]
    exact fW.dw _ t _ _ (by rw[List.length_map];omega) uy s (dm.2 h0) (by omega) (ih (t+1) (by omega))
   ·rw[decide_eq_false h0]
    exact fW.l10 _ t _ _ (by rw[List.length_map];omega) uy s (fun e=>h0 (dm.1 e))
 have:=loop _ 0 rfl
 rw[List.drop_zero] at this
 exact fW.e0 _ this
theorem minus(q:List Rat)(hl:q.length≤1000)(hf:Fl 68719476736 q):Cp 120 [pq q] (pq (q.map (- ·))):=by
 have loop:∀d t:Nat,q.length-t=d→t≤q.length→gA.aj (q.map aE) t (((q.take t).map (- ·)).map aE++List.replicate d (⟨false,[],[]⟩:ah)) (pq (q.map (- ·))):=by
  intro d
  induction d with
  |zero =>
   intro t hd ht
   rw[show q.take t=q from List.take_of_length_le (by omega),List.replicate_zero,List.append_nil]
   exact gA.dw _ t _ (by rw[List.length_map];omega) (by simp)
  |succ d ih =>
   intro t hd ht
   obtain⟨v,hv⟩:∃v,q[t]? = some v:=⟨_,List.getElem?_eq_getElem (by omega)⟩
   have uy:(q.map aE)[t]? = some (aE v):=by rw[List.getElem?_map,hv];rfl
   have s:=QF.Neg v (hf v (List.mem_of_getElem? hv))
   have:=ih (t+1) (by omega) (by omega)
   rw[List.take_add_one,hv] at this
   refine gA.l10 _ t _ _ _ (by rw[List.length_map];omega) uy s (by simp;omega) (by omega) ?_
   rw[List.replicate_succ,oY (by simp;omega)]
   simpa using this
 have:=loop _ 0 rfl (by omega)
 refine gA.e0 _ (by rw[List.length_map];omega) ?_
 rw[List.length_map]
 simpa using this
theorem n7(q:List Rat)(n:Nat):(q.map aE).take (min (q.map aE).length n)++(List.replicate n (⟨false,[],[]⟩:ah)).drop (min (q.map aE).length n)=(gQ q n).map aE:=by
 unfold gQ
 rw[List.map_append,List.map_take,List.map_replicate,ot,List.length_map,List.drop_replicate]
 by_cases h:q.length≤n
 ·rw[Nat.min_eq_left h,List.take_of_length_le (by simp),List.take_of_length_le (by simp;omega)]
 ·rw[Nat.min_eq_right (by omega),Nat.sub_self,show n-q.length=0 from by omega]
theorem wide(q:List Rat)(n:Nat)(hn:n≤1000):Cp 177 [pq q,vI (n:Int)] (pq (gQ q n)):=by
 have:=vy.e0 (q.map aE) (n:Int) n rfl (by omega) (by rw[List.length_replicate];omega) (by rw[n7,List.length_map,iK])
 rwa[n7] at this
theorem HH(q:List Rat)(n:Nat)(hn:n≤1000):av bT 177 [.pv (pq q),.pv (vI (n:Int))] [] (.row 0 0 n 3) [(0,(.pure ((((gQ q n).map aE):List ah).map ah.cells).flatten))]:=by
 have:=tS.e0 (q.map aE) (n:Int) n rfl (by omega) (by rw[List.length_replicate];omega)
 rwa[n7,List.take_of_length_le (by rw[List.length_map,iK];omega)] at this
end vR
theorem sE{H:Nat}{q:List Rat}(n:Nat)(h:Fl H q)(h1:1≤H):Fl H (gQ q n):=fun x hx=>by
 unfold gQ at hx
 rcases List.mem_append.1 hx with hx|hx
 ·exact h x (List.mem_of_mem_take hx)
 ·rw[(List.mem_replicate.1 hx).2]
  exact Nat.le_trans (show ht 0≤1 by decide) h1
theorem sF(x:Rat):n6 (aE x)=decide (x=0):=by
 by_cases h:x=0
 ·subst h;rfl
 ·rw[decide_eq_false h]
  refine Bool.eq_false_iff.2 fun e=>h ?_
  apply Dk
  rw[ot]
  unfold n6 at e
  rcases hm:aE x with ⟨a,b,c⟩
  rw[hm] at e
  simp at e
  obtain⟨⟨rfl,rfl⟩,rfl⟩:=e
  rfl
namespace vR
theorem plus(p q:List Rat)(hp:p.length≤1000)(hq:q.length≤1000)(fp:Fl 68719476736 p)(fq:Fl 68719476736 q):Cp 118 [pq p,pq q] (pq (sD p q)):=by
 unfold sD
 have ln:max (p.map aE).length (q.map aE).length=max p.length q.length:=by rw[List.length_map,List.length_map]
 generalize hn:max p.length q.length=n at *
 have wx:=HH p n (by omega)
 have w:=wide q n (by omega)
 have hA:=iK p n
 have hB:=iK q n
 have fA:=sE n fp (by omega)
 have fB:=sE n fq (by omega)
 generalize gQ p n=A at *
 generalize gQ q n=B at *
 have loop:∀d t:Nat,n-t=d→t≤n→iv.aj n (B.map aE) t ((List.zipWith (·+·) (A.take t) (B.take t)++A.drop t).map aE) (pq (List.zipWith (·+·) A B)):=by
  intro d
  induction d with
  |zero =>
   intro t hd ht
   rw[show A.take t=A from List.take_of_length_le (by omega),show B.take t=B from List.take_of_length_le (by omega),List.drop_of_length_le (by omega),List.append_nil]
   exact iv.dw n _ t _ (by omega) (by simp;omega)
  |succ d ih =>
   intro t hd ht
   obtain⟨v,hv⟩:∃v,A[t]? = some v:=⟨_,List.getElem?_eq_getElem (by omega)⟩
   obtain⟨u,hu⟩:∃v,B[t]? = some v:=⟨_,List.getElem?_eq_getElem (by omega)⟩
   have hl:(List.zipWith (·+·) (A.take t) (B.take t)).length=t:=by simp;omega
   have:=ih (t+1) (by omega) (by omega)
   rw[List.take_add_one,List.take_add_one,hv,hu] at this
   refine iv.l10 n _ t _ (aE v) (aE u) (aE (v+u)) (by omega) ?_ (by rw[List.getElem?_map,hu];rfl) (QF.Add v u (fA v (List.mem_of_getElem? hv)) (fB u (List.mem_of_getElem? hu))) (by simp;omega) (by omega) ?_
   ·rw[List.getElem?_map,List.getElem?_append_right (by omega),hl,Nat.sub_self,List.getElem?_drop,Nat.add_zero,hv];rfl
   ·rw[drop_cons hv,List.map_append,List.map_cons,oY (by rw[List.length_map];exact hl)]
    rw[List.zipWith_append (by simp;omega)] at this
    simpa using this
 have:=loop _ 0 rfl (by omega)
 refine iv.e0 _ _ (A.map aE) n (B.map aE) (by rw[ln];exact wx) (by rw[ln];exact w) ?_
 simpa using this
theorem HI{H:Nat}{q:List Rat}(h:Fl H q)(h1:H≤68719476736):Fl 68719476736 q:=fun x hx=>Nat.le_trans (h x hx) h1
theorem number(t:cD)(q:List Rat)(hf:Fl 68719476736 q)(ht:t.roots.length≤10)(hl:q=[]∨∃k,k≤t.roots.length∧q.length=2^k):Cp 194 [t.pv,pq q] .aq:=by
 have hlen:q.length≤1024:=by
  rcases hl with rfl|⟨k,h1,h2⟩
  ·simp
  ·have:2^k≤2^10:=Nat.pow_le_pow_right (by omega) (by omega)
   omega
 have loop:∀d t:Nat,q.length-t=d→eA.aj (q.map aE) t .aq:=by
  intro d
  induction d with
  |zero =>
   intro t hd
   exact eA.ji _ t (by rw[List.length_map];omega)
  |succ d ih =>
   intro t hd
   obtain⟨v,hv⟩:∃v,q[t]? = some v:=⟨_,List.getElem?_eq_getElem (by omega)⟩
   have uy:(q.map aE)[t]? = some (aE v):=by rw[List.getElem?_map,hv];rfl
   exact eA.dw _ t _ _ (by rw[List.length_map];omega) uy (QF.Valid v (hf v (List.mem_of_getElem? hv))) rfl (by omega) (ih (t+1) (by omega))
 rcases hl with rfl|⟨k,h1,h2⟩
 ·exact eA.e3 t _ (by simp) (loop _ 0 rfl)
 ·have p0:0<2^k:=Nat.two_pow_pos _
  exact eA.e2 t _ (k:Int) (by rw[List.length_map];omega) (level (by omega) (by rw[List.length_map];exact h2)) (by omega) (by omega) (loop _ 0 rfl)
def zl(q:List Rat):List Rat:=if kU q then [] else q
theorem ku(q:List Rat)(hl:q.length≤1)(hf:Fl 1073741824 q):Cp 116 [pq q] (pq (zl q)):=by
 match q,hl with
 |[],_=>exact tC
 |[x],_ =>
  have:=vS (a:=[aE x]) (k:=0) (by omega) rfl (fun y hy=>by
   have:=List.mem_singleton.1 hy
   subst this
   have:=aW (hf x (by simp))
   exact⟨Nat.le_trans this.1 (by omega),Nat.le_trans this.2 (by omega)⟩)
  unfold xq at this
  unfold zl kU
  rw[show ([aE x]:List ah).take 1=[aE x] from rfl] at this
  by_cases h:x=0
  ·rw[if_pos (by simp[h])]
   rwa[if_pos (by simp[sF,h])] at this
  ·rw[if_neg (by simp[h])]
   rwa[if_neg (by simp[sF,h])] at this
def vw(p q:List Rat):List Rat:=if kU p||kU q then [] else [p.headD 0*q.headD 0]
theorem Cg(t:cD)(p q:List Rat)(hp:p.length≤1)(hq:q.length≤1)(fp:Fl 68719476736 p)(fq:Fl 68719476736 q):Cp 117 [t.pv,pq p,pq q] (pq (vw p q)):=by
 have zp:=zero p (by omega) fp
 have zq:=zero q (by omega) fq
 unfold vw
 by_cases h:p.length<q.length
 ·have mc:p=[]:=List.eq_nil_of_length_eq_zero (by omega)
  subst mc
  rw[show kU []=true from rfl,Bool.true_or,if_pos rfl]
  by_cases hz:kU q=true
  ·exact fo.e0 t _ _ _ (by simpa using h) zq hz
  ·exact fo.e1 t _ _ _ _ (by simpa using h) zq (by rwa[Bool.not_eq_true] at hz) zp rfl
 ·by_cases hz:kU p=true
  ·rw[hz,Bool.true_or,if_pos rfl]
   exact fo.e5 t _ _ _ (by simpa using h) zp hz
  ·rw[Bool.not_eq_true] at hz
   rw[hz,Bool.false_or]
   by_cases hy:kU q=true
   ·rw[if_pos hy]
    exact fo.e6 t _ _ _ _ (by simpa using h) zp hz zq hy
   ·rw[if_neg hy]
    rw[Bool.not_eq_true] at hy
    rcases p with _|⟨x,p⟩
    ·cases hz
    rcases q with _|⟨y,q⟩
    ·cases hy
    have e1:p=[]:=List.eq_nil_of_length_eq_zero (by rw[List.length_cons] at hp;omega)
    have e2:q=[]:=List.eq_nil_of_length_eq_zero (by rw[List.length_cons] at hq;omega)
    subst e1 e2
    have m:=QF.Mul x y (fp x (by simp)) (fq y (by simp))
    exact fo.e7 t [aE x] [aE y] _ _ (aE x) (aE y) (aE (x*y)) (by simp) zp hz zq hy (by simp) (by simp) (by simp) m
end vR
namespace zI
theorem Ny:jl 7 6:=by decide +kernel
theorem AF{q:List Rat}(z:aJ q=false)(h0:q≠[])(hl:q.length≤6)(hf:Fl 1 q):cH 7 6 q:=⟨z,h0,hl,(Ch.uH hf).mono (by omega),by omega,by omega,by decide +kernel⟩
theorem HJ(a b:Rat)(dK:a≤b)(ha:a.num.natAbs<100)(hb:b.num.natAbs<100)(VU:a.den<100)(ye:b.den<100)(s1:(ratT a).size<1000)(s2:(ratT b).size<1000):Cp 60 [(cY a b).pv] (.str (ratT a++ByteArray.mk #[46,46]++ratT b)):=by
 have h1:ht a≤1:=Nat.max_le.2 ⟨eY (by omega),eY (by rw[Int.natAbs_natCast];omega)⟩
 have h2:ht b≤1:=Nat.max_le.2 ⟨eY (by omega),eY (by rw[Int.natAbs_natCast];omega)⟩
 have hc:=uA.clean (cY a b) (fO (Nat.le_trans h1 (by omega)) (Nat.le_trans h2 (by omega)))
 rw[fe dK,fg dK] at hc
 have e2:(ByteArray.mk #[46,46]).size=2:=rfl
 exact qM.e0 _ (cY a b) _ _ hc (PG.j6 a ha VU) (by omega) (PG.j6 b hb ye) (by rw[ByteArray.size_append];omega)
abbrev pI:List Rat:=[-2,0,1]
abbrev rq:List Rat:=[-3,0,1]
theorem Nz:fM 7 6 pI=[(-4,0),(0,4)]:=by decide +kernel
theorem NA:fM 7 6 rq=[(-4,0),(0,4)]:=by decide +kernel
def a2:az:=bW (aM pI) 0 4
def a3:az:=bW (aM rq) 0 4
theorem HK:aM pI=pI:=by decide +kernel
theorem HL:aM rq=rq:=by decide +kernel
theorem zm:a2=bW pI 0 4:=by unfold a2;rw[HK]
theorem zn:a3=bW rq 0 4:=by unfold a3;rw[HL]
theorem nt:aT a2.p=pI:=by rw[zm];exact cO _
theorem vT:aT a3.p=rq:=by rw[zn];exact cO _
theorem vO:loG a2.rV=0:=fe (by decide +kernel)
theorem ql:hiG a2.rV=4:=fg (by decide +kernel)
theorem RZ:loG a3.rV=0:=fe (by decide +kernel)
theorem Kt:hiG a3.rV=4:=fg (by decide +kernel)
theorem HM:Sh a2:=by
 have hf:Fl 1 pI:=by decide +kernel
 rw[zm]
 exact⟨by unfold bW;simp,db hf,⟨aW (by decide +kernel),aW (by decide +kernel)⟩⟩
theorem NB:Sh a3:=by
 have hf:Fl 1 rq:=by decide +kernel
 rw[zn]
 exact⟨by unfold bW;simp,db hf,⟨aW (by decide +kernel),aW (by decide +kernel)⟩⟩
theorem rG:fw a2=0:=by
 have z:aJ pI=false:=by decide +kernel
 have he:iO a2.p=0:=by
  unfold iO
  rw[show kN a2.p=0 from by rw[zm];exact cE z (by simp),if_pos rfl,if_neg (by rw[zm];unfold bW;simp)]
 have hg:(bF pI (ar pI)).length=1:=by decide +kernel
 have hi:fX pI a2.rV=true:=by
  unfold fX
  rw[show a2.rV=cY 0 4 from rfl,mb (by decide +kernel),fe (by decide +kernel),fg (by decide +kernel),Bool.true_and]
  decide +kernel
 unfold fw
 rw[nt,if_neg (by omega),if_neg (by omega),if_pos hi]
theorem Ci:fw a3=0:=by
 have z:aJ rq=false:=by decide +kernel
 have he:iO a3.p=0:=by
  unfold iO
  rw[show kN a3.p=0 from by rw[zn];exact cE z (by simp),if_pos rfl,if_neg (by rw[zn];unfold bW;simp)]
 have hg:(bF rq (ar rq)).length=1:=by decide +kernel
 have hi:fX rq a3.rV=true:=by
  unfold fX
  rw[show a3.rV=cY 0 4 from rfl,mb (by decide +kernel),fe (by decide +kernel),fg (by decide +kernel),Bool.true_and]
  decide +kernel
 unfold fw
 rw[vT,if_neg (by omega),if_neg (by omega),if_pos hi]
theorem NC:aK pI 0 4 (grQ 1 0)=1:=by decide +kernel
theorem ND:aK pI 0 4 (grQ 2 0) = -1:=by decide +kernel
theorem Cj:aK pI 0 4 (grQ 2 1)=1:=by decide +kernel
theorem Ck:aK pI 0 4 (grQ 3 1) = -1:=by decide +kernel
theorem NG:aK rq 0 4 (grQ 2 0) = -1:=by decide +kernel
theorem HN:aK rq 0 4 (grQ 3 1)=1:=by decide +kernel
theorem AG:Cp 35 [a2.pv,a3.pv] (.aB [vI (-1),.aq]):=by
 have A:=(HM.acc rG).lj
 have B:=(NB.acc Ci).lj
 obtain⟨s,s1,s2⟩:=hX.jN HM NB rG Ci
 have lt:xZ (aT a2.p) (loG a2.rV) (hiG a2.rV) (aT a3.p) (loG a3.rV) (hiG a3.rV):=by
  rw[nt,vT,vO,ql,RZ,Kt]
  exact⟨grQ 3 1,Ck,HN⟩
 rcases s2 with ⟨_,q⟩|⟨q,_⟩|⟨_,q⟩
 ·exact absurd q (w8 A B lt)
 ·rw[q] at s1;exact s1
 ·exact absurd q (x5 A B lt)
theorem HO:Cp 13 [a2.pv,vI 1] (.aB [(cY 1 (Rat.divInt 3 2)).pv,.aq]):=by
 have A:=(HM.acc rG).lj
 obtain⟨n,_,n2,n3,n4⟩:=hX.LV HM rG (b:=1) (by omega)
 have e:n=2:=by
  refine kT A n2 n3 ?_ ?_
  ·rw[nt,vO,ql,Cj];omega
  ·rw[nt,vO,ql];exact Ck
 subst e
 rw[nt,vO,ql,if_neg (by rw[Cj];omega)] at n4
 rw[show grQ 2 1=1 from by decide +kernel,show grQ (2+1) 1=Rat.divInt 3 2 from by decide +kernel] at n4
 exact n4
theorem Cl:Cp 14 [a2.pv,a3.pv] (.aB [(aE (Rat.divInt 3 2)).pv,.aq]):=by
 have A:=HM.acc rG
 have B:=NB.acc Ci
 rw[nt,vO,ql] at A
 rw[vT,RZ,Kt] at B
 have s0:=hX.mg A B (t:=0) (by omega) (n:=1) (by rw[NC];omega) ND
 have s1:=hX.mg A B (t:=1) (by omega) (n:=2) (by rw[Cj];omega) Ck
 have r:=s0.2 (by show aK rq 0 4 (grQ 2 0)≠1;rw[NG];omega) _ (s1.1 HN)
 rw[show grQ (2+1) 1=Rat.divInt 3 2 from by decide +kernel] at r
 exact bR.e1 a2 a3 _ AG (by omega) r
theorem n1:numT 1=ByteArray.mk #[49]:=by unfold numT;rw[if_neg (by decide),show(1:Int).natAbs=1 from rfl,lE (by omega)];rfl
theorem n2:numT 2=ByteArray.mk #[50]:=by unfold numT;rw[if_neg (by decide),show(2:Int).natAbs=2 from rfl,lE (by omega)];rfl
theorem n3:numT 3=ByteArray.mk #[51]:=by unfold numT;rw[if_neg (by decide),show(3:Int).natAbs=3 from rfl,lE (by omega)];rfl
theorem t1:ratT 1=ByteArray.mk #[49]:=by unfold ratT;rw[if_pos (by decide),show(1:Rat).num=1 from rfl,n1]
theorem t32:ratT (Rat.divInt 3 2)=ByteArray.mk #[51,47,50]:=by
 have en:(Rat.divInt 3 2).num=3:=by decide +kernel
 have ed:((Rat.divInt 3 2).den:Int)=2:=by decide +kernel
 unfold ratT
 rw[if_neg (by rw[ed];decide),en,ed,n3,n2]
 decide +kernel
theorem Fc(q:List Rat)(hl:q.length≤1000)(hf:Fl 68719476736 q):Cp 42 [pq q,pq q] (vB true):=by
 have:=PA.To (q.map aE) (q.map aE) (by rw[bf];omega) (fun a ha=>by
  obtain⟨x,hx,rfl⟩:=List.mem_map.1 ha
  have:=aW (hf x hx)
  omega)
 rw[A4] at this
 exact lM.e0 _ _ _ this
theorem Cn(mi:Cp 38 [(⟨[[aE 2]]⟩:cD).pv,pq [1,1]] (.aB [pq [-1, -2,1],.aq])):Cp 12 [] (vB true):=by
 have h2:=of [-2,0,1] (by unfold aw;decide) (by decide)
 have h3:=of [-3,0,1] (by unfold aw;decide) (by decide)
 have g1:=of [2] (by unfold aw;decide) (by decide)
 have g2:=of [1,1] (by unfold aw;decide) (by decide)
 have g3:=of [-1, -2,1] (by unfold aw;decide) (by decide)
 have F2:Fl 1 pI:=by decide +kernel
 have F3:Fl 1 rq:=by decide +kernel
 have r2:=hX.xd (AF (by decide +kernel) (by simp) (by decide) F2) F2.bd Ny
 have r3:=hX.xd (AF (by decide +kernel) (by simp) (by decide) F3) F3.bd Ny
 rw[Nz] at r2
 rw[NA] at r3
 have x1:=HJ 1 (Rat.divInt 3 2) (by decide +kernel) (by decide +kernel) (by decide +kernel) (by decide +kernel) (by decide +kernel) (by rw[t1];decide) (by rw[t32];decide)
 rw[t1,t32] at x1
 have x2:=PG.j6 (Rat.divInt 3 2) (by decide +kernel) (by decide +kernel)
 rw[t32] at x2
 have sm:=Fc [-1, -2,1] (by decide) (by decide +kernel)
 exact eV.e2 _ _ _ _ _ _ _ a2 a3 (-1) (cY 1 (Rat.divInt 3 2)) (aE (Rat.divInt 3 2)) _ _ _ _ h2 r2 h3 r3 g1 g2 mi rfl rfl rfl rfl AG HO Cl rfl x1 (by decide +kernel) x2 rfl g3 sm
end zI
def bL:cD:=⟨[[aE 2]]⟩
abbrev iX(q:List Rat):Prop:=Fl 1073741824 q
theorem iX.fl{q:List Rat}(h:iX q):Fl 68719476736 q:=vR.HI h (by omega)
namespace vR
theorem HP:Cp 119 [(⟨[]⟩:cD).pv,pq [2]] (vI 1):=by
 have f:Fl 1073741824 [(2:Rat)]:=by decide +kernel
 have s:=ku [2] (by decide) f
 rw[show zl [2]=[2] from by decide +kernel] at s
 have g:=QF.Sign 2 (by decide +kernel)
 rw[show dz 2 0=1 from by decide +kernel] at g
 exact vx.e1 ⟨[]⟩ [aE 2] [aE 2] (aE 2) 1 s (by simp) (by simp) (by simp) g
theorem vV:Cp 193 [bL.pv] .aq:=by
 have n:=number ⟨[]⟩ [2] (by decide +kernel) (by decide) (Or.inr ⟨0,by decide,rfl⟩)
 exact jx.e1 bL (by decide) (jx.ji bL 0 [aE 2] 1 (by decide) rfl (by omega) (by decide) rfl (by omega) n HP (by omega) (by omega) (jx.AS bL 1 (by decide)))
def Lv(q:List Rat):Prop:=q=[]∨∃k,k≤1∧q.length=2^k
theorem Co{q:List Rat}(f:iX q)(h:Lv q):Cp 194 [bL.pv,pq q] .aq:=number bL q (iX.fl f) (by decide) h
theorem n8{p:List Rat}(fp:iX p)(hp:Lv p):Cp 115 [bL.pv,bq (an ah.cells) [p.map aE]] .aq:=
 cZ.e0 bL _ vV (cZ.l10 _ 0 bL (p.map aE) (by simp) rfl (Co fp hp) (by omega) (cZ.ji _ 1 bL (by simp)))
theorem jR{p q:List Rat}(fp:iX p)(hp:Lv p)(fq:iX q)(hq:Lv q):Cp 115 [bL.pv,bq (an ah.cells) [p.map aE,q.map aE]] .aq:=
 cZ.e0 bL _ vV (cZ.l10 _ 0 bL (p.map aE) (by simp) rfl (Co fp hp) (by omega) (cZ.l10 _ 1 bL (q.map aE) (by simp) rfl (Co fq hq) (by omega) (cZ.ji _ 2 bL (by simp))))
theorem Cq{q:List Rat}(h:q.length≤1):Lv q:=by
 match q,h with
 |[],_=>exact Or.inl rfl
 |[x],_=>exact Or.inr ⟨0,by omega,rfl⟩
theorem mulC(p q r m:List Rat)(hp:p.length≤1)(hq:q.length≤1)(fp:iX p)(fq:iX q)(hm:vw p q=m)(lm:m.length≤1)(fm:iX m)(hr:zl m=r):Cp 47 [bL.pv,pq p,pq q] (.aB [pq r,.aq]):=by
 subst hr hm
 exact xP.e0 bL _ _ _ _ (jR fp (Cq hp) fq (Cq hq)) (Cg bL p q hp hq (iX.fl fp) (iX.fl fq)) (ku _ lm fm)
theorem zt(p q r m:List Rat)(hp:p.length≤1)(hq:q.length≤1)(fp:iX p)(fq:iX q)(hm:sD p q=m)(lm:m.length≤1)(fm:iX m)(hr:zl m=r):Cp 48 [bL.pv,pq p,pq q] (.aB [pq r,.aq]):=by
 subst hr hm
 exact xR.e0 bL _ _ _ _ (jR fp (Cq hp) fq (Cq hq)) (plus p q (by omega) (by omega) (iX.fl fp) (iX.fl fq)) (ku _ lm fm)
theorem zu(p q r m n:List Rat)(hp:p.length≤1)(hq:q.length≤1)(fp:iX p)(fq:iX q)(hn:q.map (- ·)=n)(fn:iX n)(hm:sD p n=m)(lm:m.length≤1)(fm:iX m)(hr:zl m=r):Cp 251 [bL.pv,pq p,pq q] (.aB [pq r,.aq]):=by
 subst hr hm hn
 exact xQ.e0 bL _ _ _ _ _ (jR fp (Cq hp) fq (Cq hq)) (minus q (by omega) (iX.fl fq)) (plus p _ (by omega) (by rw[List.length_map];omega) (iX.fl fp) (iX.fl fn)) (ku _ lm fm)
theorem Cr(x:Rat)(h:x≠0)(f:iX [x]):Cp 181 [bL.pv,pq [x]] (.aB [(aE x).pv,vB true]):=by
 have s:=ku [x] (by simp) f
 rw[show zl [x]=[x] from by unfold zl kU;rw[if_neg (by simp[h])]] at s
 exact xS.e2 bL [aE x] true [aE x] (aE x) (tT.e0 bL _ (n8 f (Cq (by simp)))) rfl s (by simp) (by simp) (by simp)
end vR
namespace vR
abbrev Li(l:List Rat):List ah:=l.map aE
abbrev cA:List (List ah):=[Li [-1],Li [1]]
abbrev cB:List (List ah):=[Li [-1],Li [0]]
abbrev cC:List (List ah):=[Li [-1, -1],Li [1]]
theorem step(i k:Nat)(p1 p2 q1 q2 a b c d o r:List Rat)(s s':List (List ah)){R:PV}
  (hk:k<2) (hi:i<2) (e1:cA[i]? = some (Li p1)) (e2:cA[k]? = some (Li p2)) (e3:cB[i]? = some (Li q1)) (e4:cB[k]? = some (Li q2))
  (hs:s.length=3) (eo:s[i+k]? = some (Li o))
  (m1:Cp 47 [bL.pv,pq p1,pq p2] (.aB [pq a,.aq]))
  (m2:Cp 47 [bL.pv,pq q1,pq q2] (.aB [pq b,.aq]))
  (m3:Cp 47 [bL.pv,pq b,pq [2]] (.aB [pq c,.aq]))
  (m4:Cp 251 [bL.pv,pq a,pq c] (.aB [pq d,.aq]))
  (m5:Cp 48 [bL.pv,pq o,pq d] (.aB [pq r,.aq]))
  (Jx:s.set (i+k) (Li r)=s')
  (hL:aV.oV cC 1 cA cB 3 i i (k+1) bL s' R):aV.oV cC 1 cA cB 3 i i k bL s R:=by
 subst Jx
 exact aV.Wq cC 1 cA cB 3 i i k bL s (Li p1) (Li p2) (Li a) (Li q1) (Li q2) (Li b) 0 (Li [2]) (Li c) (Li d) (Li o) (Li r) (by show k<2;exact hk) (by show i<2;exact hi) e1 (by show k<2;exact hk) e2 m1 (by show i<2;exact hi) e3 (by show k<2;exact hk) e4 m2 (by unfold aw;omega) rfl rfl m3 m4 (by omega) (by omega) eo m5 (by omega) (by omega) hL
theorem HQ:Cp 180 [bL.pv,bq (an ah.cells) cC,vI 1] (.aB [bq (an ah.cells) [Li [-1],Li [-2],Li [1]],.aq]):=by
 have L2:aV.cz cC 1 cA cB 3 0 bL [[],[],[]] (.aB [bq (an ah.cells) [Li [-1],Li [-2],Li [1]],.aq]):=by
  refine aV.xl cC 1 cA cB 3 0 bL _ (by decide) ?_
  refine step 0 0 [-1] [-1] [-1] [-1] [1] [1] [2] [-1] [] [-1] _ [Li [-1],[],[]] (by omega) (by omega) rfl rfl rfl rfl rfl rfl
   (mulC _ _ _ [1] (by decide) (by decide) (by decide +kernel) (by decide +kernel) (by decide +kernel) (by decide) (by decide +kernel) (by decide +kernel))
   (mulC _ _ _ [1] (by decide) (by decide) (by decide +kernel) (by decide +kernel) (by decide +kernel) (by decide) (by decide +kernel) (by decide +kernel))
   (mulC _ _ _ [2] (by decide) (by decide) (by decide +kernel) (by decide +kernel) (by decide +kernel) (by decide) (by decide +kernel) (by decide +kernel))
   (zu _ _ _ [-1] [-2] (by decide) (by decide) (by decide +kernel) (by decide +kernel) (by decide +kernel) (by decide +kernel) (by decide +kernel) (by decide) (by decide +kernel) (by decide +kernel))
   (zt _ _ _ [-1] (by decide) (by decide) (by decide +kernel) (by decide +kernel) (by decide +kernel) (by decide) (by decide +kernel) (by decide +kernel)) rfl ?_
  refine step 0 1 [-1] [1] [-1] [0] [-1] [] [] [-1] [] [-1] _ [Li [-1],Li [-1],[]] (by omega) (by omega) rfl rfl rfl rfl rfl rfl
   (mulC _ _ _ [-1] (by decide) (by decide) (by decide +kernel) (by decide +kernel) (by decide +kernel) (by decide) (by decide +kernel) (by decide +kernel))
   (mulC _ _ _ [] (by decide) (by decide) (by decide +kernel) (by decide +kernel) (by decide +kernel) (by decide) (by decide +kernel) (by decide +kernel))
   (mulC _ _ _ [] (by decide) (by decide) (by decide +kernel) (by decide +kernel) (by decide +kernel) (by decide) (by decide +kernel) (by decide +kernel))
   (zu _ _ _ [-1] [] (by decide) (by decide) (by decide +kernel) (by decide +kernel) (by decide +kernel) (by decide +kernel) (by decide +kernel) (by decide) (by decide +kernel) (by decide +kernel))
   (zt _ _ _ [-1] (by decide) (by decide) (by decide +kernel) (by decide +kernel) (by decide +kernel) (by decide) (by decide +kernel) (by decide +kernel)) rfl ?_
  refine aV.T3 cC 1 cA cB 3 0 0 2 bL _ (by decide) (by omega) ?_
  refine aV.xl cC 1 cA cB 3 1 bL _ (by decide) ?_
  refine step 1 0 [1] [-1] [0] [-1] [-1] [] [] [-1] [-1] [-2] _ [Li [-1],Li [-2],[]] (by omega) (by omega) rfl rfl rfl rfl rfl rfl
   (mulC _ _ _ [-1] (by decide) (by decide) (by decide +kernel) (by decide +kernel) (by decide +kernel) (by decide) (by decide +kernel) (by decide +kernel))
   (mulC _ _ _ [] (by decide) (by decide) (by decide +kernel) (by decide +kernel) (by decide +kernel) (by decide) (by decide +kernel) (by decide +kernel))
   (mulC _ _ _ [] (by decide) (by decide) (by decide +kernel) (by decide +kernel) (by decide +kernel) (by decide) (by decide +kernel) (by decide +kernel))
   (zu _ _ _ [-1] [] (by decide) (by decide) (by decide +kernel) (by decide +kernel) (by decide +kernel) (by decide +kernel) (by decide +kernel) (by decide) (by decide +kernel) (by decide +kernel))
   (zt _ _ _ [-2] (by decide) (by decide) (by decide +kernel) (by decide +kernel) (by decide +kernel) (by decide) (by decide +kernel) (by decide +kernel)) rfl ?_
  refine step 1 1 [1] [1] [0] [0] [1] [] [] [1] [] [1] _ [Li [-1],Li [-2],Li [1]] (by omega) (by omega) rfl rfl rfl rfl rfl rfl
   (mulC _ _ _ [1] (by decide) (by decide) (by decide +kernel) (by decide +kernel) (by decide +kernel) (by decide) (by decide +kernel) (by decide +kernel))
   (mulC _ _ _ [] (by decide) (by decide) (by decide +kernel) (by decide +kernel) (by decide +kernel) (by decide) (by decide +kernel) (by decide +kernel))
   (mulC _ _ _ [] (by decide) (by decide) (by decide +kernel) (by decide +kernel) (by decide +kernel) (by decide) (by decide +kernel) (by decide +kernel))
   (zu _ _ _ [1] [] (by decide) (by decide) (by decide +kernel) (by decide +kernel) (by decide +kernel) (by decide +kernel) (by decide +kernel) (by decide) (by decide +kernel) (by decide +kernel))
   (zt _ _ _ [1] (by decide) (by decide) (by decide +kernel) (by decide +kernel) (by decide +kernel) (by decide) (by decide +kernel) (by decide +kernel)) rfl ?_
  refine aV.T3 cC 1 cA cB 3 1 1 2 bL _ (by decide) (by omega) ?_
  exact aV.AR cC 1 cA cB 3 2 bL _ (by decide) rfl
 refine aV.e0 bL cC 1 0 (by unfold aw;omega) rfl (by omega) (by decide) ?_
 refine aV.l10 cC 1 0 [] [] 0 bL (Li [-1, -1]) 0 (by decide) rfl (by decide) (by decide) (by unfold aw;decide) (by decide) (by decide) (by decide) (by decide) (by decide) (by decide) (by omega) ?_
 refine aV.l10 cC 1 0 _ _ 1 bL (Li [1]) 1 (by decide) rfl (by decide) (by decide) (by unfold aw;decide) (by decide) (by decide) (by decide) (by decide) (by decide) (by decide) (by omega) ?_
 refine aV.dw cC 1 0 _ _ 2 bL 3 (by decide) (by decide) (by unfold aw;decide) (by decide) (by omega) ?_
 exact L2
theorem vX:Cp 38 [bL.pv,pq [1,1]] (.aB [pq [-1, -2,1],.aq]):=by
 have f1:iX [1,1]:=by unfold iX;decide +kernel
 have fm:iX [-1, -1]:=by unfold iX;decide +kernel
 have lv:Lv [1,1]:=Or.inr ⟨1,by omega,rfl⟩
 have s1:=vS (a:=Li [1,1]) (k:=1) (by omega) rfl (fun y hy=>by
  have h:y=aE 1:=by simpa using hy
  subst h
  exact⟨by decide +kernel,by decide +kernel⟩)
 rw[show xq (Li [1,1]) 1=Li [1,1] from by unfold xq;rw[if_neg (by decide +kernel)];rfl] at s1
 have s2:=vS (a:=Li [-1, -1]) (k:=1) (by omega) rfl (fun y hy=>by
  have h:y=aE (-1):=by simpa using hy
  subst h
  exact⟨by decide +kernel,by decide +kernel⟩)
 rw[show xq (Li [-1, -1]) 1=Li [-1, -1] from by unfold xq;rw[if_neg (by decide +kernel)];rfl] at s2
 have mi:=minus [1,1] (by decide) (iX.fl f1)
 rw[show ([1,1]:List Rat).map (- ·)=[-1, -1] from by decide +kernel] at mi
 have ng:=xO.e0 bL (Li [1,1]) _ _ (n8 f1 lv) mi s2
 have cp:=copied (Li [1,1]) (by decide) (fun y hy=>by
  have h:y=aE 1:=by simpa using hy
  subst h
  exact⟨by decide +kernel,by decide +kernel⟩)
 have w:=wide [1,1] 2 (by omega)
 have lf:=vz.e0 bL (Li [1,1]) _ _ (n8 f1 lv) cp (by decide) (by decide) w
 have o1:=qC.Of 1 ⟨by decide,by decide⟩
 have sh:=ku [1] (by decide) (by decide +kernel)
 rw[show zl [1]=[1] from by decide +kernel] at sh
 have to:=Ah.e0 (aE 1) (aE 1) _ (QF.mG 1 (by decide +kernel)) sh
 have tr:=qG.Trim (k:=100) [-1, -2,1] (by decide) (by decide +kernel) (by omega)
 rw[show aU [-1, -2,1]=[-1, -2,1] from by decide +kernel] at tr
 refine mo.e0 bL (Li [1,1]) _ (Li [-1, -2,1]) none lf ?_
 refine bb.e0 bL _ _ s1 ?_
 refine bb.l10 _ 0 bL (by omega) (by decide) (by decide) (by omega) ?_
 refine bb.dw _ 1 bL _ _ _ (by omega) (by decide) (by decide) ng o1 to ?_
 refine bb.xl cC 1 bL _ (by omega) HQ (by unfold aw;omega) ?_
 refine bb.Ol _ _ bL (by omega) ?_
 refine bb.Om [] _ _ 0 bL (Li [-1]) (aE (-1)) true (by decide) rfl (Cr _ (by decide +kernel) (by unfold iX;decide +kernel)) rfl (by decide) (by omega) ?_
 refine bb.Om _ _ _ 1 bL (Li [-2]) (aE (-2)) true (by decide) rfl (Cr _ (by decide +kernel) (by unfold iX;decide +kernel)) rfl (by decide) (by omega) ?_
 refine bb.Om _ _ _ 2 bL (Li [1]) (aE 1) true (by decide) rfl (Cr _ (by decide +kernel) (by unfold iX;decide +kernel)) rfl (by decide) (by omega) ?_
 exact bb.Ym _ _ _ 3 bL _ (by decide) tr
end vR
theorem zI.ov:Cp 12 [] (vB true):=zI.Cn vR.vX
theorem Cs(c:Int):(l6 c).getD 0=c:=by
 by_cases h:c=0
 ·subst h;rfl
 ·rw[gw h];rfl
namespace hX
theorem Kr{a:az}(ha:Sh a)(h1:fw a=0){x:ah}(IC:x.num.length≤1)(Fu:x.den.length≤1):Cp 30 [a.pv,x.pv] (.aB [vI (aK (aT a.p) (loG a.rV) (hiG a.rV) x.val),.aq]):=by
 have A:=ha.acc h1
 have c1:=hX.Check ha
 rw[h1] at c1
 have c2:=hX.R2 (A.sm.ok (lo:=loG a.rV) (hi:=hiG a.rV) (by have:=A.h1;omega) (by have:=A.h2;omega)) A.lj.le IC Fu
 rw[←A.e] at c2
 exact qd.e0 a x _ none c1 c2
theorem Ks{a:az}(ha:Sh a)(h1:fw a≠0)(x:ah):Cp 30 [a.pv,x.pv] (.aB [vI 0,bC (some (fw a))]):=by
 have c1:=hX.Check ha
 rw[gw h1] at c1
 exact qd.e1 a x _ c1
end hX
namespace x9
theorem jN{a b:az}(ha:Sh a)(hb:Sh b)(h1:fw a=0)(h2:fw b=0):∃s,Cm s (aT a.p) (loG a.rV) (hiG a.rV) (aT b.p) (loG b.rV) (hiG b.rV)∧Cp 53 [a.pv,b.pv] (.aB [vI s,vI 0]):=by
 have A:=ha.acc h1
 have B:=hb.acc h2
 obtain⟨s,s1,s2⟩:=cmp A.sm B.sm A.lj B.lj A.h1 A.h2 B.h1 B.h2
 rw[←A.e,←B.e] at s2
 exact⟨s,s1,o4.e2 a b _ _ _ (x9.Check ha) h1 (x9.Check hb) h2 s2⟩
theorem V5{a b:az}(ha:Sh a)(hb:Sh b)(h:(if fw a≠0 then fw a else fw b)≠0):Cp 53 [a.pv,b.pv] (.aB [vI 0,vI (if fw a≠0 then fw a else fw b)]):=by
 by_cases h1:fw a=0
 ·rw[if_neg (by omega)] at h ⊢
  exact o4.e1 a b _ _ (x9.Check ha) h1 (x9.Check hb) h
 ·rw[if_pos h1]
  exact o4.e0 a b _ (x9.Check ha) h1
theorem Kr{a:az}(ha:Sh a)(h1:fw a=0){x:ah}(IC:x.num.length≤1)(Fu:x.den.length≤1):Cp 54 [a.pv,x.pv] (.aB [vI (aK (aT a.p) (loG a.rV) (hiG a.rV) x.val),vI 0]):=by
 have A:=ha.acc h1
 have hx:ht x.val≤1:=eQ IC Fu (by omega)
 have w:=oN (hiG a.rV) (loG a.rV)
 have a1:=A.h1
 have a2:=A.h2
 have c2:=A8 (K:=1000000) A.sm A.lj (Dy.start _ _) (XU IC Fu) (show 1≤1 by omega) hx (by omega) (by omega) (by omega) A.bd.1 A.bd.2
 rw[←A.e] at c2
 exact pQ.e1 a x _ _ (x9.Check ha) h1 c2
theorem Ks{a:az}(ha:Sh a)(h1:fw a≠0)(x:ah):Cp 54 [a.pv,x.pv] (.aB [vI 0,vI (fw a)]):=pQ.e0 a x _ (x9.Check ha) h1
end x9
namespace zI
theorem PK{a:az}(ha:Sh a)(h1:fw a=0){p:List Rat}(P:Sm p):∃s,xv (aT a.p) (loG a.rV) (hiG a.rV) p s∧Cp 121 [pq p,a.pv] (.aB [vI s,.aq])∧Cp 123 [pq p,a.pv] (vI s):=by
 have A:=ha.acc h1
 have a1:=A.h1
 have a2:=A.h2
 have w:=oN (hiG a.rV) (loG a.rV)
 obtain⟨N,hN⟩:∃N:Nat,N=1971620308:=⟨_,rfl⟩
 have hs:¬Zr (aT a.p) (loG a.rV) (hiG a.rV) p→∃s,yb p (aT a.p) (N+236+1+33+1) (loG a.rV) (hiG a.rV)=some s:=fun hz =>
  HY A.lj (LB.sm A.sm P hz A.bd.1 A.bd.2 (by omega)) A.bd.1 A.bd.2 (Rat.le_trans (pF (Rat.le_of_lt (bw 32)) Rat.le_refl p (qn P.f)) (aS (show 32*1+(32+2)*p.length≤236 by have:=P.l;omega)))
 obtain⟨s,s1,s2,s3⟩:=hX.NO (K:=N+236+1+33) P.wd A.sm A.lj (by omega) hs
 obtain⟨t,t1,t2,t3⟩:=x9.F9 (K:=N+236+1+33) (n:=N+236+1+33+1) P.wd A.sm A.lj (Dy.start _ _) (by omega) (by omega) (by omega) hs
 have e:=xv.uniq A.lj s1 t1
 subst e
 rw[←A.e] at s3 t3
 exact⟨s,s1,s3,t3⟩
theorem L6(p:List ah)(hl:p.length≤6)(hf:iN 1 p){a:az}(ha:Sh a):∃s e,Cp 52 [ae p,a.pv] (.aB [vI s,bC (l6 e)])∧Cp 55 [ae p,a.pv] (.aB [vI s,vI e]):=by
 have c1:=hX.Check ha
 have c2:=x9.Check ha
 have d1:=uh.Check p (pO hf (by omega))
 have d2:=zJ.Check p (pO hf (by omega))
 by_cases h1:fw a=0
 ·rw[h1] at c1
  by_cases h2:kN p=0
  ·rw[h2] at d1
   have P:Sm (aT p):=by
    have pl:(aT p).length=p.length:=by unfold aT;rw[List.length_map]
    exact⟨vD h2,by omega,qg hf (by omega)⟩
   obtain⟨s, -,s1,s2⟩:=PK ha h1 P
   have ep:pq (aT p)=ae p:=by unfold pq;rw[sk (nd h2)]
   rw[ep] at s1 s2
   exact⟨s,0,mY.e0 p a s none c1 d1 s1,mC.e2 p a _ _ s c2 h1 d2 h2 s2⟩
  ·rw[gw h2] at d1
   refine⟨0,kN p,?_,mC.e1 p a _ _ c2 h1 d2 h2⟩
   rw[gw h2]
   exact mY.e1 p a _ c1 d1
 ·rw[gw h1] at c1
  refine⟨0,fw a,?_,mC.e0 p a _ c2 h1⟩
  rw[gw h1]
  exact mY.e2 p a _ c1
theorem R3{a b:az}(ha:Sh a)(hb:Sh b):∃s e,Cp 35 [a.pv,b.pv] (.aB [vI s,bC (l6 e)])∧Cp 53 [a.pv,b.pv] (.aB [vI s,vI e]):=by
 by_cases h:(if fw a≠0 then fw a else fw b)=0
 ·have h1:fw a=0:=Classical.byContradiction fun e=>by rw[if_pos e] at h;exact e h
  have h2:fw b=0:=by rw[if_neg (by omega)] at h;exact h
  obtain⟨s,s1,s2⟩:=hX.jN ha hb h1 h2
  obtain⟨t,t1,t2⟩:=x9.jN ha hb h1 h2
  have e:s=t:=Cm.uniq (ha.acc h1).lj (hb.acc h2).lj s2 t1
  subst e
  exact⟨s,0,s1,t2⟩
 ·refine⟨0,_,?_,x9.V5 ha hb h⟩
  rw[gw h]
  exact hX.V5 ha hb h
theorem L7{a:az}(ha:Sh a){x:ah}(IC:x.num.length≤1)(Fu:x.den.length≤1):∃s e,Cp 30 [a.pv,x.pv] (.aB [vI s,bC (l6 e)])∧Cp 54 [a.pv,x.pv] (.aB [vI s,vI e]):=by
 by_cases h:fw a=0
 ·exact⟨_,0,hX.Kr ha h IC Fu,x9.Kr ha h IC Fu⟩
 ·refine⟨0,_,?_,x9.Ks ha h x⟩
  rw[gw h]
  exact hX.Ks ha h x
theorem DE(a b:az)(p:List ah){C:Prop}(_:C):Cp 9 [a.pv,b.pv,ae p] (vB true):=by
 obtain⟨b1,h1,g1⟩:=small [a,b] (by simp)
 cases b1 with
 |false=>exact il.e0 a b p _ _ h1 rfl ov
 |true =>
  obtain⟨b2,h2,g2⟩:=short p
  cases b2 with
  |false=>exact il.e1 a b p _ _ _ h1 rfl h2 rfl ov
  |true =>
   have sa:=(g1 rfl a (by simp)).1
   obtain⟨sb, -,DK, -⟩:=g1 rfl b (by simp)
   obtain⟨pl,pf⟩:=g2 rfl
   obtain⟨s,e,s1,s2⟩:=R3 sa sb
   obtain⟨t,f,t1,t2⟩:=L7 sa DK.1 DK.2.1
   obtain⟨u,g,u1,u2⟩:=L6 p pl (fun y hy=>⟨(pf y hy).1,(pf y hy).2.1⟩) sa
   have n1:=PA.Wx (l6 e)
   have n2:=PA.Wx (l6 f)
   have n3:=PA.Wx (l6 g)
   rw[Cs] at n1 n2 n3
   have:=il.e3 a b p _ _ _ s (l6 e) t (l6 f) u (l6 g) s e t f u g _ _ _ h1 rfl h2 rfl ov rfl s1 t1 u1 s2 t2 u2 n1 rfl rfl n2 rfl rfl n3 rfl
   rwa[beq_self_eq_true] at this
end zI
end Go.Proofs.YtllmkadmohkbfaaGreatDoor.Sym
