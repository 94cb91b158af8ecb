/- Lemmas for the statements of this seat. -/
import Derived.Test.YtcpnocgollpbhaaGreatDoorG4
import Derived.Test.YtcpnocgollpbhaaGreatDoorP4
import Derived.Test.YtcpnocgollpbhaaGreatDoorChecked
import Derived.Shelf.Strings.BuilderX
import Derived.Shelf.Lays
import Derived.KernelRfl
import Derived.Test.YtcpnocgollpbhaaGreatDoorW25
import Derived.Test.YtcpnocgollpbhaaGreatDoorT0
import Derived.Shelf.Strconv.Itoa3
import Derived.Shelf.Strings.OnBuilder
import Derived.Test.YtcpnocgollpbhaaGreatDoorG1
import Derived.Test.YtcpnocgollpbhaaGreatDoorP5
namespace Go.Proofs.YtcpnocgollpbhaaGreatDoor.Sym
open Go Path cV
set_option linter.unusedVariables false
theorem N3{q:List Rat}{n:Nat}(h:q.length=n):wideL q n=q:=by unfold wideL;rw[afD (by omega),show n-q.length=0 from by omega,ai7,ahA]
theorem Lm(T:Tw){q:List Rat}{n:Nat}(h:q.length≤n):toQ T (wideL q n)=toQ T q:=by
 have key:∀i,coef (wideL q n) i=coef q i:=fun i=>by
  rw[xF];split
  ·rfl
  ·rw[cW (by omega)]
 unfold toQ;simp only[key]
namespace Cg
theorem xI{k:Nat}(hk:k≤5):Cp 49 [vI ((2^k:Nat):Int)] (.aF [vI (k:Int),vB true]):=by
 have p5:∀t,t≤5→1*2^t<9223372036854775808:=fun t ht=>by have:2^t≤2^5:=afH (by omega) ht;omega
 have loop:∀d t:Nat,t+d=k→bL.ah ((2^k:Nat):Int) t (.aF [vI (k:Int),vB true]):=by
  intro d
  induction d with
  |zero =>
   intro t ht;have:t=k:=by omega
   subst this;exact bL.l10 _ t (by omega) (by omega) (p5 t hk) (by rw[agV])
  |succ d ih =>intro t ht;have:2^t<2^k:=ahv (by omega) (by omega);exact bL.cB _ t (by omega) (by omega) (p5 t (by omega)) (by omega) (by omega) (ih (t+1) (by omega))
 exact bL.e0 _ (loop k 0 (by omega))
theorem Ef{n:Int}(hn:n≠1∧n≠2∧n≠4∧n≠8∧n≠16∧n≠32):Cp 49 [vI n] (.aF [vI 0,vB false]):=by obtain⟨h0,h1,h2,h3,h4,h5⟩:=hn;refine bL.e0 _ ?_;refine bL.cB _ 0 (by omega) (by omega) (by decide) (by exact h0) (by omega) ?_;refine bL.cB _ 1 (by omega) (by omega) (by decide) (by exact h1) (by omega) ?_;refine bL.cB _ 2 (by omega) (by omega) (by decide) (by exact h2) (by omega) ?_;refine bL.cB _ 3 (by omega) (by omega) (by decide) (by exact h3) (by omega) ?_;refine bL.cB _ 4 (by omega) (by omega) (by decide) (by exact h4) (by omega) ?_;refine bL.cB _ 5 (by omega) (by omega) (by decide) (by exact h5) (by omega) ?_;exact bL.jT _ 6 (by omega)
theorem plain(a:List ag)(hl:a.length≤1000):Cp 51 [ae a] (vB (a.all yZ)):=by
 have loop:∀d t:Nat,a.length-t=d→di.ah a t (vB ((a.drop t).all yZ)):=by
  intro d
  induction d with
  |zero =>intro t hd;rw[afV (by omega)];exact di.Bz a t (by omega)
  |succ d ih =>
   intro t hd;obtain⟨v,hv⟩:∃v,a[t]? = some v:=⟨_,afp (by omega)⟩;rw[ve hv];unfold yZ;by_cases h1:v.neg=true
   ·rw[h1];exact di.l10 a t v (by omega) hv h1
   ·rw[agI] at h1;rw[h1];by_cases h2:v.num=[]
    ·rw[h2];by_cases h3:v.den=[]
     ·rw[h3];exact di.tN a t v (by omega) hv h1 (by rw[h2];simp) (by rw[h3];simp) (by omega) (ih (t+1) (by omega))
     ·rw[show v.den.isEmpty=false from by cases hh:v.den<;>simp_all];exact di.jT a t v (by omega) hv h1 (by rw[h2];simp) (fun e=>h3 (afr e))
    ·rw[show v.num.isEmpty=false from by cases hh:v.num<;>simp_all];exact di.cB a t v (by omega) hv h1 (fun e=>h2 (afr e))
 have:=loop _ 0 rfl;rw[agB] at this;exact di.e0 a this
theorem Ay:Cp 16 [ae []] (ae []) :=
 dh.e0 [] _ false (Ef (n:=(([]:List ag).length:Int)) (by decide)) rfl (by decide)
theorem QI{a:List ag}{k:Nat}(hk:k≤5)(h:a.length=2^k):Cp 16 [ae a] (ae (NV a k)):=by
 have b5:2^k≤2^5:=afH (by omega) hk;have loop:∀t:Nat,t≤k→dh.ah a (2^t) (ae (NV a t)):=by
  intro t
  induction t with
  |zero =>
   intro _;have p0:0<2^k:=agm _;have e:=plain (a.take 1) (by rw[afK];omega);unfold NV;by_cases hb:(a.take 1).all yZ=true
   ·rw[afI hb];exact dh.Bz a 1 _ (by omega) rfl (by omega) e hb
   ·rw[afG hb];exact dh.Vj a 1 _ (by omega) rfl (by omega) e (by rwa[agI] at hb) (by omega) (by rw[ahp,afK];omega)
  |succ t ih =>
   intro ht;have le:2^(t+1)≤2^k:=afH (by omega) ht;have p0:0<2^t:=agm _;have hh:2^(t+1)/2=2^t:=by rw[afM];omega
   have h2:1<2^(t+1):=by rw[afM];omega
   have e:=plain ((a.take (2^(t+1))).drop (2^t)) (by rw[ahg,afK];omega);unfold NV;by_cases hb:((a.take (2^(t+1))).drop (2^t)).all yZ=true
   ·rw[afI hb];exact dh.l10 a _ _ h2 (by omega) (by omega) (by omega) (by rw[hh];exact e) hb (by rw[hh];exact ih (by omega))
   ·rw[afG hb];exact dh.tN a _ _ h2 (by omega) (by omega) (by omega) (by rw[hh];exact e) (by rwa[agI] at hb) (by omega) (by rw[ahp,afK];omega)
 have:=loop k (afy _);rw[←h] at this;have pw:=xI (k:=k) hk;rw[←h] at pw;exact dh.e1 a _ true pw rfl this
theorem zk(q:List Rat){n:Nat}(h:q.length≤n):wideL q n=q++List.replicate (n-q.length) 0:=by unfold wideL;rw[afD h]
theorem wide(q:List Rat)(n:Nat)(hn:n≤1000)(hq:q.length≤n):Cp 158 [pq q,vI (n:Int)] (pq (wideL q n)):=by
 have loop:∀d t:Nat,q.length+t+d=n→gF.ah (n:Int) ((q++List.replicate t 0).map aI) (pq (wideL q n)):=by
  intro d
  induction d with
  |zero =>
   intro t ht;have e:wideL q n=q++List.replicate t 0:=by rw[zk q hq,show n-q.length=t from by omega]
   rw[e];exact gF.cB _ _ (by simp;omega)
  |succ d ih =>intro t ht;have:=ih (t+1) (by omega);rw[aiP,←ah9,agd] at this;exact gF.l10 _ _ (by simp;omega) (by simp;omega) this
 have:=loop (n-q.length) 0 (by omega);rw[ai7,ahA] at this;exact gF.e0 _ _ (by simp;omega) this
theorem Jz(q:List Rat)(n:Nat)(hn:n≤1000)(hq:q.length≤n):au bu 158 [.pv (pq q),.pv (vI (n:Int))] [] (.row 0 0 n 3) [(0,(.pure ((((wideL q n).map aI):List ag).map ag.cells).flatten))]:=by
 have loop:∀d t:Nat,q.length+t+d=n→gg.ah (n:Int) ((q++List.replicate t 0).map aI) [] (.row 0 0 n 3) [(0,(.pure ((((wideL q n).map aI):List ag).map ag.cells).flatten))]:=by
  intro d
  induction d with
  |zero =>
   intro t ht;have e:wideL q n=q++List.replicate t 0:=by rw[zk q hq,show n-q.length=t from by omega]
   rw[e];have:=gg.cB (n:Int) ((q++List.replicate t 0).map aI) (sin:=[]) rfl rfl (by simp;omega);have e2:(List.map aI (q++List.replicate t (0:Rat))).length=n:=by simp;omega
   rwa[e2] at this
  |succ d ih =>intro t ht;have:=ih (t+1) (by omega);rw[aiP,←ah9,agd] at this;exact gg.l10 _ _ rfl (by simp;omega) (by simp;omega) this
 have:=loop (n-q.length) 0 (by omega);rw[ai7,ahA] at this;exact gg.e0 _ _ (by simp;omega) this
theorem plus(p q:List Rat)(hp:p.length≤1000)(hq:q.length≤1000)(fp:Fl 68719476736 p)(fq:Fl 68719476736 q):Cp 92 [pq p,pq q] (pq (kx p q)):=by
 unfold kx;have ln:max (p.map aI).length (q.map aI).length=max p.length q.length:=by rw[afq,afq]
 have hpn:p.length≤max p.length q.length:=ahD _ _;have Rq:q.length≤max p.length q.length:=ahj _ _;generalize hn:max p.length q.length=n at *;have wx:=Jz p n (by omega) hpn;have w:=wide q n (by omega) Rq;have hA:=cP p n;have hB:=cP q n;have fA:=Cb n fp (by omega);have fB:=Cb n fq (by omega);generalize wideL p n=A at *;generalize wideL q n=B at *;have loop:∀d t:Nat,n-t=d→t≤n→gG.ah n (B.map aI) t ((List.zipWith (·+·) (A.take t) (B.take t)++A.drop t).map aI) (pq (List.zipWith (·+·) A B)):=by
  intro d
  induction d with
  |zero =>intro t hd ht;rw[show A.take t=A from afD (by omega),show B.take t=B from afD (by omega),afV (by omega),ahA];exact gG.cB n _ t _ (by omega) (by simp;omega)
  |succ d ih =>
   intro t hd ht;obtain⟨v,hv⟩:∃v,A[t]? = some v:=⟨_,afp (by omega)⟩;obtain⟨u,hu⟩:∃v,B[t]? = some v:=⟨_,afp (by omega)⟩;have hl:(List.zipWith (·+·) (A.take t) (B.take t)).length=t:=by simp;omega
   have:=ih (t+1) (by omega) (by omega);rw[ag4,ag4,hv,hu] at this;refine gG.l10 n _ t _ (aI v) (aI u) (aI (v+u)) (by omega) ?_ (by rw[afu,hu];rfl) (QR.Add v u (fA v (afx hv)) (fB u (afx hu))) (by simp;omega) (by omega) ?_
   ·rw[afu,agD (by omega),hl,ahR,agn,aha,hv];rfl
   ·rw[drop_cons hv,agd,agk,vz (by rw[afq];exact hl)];rw[List.zipWith_append (by simp;omega)] at this;simpa using this
 have:=loop _ 0 rfl (by omega);refine gG.e0 _ _ (A.map aI) n (B.map aI) (by rw[ln];exact wx) (by rw[ln];exact w) ?_;simpa using this
theorem less(q:List Rat)(hl:q.length≤1000)(hf:Fl 68719476736 q):Cp 84 [pq q] (pq (q.map (- ·))):=by
 have loop:∀d t:Nat,q.length-t=d→t≤q.length→gH.ah (((q.take t).map (- ·)).map aI) (q.map aI) t (pq (q.map (- ·))):=by
  intro d
  induction d with
  |zero =>intro t hd ht;rw[show q.take t=q from afD (by omega)];exact gH.cB _ _ t (by rw[afq];omega)
  |succ d ih =>
   intro t hd ht;obtain⟨v,hv⟩:∃v,q[t]? = some v:=⟨_,afp (by omega)⟩;have Ep:(q.map aI)[t]? = some (aI v):=by rw[afu,hv];rfl
   have s:=QR.Neg v (hf v (afx hv));have:=ih (t+1) (by omega) (by omega);rw[ag4,hv,agd,agd] at this;exact gH.l10 _ _ t _ _ (by rw[afq];omega) Ep s (by simp;omega) (by omega) this
 have:=loop _ 0 rfl (by omega);rw[List.take_zero] at this;exact gH.e0 _ this
variable {T:Tw}
theorem kz{q:List Rat}{k:Nat}(hk:k≤2)(hl:Lk k q):Cp 16 [pq q] (pq (fO (toQ T q))):=by
 rcases hl with rfl|⟨j,j1,j2⟩
 ·rw[MM];exact Ay
 ·have:=QI (a:=q.map aI) (k:=j) (by omega) (by rw[afq];exact j2);rwa[T7 T (by omega) j2] at this
theorem Wf{i j:Nat} : max (2^i) (2^j)=2^max i j:=by
 rcases Nat.le_total i j with h|h
 ·rw[ajf h,ajf (afH (by omega) h)]
 ·rw[ajl h,ajl (afH (by omega) h)]
theorem tG(ht:Tok T){t:aA}{n:Nat}(hr:Rt t T n):∀k,k≤n→∀(a b:List Rat) (h h':Nat),Lk k a→Lk k b→Hq h (toQ T a)→Hq h' (toQ T b)→1≤h→1≤h'→h+h'+32*k+32≤34359738368 →
  ∃r,Cp 91 [t.pv,pq a,pq b] (pq r)∧Lk k r∧toQ T r=toQ T a*toQ T b:=by
 intro k
 induction k using Nat.strongRecOn with
 |ind k ih =>
  intro hk a b h h' la lb ha hb h1 tI hs;have hn:=hr.1;have z0:toQ T []=0:=rfl;have sa:=kz (T:=T) (show k≤2 by omega) la;have sb:=kz (T:=T) (show k≤2 by omega) lb;have cl:=qx (JI (T:=T) la);have dl:=qx (JI (T:=T) lb);have cq:Hq h (toQ T (fO (toQ T a))):=by rw[fN];exact ha
  have dq:Hq h' (toQ T (fO (toQ T b))):=by rw[fN];exact hb
  have ce:=fN (toQ T a);have de:=fN (toQ T b);generalize fO (toQ T a)=c at sa cl cq ce;generalize fO (toQ T b)=d at sb dl dq de;rw[←ce,←de];have c4:=cl.len (by omega);have d4:=dl.len (by omega);have lc:(c.map aI).length=c.length:=bx _;have ld:(d.map aI).length=d.length:=bx _;rcases cl with rfl|⟨i,i1,i2⟩
  ·exact⟨[],gh.e0 t _ _ [] _ sa sb rfl,.inl rfl,by rw[z0];grind⟩
  have pi:0<2^i:=agm _;rcases dl with rfl|⟨j,j1,j2⟩
  ·exact⟨[],gh.e1 t _ _ _ [] sa sb (by omega) rfl,.inl rfl,by rw[z0];grind⟩
  have pj:0<2^j:=agm _;have zM:max (c.map aI).length (d.map aI).length=2^max i j:=by rw[lc,ld,i2,j2,Wf]
  match hm:max i j with
  |0 =>
   have i0:i=0:=by omega
   have j0:j=0:=by omega
   subst i0 j0;obtain⟨x,rfl⟩:=lz i2;obtain⟨y,rfl⟩:=lz j2;have m:=QR.Mul x y (by have:=cq.fl h1 c4 x (by simp);omega) (by have:=dq.fl tI d4 y (by simp);omega);exact⟨[x*y],gh.e2 t _ _ [aI x] [aI y] _ _ _ sa sb (by simp) (by simp) (by simp) (by simp) (by simp) m,.inr ⟨0,ag0 _,rfl⟩,Q4.ME x y⟩
  |l+1 =>
   rw[hm] at zM;have p2:2^(l+1)=2^l+2^l:=by rw[afM];omega
   have p0:0<2^l:=agm _;have p4:2^(l+1)≤2^2:=afH (by omega) (by omega);have ic:c.length≤2^(l+1):=by rw[i2];exact afH (by omega) (by omega)
   have jd:d.length≤2^(l+1):=by rw[j2];exact afH (by omega) (by omega)
   have wc:=wide c (2^(l+1)) (by omega) ic;have wd:=wide d (2^(l+1)) (by omega) jd;have ge:=Lm T ic;have ie:=Lm T jd;have gl:=cP c (2^(l+1));have il:=cP d (2^(l+1));rw[←ge] at cq;rw[←ie] at dq;rw[←ge,←ie];generalize wideL c (2^(l+1))=A at wc gl cq;generalize wideL d (2^(l+1))=B at wd il dq;obtain⟨hx,hy,_,_⟩:=pf gl;obtain⟨hu,hv,_,_⟩:=pf il;have eA:=D9 T (show l≤1 by omega) gl;have eB:=D9 T (show l≤1 by omega) il;have xq:=cq.take (j:=2^l);have yq:=cq.drop (j:=2^l) (by omega);have uq:=dq.take (j:=2^l);have vq:=dq.drop (j:=2^l) (by omega);have ih:=ih l (by omega) (by omega);have hks:32*l+64≤32*k+32:=by omega
   obtain⟨r1,a1,a2,a3⟩:=ih _ _ h h' hx hu xq uq h1 tI (by omega);obtain⟨r2,b1,b2,b3⟩:=ih _ _ h h' hy hv yq vq h1 tI (by omega);have q1:Hq (h+h'+8) (toQ T r1):=by rw[a3];exact Hq.mul ht xq uq
   have q2:Hq (h+h'+8) (toQ T r2):=by rw[b3];exact Hq.mul ht yq vq
   obtain⟨r3,c1,c2,c3⟩:=ih r2 (eV T l) (h+h'+8) 1 b2 (.nr (oB T (by omega))) q2 (ht.root l) (by omega) (by omega) (by omega);have q3:Hq (h+h'+8+1+8) (toQ T r3):=by rw[c3];exact Hq.mul (h:=h+h'+8) (k:=1) ht q2 (ht.root l)
   obtain⟨r4,e1,e2,e3⟩:=ih _ _ h h' hx hv xq vq h1 tI (by omega);obtain⟨r5,f1,f2,f3⟩:=ih _ _ h h' hy hu yq uq h1 tI (by omega);have q4:Hq (h+h'+8) (toQ T r4):=by rw[e3];exact Hq.mul ht xq vq
   have q5:Hq (h+h'+8) (toQ T r5):=by rw[f3];exact Hq.mul ht yq uq
   have m1:=plus r1 r3 (by have:=a2.len (by omega);omega) (by have:=c2.len (by omega);omega) (cb (q1.fl (by omega) (a2.len (by omega))) (by omega)) (cb (q3.fl (by omega) (c2.len (by omega))) (by omega));have s1:=plus r4 r5 (by have:=e2.len (by omega);omega) (by have:=f2.len (by omega);omega) (cb (q4.fl (by omega) (e2.len (by omega))) (by omega)) (cb (q5.fl (by omega) (f2.len (by omega))) (by omega));have ml:=pg a2 c2;have sl:=pg e2 f2;obtain⟨g1,g2⟩:=Lg T (show l≤1 by omega) ml sl;have wx:=Jz (kx r1 r3) (2^l) (by omega) ml.le;have wy:=wide (kx r4 r5) (2^l) (by omega) sl.le;have hh:max (c.map aI).length (d.map aI).length/2=2^l:=by rw[zM,p2];omega
   have lA:(A.map aI).length=2^(l+1):=by rw[bx];exact gl
   have lB:(B.map aI).length=2^(l+1):=by rw[bx];exact il
   refine⟨wideL (kx r1 r3) (2^l)++wideL (kx r4 r5) (2^l),?_,(Lk.nr g2).mono (by omega),?_⟩
   ·have pw:=xI (k:=l+1) (by omega);have key:=gh.e3 t (a.map aI) (b.map aI) (c.map aI) (d.map aI) (A.map aI) (B.map aI) ((l+1:Nat):Int) true (r1.map aI) (r2.map aI) l _ (r3.map aI) ((kx r1 r3).map aI) (r4.map aI) (r5.map aI) ((kx r4 r5).map aI) ((wideL (kx r1 r3) (2^l)).map aI) (2^l) ((wideL (kx r4 r5) (2^l)).map aI)
     sa sb (by omega) (by omega) (by rw[zM];omega) (by rw[zM];exact wc) (by rw[zM];exact wd) (by rw[zM];exact pw) (by omega) (by omega) (by omega) (by omega) (by omega)
     (by rw[hh,dE,dE];exact a1) (by rw[hh,dF,dF];exact b1) (by unfold ay;omega) (by omega) (hr.2 l (by omega)) c1 m1 (by rw[hh,dE,dF];exact e1) (by rw[hh,dF,dE];exact f1) s1 (by rw[hh];exact wx) (by rw[hh];exact wy) (by rw[afq,cP]) (by rw[afW,afq,afq,cP,cP];omega)
    unfold pq;rwa[agd]
   ·rw[g1,nt,nt,a3,c3,b3,e3,f3,eA,eB,←Lh T (show l≤1 by omega)];grind
theorem QW(ht:Tok T){t:aA}{n:Nat}(hr:Rt t T n){k:Nat}(hk:k+1≤n){a:List Rat}{h:Nat}(hA:a.length=2^(k+1))(ha:Hq h (toQ T a))(h1:1≤h)(hs:4*h+200≤34359738368) :
  ∃r,Cp 98 [t.pv,pq a,vI ((2^(k+1):Nat):Int)] (pq r)∧Lk k r∧toQ T r=toQ T (a.take (2^k))*toQ T (a.take (2^k))-toQ T (a.drop (2^k))*toQ T (a.drop (2^k))*toQ T (eV T k)∧Hq (4*h+30) (toQ T r):=by
 have hn:=hr.1;have p2:2^(k+1)=2^k+2^k:=by rw[afM];omega
 have p4:2^(k+1)≤2^2:=afH (by omega) (by omega);obtain⟨hx,hy,_,_⟩:=pf hA;have xq:=ha.take (j:=2^k);have yq:=ha.drop (j:=2^k) (by omega);obtain⟨b,b1,b2,b3⟩:=tG ht hr k (by omega) _ _ h h hx hx xq xq h1 h1 (by omega);obtain⟨c,c1,c2,c3⟩:=tG ht hr k (by omega) _ _ h h hy hy yq yq h1 h1 (by omega);have bq:Hq (h+h+8) (toQ T b):=by rw[b3];exact Hq.mul ht xq xq
 have cq:Hq (h+h+8) (toQ T c):=by rw[c3];exact Hq.mul ht yq yq
 obtain⟨g,g1,g2,g3⟩:=tG ht hr k (by omega) c (eV T k) (h+h+8) 1 c2 (.nr (oB T (by omega))) cq (ht.root k) (by omega) (by omega) (by omega);have gq:Hq (h+h+8+1+8) (toQ T g):=by rw[g3];exact Hq.mul (h:=h+h+8) (k:=1) ht cq (ht.root k)
 have i1:=less g (by have:=g2.len (by omega);omega) (cb (gq.fl (by omega) (g2.len (by omega))) (by omega));have iq:Hq (h+h+8+1+8) (toQ T (g.map (- ·))):=by rw[wP];exact gq.neg
 have il:=Ea g2;have j1:=plus b (g.map (- ·)) (by have:=b2.len (by omega);omega) (by have:=il.len (by omega);omega) (cb (bq.fl (by omega) (b2.len (by omega))) (by omega)) (cb (iq.fl (by omega) (il.len (by omega))) (by omega));have C9:(a.map aI).length=2^(k+1):=by rw[bx];exact hA
 have hh:2^(k+1)/2=2^k:=by rw[p2];omega
 have w:=wide a (2^(k+1)) (by omega) (by omega);rw[N3 hA] at w;refine⟨_,qo.e0 t _ _ (a.map aI) _ true (2^(k+1)) (2^(k+1)) (b.map aI) (c.map aI) k _ (g.map aI) _ _ w (xI (k:=k+1) (by omega)) rfl (by omega) (by omega) rfl (by omega) (by omega) (by rw[hh,dE];exact b1) (by rw[hh,dF];exact c1) (by unfold ay;omega) (by omega) (hr.2 k (by omega)) g1 i1 j1,pg b2 il,?_,?_⟩
 ·rw[nt,wP,b3,g3,c3];grind
 ·rw[nt];exact(bq.add iq).mono (by omega)
theorem Ee(ht:Tok T)(K:xE T){t:aA}{n:Nat}(hr:Rt t T n):∀k,k≤n→∀(a:List Rat) (h:Nat),Lk k a→Hq h (toQ T a)→1≤h→4^k*(h+64)≤1073741824→Cp 48 [t.pv,pq a] (vI (R.gR (lv K a))):=by
 intro k
 induction k using Nat.strongRecOn with
 |ind k ih =>
  intro hk a h la ha h1 hs;have hn:=hr.1;have p1:0<4^k:=aiG (by omega);have abf:h+64≤4^k*(h+64):=aiE _ p1;have s1:=kz (T:=T) (show k≤2 by omega) la;have bl:=qx (JI (T:=T) la);have bq:Hq h (toQ T (fO (toQ T a))):=by rw[fN];exact ha
  have bv:=T9 K a;rw[←bv];generalize fO (toQ T a)=b at s1 bl bq;have b4:=bl.len (by omega);rcases bl with rfl|⟨j,j1,j2⟩
  ·have e:R.gR (lv K [])=0:=R.lJ.2 (Hu K);rw[e];exact ej.e0 t _ [] s1 rfl
  ·match j,j1,j2 with
   |0,_,j2 =>obtain⟨x,rfl⟩:=lz j2;have fx:=QR.Sign x (by have:=bq.fl h1 b4 x (by simp);omega);rw[MN K] at fx;exact ej.e1 t _ [aI x] (aI x) _ s1 (by simp) (by simp) (by simp) fx
   |j+1,j1,j2 =>
    have p2:2^(j+1)=2^j+2^j:=by rw[afM];omega
    have p0:0<2^j:=agm _;obtain⟨hx,hy,_,_⟩:=pf j2;have xq:=bq.take (j:=2^j);have yq:=bq.drop (j:=2^j) b4;have Ll:4^(j+1)≤4^k:=afH (by omega) j1;have kX:4^(j+1)=4^j*4:=afM ..;have hle:=afw (h+64) Ll;have abg:4^j*(h+64)*4=4^(j+1)*(h+64):=by rw[kX];grind
    have sE:1+64≤h+64:=by omega
    have abh:=afO (4^j) sE;have cx:=ih j (by omega) (by omega) _ h hx xq h1 (by omega);have cy:=ih j (by omega) (by omega) _ h hy yq h1 (by omega);have cr:=ih j (by omega) (by omega) (eV T j) 1 (.nr (oB T (by omega))) (ht.root j) (by omega) (by omega);have C9:(b.map aI).length=2^(j+1):=by rw[bx];exact j2
    have hh:(b.map aI).length/2=2^j:=by rw[C9,p2];omega
    have pw:=xI (k:=j+1) (by omega);rw[←C9] at pw;have oX:=hr.2 j (by omega);have n0:(b.map aI).length≠0:=by omega
    have n1:(b.map aI).length≠1:=by omega
    have q4:2^(j+1)≤2^2:=afH (by omega) (by omega);obtain⟨r,r1,r2,r3,r4⟩:=QW ht hr (show j+1≤n by omega) j2 bq h1 (by omega);rw[←C9] at r1;have cn:=ih j (by omega) (by omega) r (4*h+30) r2 r4 (by omega) (by
     have:4^j*(4*h+30+64)≤4^j*((h+64)*4):=afO _ (by omega);have e:4^j*((h+64)*4)=4^j*(h+64)*4:=by grind
     omega)
    have hnv:lv K r=lv K (b.take (2^j))*lv K (b.take (2^j))-lv K (b.drop (2^j))*lv K (b.drop (2^j))*lv K (eV T j):=by unfold lv;rw[r3,Q4.MF,Q4.vg,Q4.vg,Q4.vg]
    obtain⟨g1,g2,g3,g4⟩:=MI K (show j≤1 by omega) j2 rfl rfl rfl hnv.symm;have rx:=ze (lv K (b.take (2^j)));have ry:=ze (lv K (b.drop (2^j)));have rr:=ze (lv K r);have rd:=SV K (show j≤1 by omega);generalize R.gR (lv K (b.take (2^j)))=X at *;generalize R.gR (lv K (b.drop (2^j)))=Y at *;generalize R.gR (lv K (eV T j))=D at *;generalize R.gR (lv K r)=N at *;have Y6:ay (Y*D):=by unfold ay;rcases ry with e|e|e<;>rcases rd with e'|e'<;>rw[e,e']<;>decide
    have in2:ay (X*N):=by unfold ay;rcases rx with e|e|e<;>rcases rr with e'|e'|e'<;>rw[e,e']<;>decide
    by_cases c1:X=Y*D
    ·have e:R.gR (lv K b)=X:=by
      rcases rd with hd|hd
      ·exact g1 hd
      ·rw[hd,Int.mul_one] at c1;exact g2 (.inl c1)
     rw[e];exact ej.e2 t _ (b.map aI) _ true j _ _ _ _ s1 n0 n1 pw (by unfold ay;omega) (by omega) oX (by omega) (by omega) (by rw[hh,dE];exact cx) (by omega) (by rw[hh,dF];exact cy) cr Y6 c1
    ·by_cases c2:Y*D=0
     ·have e:R.gR (lv K b)=X:=by
       rcases rd with hd|hd
       ·exact g1 hd
       ·rw[hd,Int.mul_one] at c2;exact g2 (.inr c2)
      rw[e];exact ej.e3 t _ (b.map aI) _ true j _ _ _ _ s1 n0 n1 pw (by unfold ay;omega) (by omega) oX (by omega) (by omega) (by rw[hh,dE];exact cx) (by omega) (by rw[hh,dF];exact cy) cr Y6 c1 c2
     ·have hd:D=1:=by
       rcases rd with hd|hd
       ·rw[hd,Int.mul_zero] at c2;exact absurd rfl c2
       ·exact hd
      have hY:Y*D=Y:=by rw[hd,Int.mul_one]
      have K3:D≠0:=by omega
      by_cases c3:X=0
      ·rw[g3 K3 c3];have:=ej.e4 t (a.map aI) (b.map aI) _ true j _ _ _ _ s1 n0 n1 pw (by unfold ay;omega) (by omega) oX (by omega) (by omega) (by rw[hh,dE];exact cx) (by omega) (by rw[hh,dF];exact cy) cr Y6 c1 c2 c3;rwa[hY] at this
      ·rw[g4 K3 c3 (by omega) (by omega)];exact ej.e5 t _ (b.map aI) _ true j _ _ _ _ (r.map aI) _ s1 n0 n1 pw (by unfold ay;omega) (by omega) oX (by omega) (by omega) (by rw[hh,dE];exact cx) (by omega) (by rw[hh,dF];exact cy) cr Y6 c1 c2 c3 r1 cn in2
end Cg
end Go.Proofs.YtcpnocgollpbhaaGreatDoor.Sym
namespace Go.Proofs.YtcpnocgollpbhaaGreatDoor.Sym.WN
open Go Go.Shelf Go.Proofs
set_option maxRecDepth 20000
def pn:Ren:=⟨fun n=>match n with|129=>247|156=>146|165=>193|166=>194|169=>196|171=>144|240=>230|241=>231|243=>190|246=>226|276=>243|277=>244|283=>239|284=>240|285=>241|286=>242|317=>246|318=>248|319=>249|320=>250|337=>251|338=>252|n=>n,
 fun n=>match n with|0=>0|2=>2|3=>3|4=>4|5=>5|9=>9|20=>20|31=>174|37=>208|46=>146|51=>112|53=>145|70=>207|72=>210|75=>31|76=>58|80=>214|127=>233|164=>243|171=>238|173=>241|212=>248|213=>249|232=>252|233=>253|n=>n,
 fun n=>match n with|17=>0|18=>2|19=>3|n=>n⟩
theorem MO:Lays.n156 Tryz.prog pn where
 mixed:=by kernel_rfl
 f156:=Tryz.func146.trans (agK some (by kernel_rfl))
 f165:=Tryz.func193.trans (agK some (by kernel_rfl))
 f166:=Tryz.func194.trans (agK some (by kernel_rfl))
 f169:=Tryz.func196.trans (agK some (by kernel_rfl))
 f240:=Tryz.func230.trans (agK some (by kernel_rfl))
 f241:=Tryz.func231.trans (agK some (by kernel_rfl))
 f276:=Tryz.func243.trans (agK some (by kernel_rfl))
 f277:=Tryz.func244.trans (agK some (by kernel_rfl))
 t0:=Tryz.underlying0
 a0:=Tryz.isAgg0
 z0:=Tryz.sizeOf0
 v0:=Tryz.zeroValue0
 t3:=Tryz.underlying3
 a3:=Tryz.isAgg3
 z3:=Tryz.sizeOf3
 v3:=Tryz.zeroValue3
 t4:=Tryz.underlying4
 a4:=Tryz.isAgg4
 z4:=Tryz.sizeOf4
 v4:=Tryz.zeroValue4
 t9:=Tryz.underlying9
 a9:=Tryz.isAgg9
 z9:=Tryz.sizeOf9
 v9:=Tryz.zeroValue9
 t20:=Tryz.underlying20
 a20:=Tryz.isAgg20
 z20:=Tryz.sizeOf20
 v20:=Tryz.zeroValue20
 t31:=Tryz.underlying174
 a31:=Tryz.isAgg174
 z31:=Tryz.sizeOf174
 v31:=Tryz.zeroValue174
 t37:=Tryz.underlying208
 a37:=Tryz.isAgg208
 z37:=Tryz.sizeOf208
 v37:=Tryz.zeroValue208
 t70:=Tryz.underlying207
 a70:=Tryz.isAgg207
 z70:=Tryz.sizeOf207
 v70:=Tryz.zeroValue207
 t72:=Tryz.underlying210
 a72:=Tryz.isAgg210
 z72:=Tryz.sizeOf210
 v72:=Tryz.zeroValue210
 t75:=Tryz.underlying31
 a75:=Tryz.isAgg31
 z75:=Tryz.sizeOf31
 v75:=Tryz.zeroValue31
 t76:=Tryz.underlying58
 a76:=Tryz.isAgg58
 z76:=Tryz.sizeOf58
 v76:=Tryz.zeroValue58
 t127:=Tryz.underlying233
 a127:=Tryz.isAgg233
 z127:=Tryz.sizeOf233
 v127:=Tryz.zeroValue233
 t164:=Tryz.underlying243
 a164:=Tryz.isAgg243
 z164:=Tryz.sizeOf243
 v164:=Tryz.zeroValue243
theorem SZ:Lays.n171 Tryz.prog pn where
 mixed:=by kernel_rfl
 f129:=Tryz.func247.trans (agK some (by kernel_rfl))
 f171:=Tryz.func144.trans (agK some (by kernel_rfl))
 f243:=Tryz.func190.trans (agK some (by kernel_rfl))
 f246:=Tryz.func226.trans (agK some (by kernel_rfl))
 f283:=Tryz.func239.trans (agK some (by kernel_rfl))
 f284:=Tryz.func240.trans (agK some (by kernel_rfl))
 f285:=Tryz.func241.trans (agK some (by kernel_rfl))
 f286:=Tryz.func242.trans (agK some (by kernel_rfl))
 f317:=Tryz.func246.trans (agK some (by kernel_rfl))
 f318:=Tryz.func248.trans (agK some (by kernel_rfl))
 f319:=Tryz.func249.trans (agK some (by kernel_rfl))
 f320:=Tryz.func250.trans (agK some (by kernel_rfl))
 f337:=Tryz.func251.trans (agK some (by kernel_rfl))
 f338:=Tryz.func252.trans (agK some (by kernel_rfl))
 t0:=Tryz.underlying0
 a0:=Tryz.isAgg0
 z0:=Tryz.sizeOf0
 v0:=Tryz.zeroValue0
 t2:=Tryz.underlying2
 a2:=Tryz.isAgg2
 z2:=Tryz.sizeOf2
 v2:=Tryz.zeroValue2
 t3:=Tryz.underlying3
 a3:=Tryz.isAgg3
 z3:=Tryz.sizeOf3
 v3:=Tryz.zeroValue3
 t4:=Tryz.underlying4
 a4:=Tryz.isAgg4
 z4:=Tryz.sizeOf4
 v4:=Tryz.zeroValue4
 t5:=Tryz.underlying5
 a5:=Tryz.isAgg5
 z5:=Tryz.sizeOf5
 v5:=Tryz.zeroValue5
 t9:=Tryz.underlying9
 a9:=Tryz.isAgg9
 z9:=Tryz.sizeOf9
 v9:=Tryz.zeroValue9
 t20:=Tryz.underlying20
 a20:=Tryz.isAgg20
 z20:=Tryz.sizeOf20
 v20:=Tryz.zeroValue20
 t37:=Tryz.underlying208
 a37:=Tryz.isAgg208
 z37:=Tryz.sizeOf208
 v37:=Tryz.zeroValue208
 t46:=Tryz.underlying146
 a46:=Tryz.isAgg146
 z46:=Tryz.sizeOf146
 v46:=Tryz.zeroValue146
 t51:=Tryz.underlying112
 a51:=Tryz.isAgg112
 z51:=Tryz.sizeOf112
 v51:=Tryz.zeroValue112
 t53:=Tryz.underlying145
 a53:=Tryz.isAgg145
 z53:=Tryz.sizeOf145
 v53:=Tryz.zeroValue145
 t171:=Tryz.underlying238
 a171:=Tryz.isAgg238
 z171:=Tryz.sizeOf238
 v171:=Tryz.zeroValue238
 t173:=Tryz.underlying241
 a173:=Tryz.isAgg241
 z173:=Tryz.sizeOf241
 v173:=Tryz.zeroValue241
 t212:=Tryz.underlying248
 a212:=Tryz.isAgg248
 z212:=Tryz.sizeOf248
 v212:=Tryz.zeroValue248
 t213:=Tryz.underlying249
 a213:=Tryz.isAgg249
 z213:=Tryz.sizeOf249
 t232:=Tryz.underlying252
 a232:=Tryz.isAgg252
 z232:=Tryz.sizeOf252
 v232:=Tryz.zeroValue252
 t233:=Tryz.underlying253
 a233:=Tryz.isAgg253
 z233:=Tryz.sizeOf253
 v233:=Tryz.zeroValue253
 g17:=by kernel_rfl
 g18:=by kernel_rfl
 g19:=by kernel_rfl
theorem extra:Builder.Extra Tryz.prog pn where
 sizeBuilder:=by kernel_rfl
 liesBuilder:=by kernel_rfl
 t5:=Tryz.underlying5
 a5:=Tryz.isAgg5
 z5:=Tryz.sizeOf5
 v5:=Tryz.zeroValue5
 infoByte:=by kernel_rfl
 cellsByte:=by kernel_rfl
 sizeByte:=by kernel_rfl
 neB5:=by decide
end Go.Proofs.YtcpnocgollpbhaaGreatDoor.Sym.WN
namespace Go.Proofs.YtcpnocgollpbhaaGreatDoor.Sym
open Go Go.RowKit
set_option linter.unusedVariables false
theorem mv.mk' {P : Program} {f : FuncId} {fn : Func} (h : P.funcs[f]? = some fn) (hb : (fn.body.isSome && !(fn.name == "runtime.NumGoroutine")) = true) : mv P f := by rw [afA, agN] at hb;exact ⟨fn, h, hb.1, hb.2⟩
theorem eM.QX{P:Program}{f:FuncId}{args:List PV}{r:PV}(hc:mv P f)
  (h:∀(I:Nat→Prop) (w:World) (vs:Array Value),(∀b,I b→b<w.heap.size)→args.length=vs.size →
   (∀(j:Nat) p v,args[j]? = some p→vs[j]? = some v→Rd I w p v)→ue [] (fun _=>none) w →
   Calls P f vs w (fun e w'=>∃v,e = .returned v∧Rd (fun b=>I b∨fresh w w' b) w' r v∧Below w.heap.size w w')):eM P f args r:=by
 refine⟨hc,fun I w β vs hI _ hl hr hy=>(h I w vs hI (by simpa using hl) (fun j p v hp hv=>hr j (.pv p) v (by rw[List.getElem?_map,hp];rfl) hv) hy.nil).mono ?_⟩
 rintro e w' ⟨v,he,hv,hb⟩
 refine⟨v,β,he,fun _ _ _=>rfl,l6.Ib ⟨hb,fun s=>by unfold Zb at s;exact s.elim⟩,vk _ _ _,?_,fun x b hx=>absurd hx qK⟩;exact Rd.mono hv (fun b hb=>hb.imp id (fun hf=>⟨Or.inl hf,(fun x hx=>absurd hx qK)⟩)) (fun _ _ _=>rfl)
theorem eM.MP{P:Program}{f:FuncId}{args:List PV}{r:PV}(hc:mv P f)
  (h:∀(I:Nat→Prop) (w:World) (vs:Array Value),(∀b,I b→b<w.heap.size)→args.length=vs.size →
   (∀(j:Nat) p v,args[j]? = some p→vs[j]? = some v→Rd I w p v) →
   Calls P f vs w (fun e w'=>∃v,e = .returned v∧Rd (fun b=>I b∨fresh w w' b) w' r v∧Below w.heap.size w w')):eM P f args r :=
 eM.QX hc (fun I w vs h1 h2 h3 _=>h I w vs h1 h2 h3)
theorem S0{I:Nat→Prop}{w:World}{k:IntKind}{n:Int}{v:Value}(h:Rd I w (.int k n) v):v = .int k n:=by cases h;rfl
theorem MQ{I:Nat→Prop}{w:World}{s:ByteArray}{v:Value}(h:Rd I w (.str s) v):v = .string s:=by cases h;rfl
def dig(n:Nat):ByteArray:=⟨(Lib.decDigits n).toArray⟩
theorem Ln(n:Nat)(h:n<100):Cp 144 [vI (n:Int)] (.str (dig n)):=by
 refine eM.MP (mv.mk' Tryz.func144 (by kernel_rfl)) (fun I w vs hI hl hr => ?_);obtain⟨v,rfl⟩:∃v,vs = #[v]:=by
  match vs,hl with
  |⟨[v]⟩,_=>exact⟨v,rfl⟩
 have hv:=S0 (hr 0 _ v rfl rfl);subst hv;refine Calls.mono (Any.strconv_Itoa_small WN.SZ n h w) ?_
 rintro e w' ⟨he,rfl⟩
 exact⟨_,he,.str _,Below.refl _ _⟩
def QY(l:List ByteArray)(sep:ByteArray):ByteArray:=⟨(Lib.join (l.map (·.data.toList)) sep.data.toList).toArray⟩
theorem abj(l:List ByteArray)(sep:ByteArray)(hn:l.length≤140737488355328)(hlen:(Lib.join (l.map (·.data.toList)) sep.data.toList).length≤140737488355328) :
  Cp 146 [bB kE l,.str sep] (.str (QY l sep)):=by
 refine eM.MP (mv.mk' Tryz.func146 (by kernel_rfl)) (fun I w vs hI hl hr => ?_);obtain⟨v,u,rfl⟩:∃v u,vs = #[v,u]:=by
  match vs,hl with
  |⟨[v,u]⟩,_=>exact⟨v,u,rfl⟩
 have hu:=MQ (hr 1 _ u rfl rfl);subst hu;have hv:Rd I w (.list (l.map kE)) v:=hr 0 _ v rfl rfl;cases l with
 |nil =>
  have:∃a c,v = .slice a 0 c:=by
   generalize hx:(PV.list (([]:List ByteArray).map kE))=x at hv;cases hv with
   |nil a c=>exact⟨a,c,rfl⟩
   |list xs b o c s f hc hb hs ho h =>
    injection hx with hx
    subst hx;exact⟨_,c,rfl⟩
   |_=>cases hx
  obtain⟨a,c,rfl⟩:=this;refine Calls.mono (Any.strings_Join_none WN.MO WN.extra a c sep w) ?_
  rintro e w' ⟨he,rfl⟩
  exact⟨_,he,.str _,Below.refl _ _⟩
 |cons x0 r =>
  have:∃b o c,v = .slice (some ⟨b,o,none⟩) (x0::r).length c∧(x0::r).length≤c∧I b∧∀(j:Nat) x,(x0::r)[j]? = some x→w.cell? ⟨b,o+j,none⟩=some (.string x):=by
   generalize hx:(PV.list ((x0::r).map kE))=x at hv;cases hv with
   |list xs b o c s f hc hb hs ho h =>
    injection hx with hx
    subst hx;have hs1:s=1:=by have:=hs 0 _ rfl;simpa[kE] using this.symm
    subst hs1;refine⟨b,o,c,by rw[afq],by simpa using hc,hb,fun j x hj => ?_⟩;have zL:((x0::r).map kE)[j]? = some (kE x):=by rw[afu,hj];rfl
    have h1:=(ho j 0 _ (.str x) zL rfl).2;have h2:=MQ (h j 0 _ (.str x) zL rfl);rw[h2] at h1;simpa using h1
   |_=>cases hx
  obtain⟨b,o,c,rfl,hc,hb,PH⟩:=this;refine Calls.mono (Any.strings_Join WN.MO WN.extra b o c (x0::r) sep w PH (hI b hb) hn hc hlen) ?_
  rintro e w' ⟨he,hw⟩
  exact⟨_,he,.str _,hw⟩
end Go.Proofs.YtcpnocgollpbhaaGreatDoor.Sym
namespace Go.Proofs.YtcpnocgollpbhaaGreatDoor.Sym
open Go Path cV
set_option linter.unusedVariables false
def numT(n:Int):ByteArray:=if n<0 then ByteArray.mk #[45]++dig n.natAbs else dig n.natAbs
def ratT(q:Rat):ByteArray:=if (q.den:Int)=1 then numT q.num else numT q.num++ByteArray.mk #[47]++numT (q.den:Int)
theorem vX{n:Nat}(h:n<10):dig n=ByteArray.mk #[UInt8.ofNat (48+n)]:=by unfold dig;rw[Lib.decDigits,dif_pos h]
theorem JK{n:Nat}(h:n<1000000000):(dig n).size≤10:=by
 have key:∀(k n:Nat),n<10^(k+1)→(Lib.decDigits n).length≤k+1:=by
  intro k
  induction k with
  |zero =>intro n h;rw[Lib.decDigits,dif_pos (by omega)];exact afy _
  |succ k ih =>
   intro n h;by_cases h9:n<10
   ·rw[Lib.decDigits,dif_pos h9];simp
   ·rw[Lib.decDigits,dif_neg h9,afW,agt];have:=ih (n/10) (by rw[afM] at h;omega);omega
 have:=key 8 n (by omega);show(Lib.decDigits n).toArray.size≤10;rw[ahJ];omega
theorem join_one(x sep:ByteArray):QY [x] sep=x:=by unfold QY;rw[agk,aih,Lib.join_one]
theorem FY{n:Int}(h:n.natAbs<1000000000):(numT n).size≤11:=by
 have:=JK h;unfold numT;split
 ·rw[aiL];have e:(ByteArray.mk #[45]).size=1:=rfl;omega
 ·omega
namespace Y7
theorem Ye(n:Int)(h:n.natAbs<1000000000)(hI:n≠0→Cp 144 [vI (n.natAbs:Int)] (.str (dig n.natAbs))):Cp 76 [(whole n).pv] (.str (numT n)):=by
 have hl:(words n.natAbs).length≤1:=fz (by omega);have qE:Fit (whole n).cJ:=by show Fit (words n.natAbs);unfold Fit;omega
 have hm:=cV.cJ (whole n) qE;have hn:=cV.neg (whole n) qE;rw[aE] at hm hn;by_cases h0:n=0
 ·subst h0;have e:numT 0=ByteArray.mk #[48]:=by
   unfold numT;rw[afG (by omega),show Int.natAbs 0=0 from rfl,vX (by omega)];rfl
  rw[e];exact jm.e0 _ _ hm rfl
 ·have hw:(words n.natAbs).length≠0:=fun e=>h0 (by have:=dO.1 e;omega)
  have hs:=cV.short (words n.natAbs) (1000000000:UInt32) (by omega) (by decide);rw[aH,show(1000000000:UInt32).toNat=1000000000 from rfl,ahG h,ag1 h,fW] at hs;have hv:(UInt32.ofNat n.natAbs).toNat=n.natAbs:=by rw[vv];exact ag1 (by omega)
  have hi:Cp 144 [vI ((UInt32.ofNat n.natAbs).toNat:Int)] (.str (dig n.natAbs)):=by rw[hv];exact hI h0
  have hd:=JK h;have hj:=abj [dig n.natAbs] (ByteArray.mk #[]) (by simp) (by rw[agk,aih,Lib.join_one,ahL];have:(dig n.natAbs).data.size=(dig n.natAbs).size:=rfl;omega)
  rw[join_one] at hj;have hN:jm.ah [] [dig n.natAbs] (whole n) (.str (numT n)):=by
   by_cases sv:n<0
   ·have:=jm.jT [] _ _ _ _ (by simp) hj hn (ag6 sv) (by
     have e:(ByteArray.mk #[45]).size=1:=rfl;omega)
    unfold numT;rw[afI sv];exact this
   ·have:=jm.tN [] _ _ _ _ (by simp) hj hn (ag5 sv);unfold numT;rw[afG sv];exact this
  exact jm.e1 _ _ hm hw (jm.cB _ [] _ _ _ _ (by omega) hs hi (by simp) (by simp) hN)
theorem Bj(n:Int)(h:n.natAbs<100):Cp 76 [(whole n).pv] (.str (numT n)):=Ye n (by omega) (fun _=>Ln _ h)
theorem Yf(q:Rat)(h1:q.num.natAbs<1000000000)(h2:q.den<1000000000)(hN:Cp 76 [(whole q.num).pv] (.str (numT q.num)))(hD:Cp 76 [(whole (q.den:Int)).pv] (.str (numT (q.den:Int)))):Cp 31 [(aI q).pv] (.str (ratT q)):=by
 have l1:wl q.num≤1:=fz (by omega);have l2:wl (q.den:Int)≤1:=fz (by rw[afQ];omega);have hh:ht q≤1:=aj9.2 ⟨l1,l2⟩;have hp:=uS.kQ (aI q) (jx (by omega));rw[bI] at hp;have hc:=cV.yE (whole (q.den:Int)) (whole 1) (show Fit (whole (q.den:Int)).cJ from afJ l2 (by omega)) (by decide);rw[aE,aE] at hc;have s1:=FY h1;have s2:=FY (n:=(q.den:Int)) (by rw[afQ];exact h2);by_cases hd:(q.den:Int)=1
 ·have:=rU.e0 _ _ _ _ _ _ hp uS.one hc (by rw[hd];rfl) hN;unfold ratT;rw[afI hd];exact this
 ·have e:(ByteArray.mk #[47]).size=1:=rfl;have Fy:ef (q.den:Int) 1≠0:=by
   unfold ef;intro hx;split at hx
   ·cases hx
   ·omega
  have:=rU.e1 _ _ _ _ _ _ _ hp uS.one hc Fy hN (by omega) hD (by rw[aiL];omega);unfold ratT;rw[afG hd];exact this
theorem vh(q:Rat)(h1:q.num.natAbs<100)(h2:q.den<100):Cp 31 [(aI q).pv] (.str (ratT q)) :=
 Yf q (by omega) (by omega) (Bj _ h1) (Bj _ (by rw[afQ];exact h2))
end Y7
namespace JW
theorem of(l:List Int)(h:∀n∈l,ay n)(hl:l.length≤1000):Cp 27 [bB gX l] (pq (l.map (fun n=>((n:Int):Rat)))):=by
 have loop:∀d t:Nat,l.length-t=d→t≤l.length→iQ.ah (((l.take t).map (fun n=>((n:Int):Rat))).map aI) l t (pq (l.map (fun n=>((n:Int):Rat)))):=by
  intro d
  induction d with
  |zero =>
   intro t hd ht;have:t=l.length:=by omega
   subst this;rw[List.take_length];exact iQ.cB _ _ _ (afy _)
  |succ d ih =>
   intro t hd ht;obtain⟨v,hv⟩:∃v,l[t]? = some v:=⟨_,afp (by omega)⟩;have:=ih (t+1) (by omega) (by omega);rw[ag4,hv] at this;refine iQ.l10 _ l t v (aI ((v:Int):Rat)) (by omega) hv (Ak.Of v (h v (afx hv))) ?_ (by omega) ?_
   ·rw[afW,afq,afq,afK,agt];omega
   ·simpa using this
 exact iQ.e0 l (loop _ 0 rfl (by omega))
def Lo(a:ag):Prop:=a.num.length≤1∧a.den.length≤1∧nat a.num≤1000∧nat a.den≤1000
theorem MR{l:Words}{v:UInt32}(hl:l.length<2)(h:l[0]? = some v):nat l=v.toNat:=by
 match l,hl,h with
 |[w],_,h=>simp at h;subst h;simp[nat]
theorem Eg{l:Words}(h:l.length=0):nat l=0:=by rw[afr h];rfl
theorem low(x:ag):∃b,Cp 67 [x.pv,vW 1000,vW 1000] (vB b)∧(b=true→Lo x):=by
 have e:(1000:UInt32).toNat=1000:=rfl;by_cases h1:x.num.length<2
 ·by_cases h2:x.den.length<2
  ·have den:nat x.num≤1000→∀v u:UInt32,x.den[0]? = some u→decide (u.toNat≤(1000:UInt32).toNat)=true→Lo x:=fun h v u hu hd=>⟨by omega,by omega,h,by rw[MR h2 hu];have:=ahm hd;omega⟩
   by_cases h3:x.num.length=0
   ·have hn:nat x.num≤1000:=by rw[Eg h3];omega
    by_cases h4:x.den.length=0
    ·exact⟨_,dQ.e0 x _ _ h1 h2 h3 h4,fun _=>⟨by omega,by omega,hn,by rw[Eg h4];omega⟩⟩
    ·obtain⟨v,hv⟩:∃v,x.den[0]? = some v:=⟨_,afp (by omega)⟩;exact⟨_,dQ.e1 x _ _ v h1 h2 h3 h4 hv,fun h=>den hn v v hv (by have h':=ahm h;exact ag6 (by omega))⟩
   ·obtain⟨v,hv⟩:∃v,x.num[0]? = some v:=⟨_,afp (by omega)⟩;by_cases h5:v.toNat≤(1000:UInt32).toNat
    ·have hn:nat x.num≤1000:=by rw[MR h1 hv];omega
     by_cases h4:x.den.length=0
     ·exact⟨_,dQ.e2 x _ _ v h1 h2 h3 hv h5 h4,fun _=>⟨by omega,by omega,hn,by rw[Eg h4];omega⟩⟩
     ·obtain⟨u,hu⟩:∃v,x.den[0]? = some v:=⟨_,afp (by omega)⟩;exact⟨_,dQ.e3 x _ _ v u h1 h2 h3 hv h5 h4 hu,fun h=>den hn v u hu (by have h':=ahm h;exact ag6 (by omega))⟩
    ·exact⟨_,dQ.e4 x _ _ v h1 h2 h3 hv (by omega),fun h=>by cases h⟩
  ·exact⟨_,dQ.e5 x _ _ h1 (by omega),fun h=>by cases h⟩
 ·exact⟨_,dQ.e6 x _ _ (by omega),fun h=>by cases h⟩
theorem short(l:List ag):∃b,Cp 25 [ae l] (vB b)∧(b=true→l.length≤6∧∀a∈l,Lo a):=by
 by_cases h6:l.length≤6
 ·have loop:∀d t:Nat,l.length-t=d→∃b,dN.ah l t (vB b)∧(b=true→∀a∈l.drop t,Lo a):=by
   intro d
   induction d with
   |zero=>intro t hd;exact⟨true,dN.jT l t (by omega),fun _=>by rw[afV (by omega)];intro a ha;cases ha⟩
   |succ d ih =>
    intro t hd;obtain⟨v,hv⟩:∃v,l[t]? = some v:=⟨_,afp (by omega)⟩;obtain⟨b1,h1,h2⟩:=low v;cases b1 with
    |false=>exact⟨false,dN.l10 l t v _ (by omega) hv h1 rfl,fun h=>by cases h⟩
    |true =>
     obtain⟨b,g1,g2⟩:=ih (t+1) (by omega);refine⟨b,dN.cB l t v _ (by omega) hv h1 rfl (by omega) g1,fun h a ha => ?_⟩;rw[drop_cons hv] at ha;rcases afY.1 ha with rfl|ha
     ·exact h2 rfl
     ·exact g2 h a ha
  obtain⟨b,h1,h2⟩:=loop _ 0 rfl;rw[agB] at h2;exact⟨b,dN.e1 l h6 h1,fun h=>⟨h6,h2 h⟩⟩
 ·exact⟨false,dN.e0 l (by omega),fun h=>by cases h⟩
end JW
theorem Ci{a:ag}(h:JW.Lo a):∃(n:Int) (D:Nat),D≠0∧D≤1000∧a.val*(((D:Nat):Int):Rat)=(n:Rat)∧n.natAbs≤1000:=by
 obtain⟨_,_,h3,h4⟩:=h;by_cases hc:(a.valid && !a.num.isEmpty)=true
 ·by_cases hd:nat a.den=0
  ·refine⟨0,1,by omega,by omega,?_,by decide⟩;unfold ag.val;rw[hc,afz,hd];rw[show (((0:Nat):Int))=0 from rfl,Rat.divInt_zero,ago];rfl
  ·refine⟨bif a.neg then -(nat a.num:Int) else (nat a.num:Int),nat a.den,hd,h4,?_,?_⟩
   ·unfold ag.val;rw[hc,afz,agi,afT (rC (by omega))]
   ·cases a.neg with
    |true=>rw[afz];omega
    |false=>rw[afP];omega
 ·refine⟨0,1,by omega,by omega,?_,by decide⟩;unfold ag.val;rw[agI] at hc;rw[hc,afP,ago];rfl
theorem Hx{a:ag}(h:JW.Lo a):jL a:=⟨afJ h.1 (by omega),afJ h.2.1 (by omega)⟩
def Hy(m:Nat):Int:=if m=1 then 0 else if m=2 then 1 else if m=4 then 2 else -1
def zl(L:Nat)(a:List ag):Int:=if a.length≠0∧(Hy a.length<0∨(L:Int)<Hy a.length) then 10 else if a.all ag.valid then 0 else 2
namespace tY
theorem Wg{a:List ag}(h:a.length≤6):Cp 114 [ae a] (vI (Hy a.length)):=by
 have:a.length=0∨a.length=1∨a.length=2∨a.length=3∨a.length=4∨a.length=5∨a.length=6:=by omega
 rcases this with e|e|e|e|e|e|e
 ·rw[afr e];exact FV
 ·rw[e];exact level (k:=0) (by omega) e
 ·rw[e];exact level (k:=1) (by omega) e
 ·rw[e];exact ct.e0 a (ct.l10 a 0 (by omega) (by decide) (by omega) (by omega) (ct.l10 a 1 (by omega) (by decide) (by omega) (by omega) (ct.cB a 2 (by omega) (by decide) (by omega) (by omega))))
 ·rw[e];exact level (k:=2) (by omega) e
 ·rw[e];exact ct.e0 a (ct.l10 a 0 (by omega) (by decide) (by omega) (by omega) (ct.l10 a 1 (by omega) (by decide) (by omega) (by omega) (ct.l10 a 2 (by omega) (by decide) (by omega) (by omega) (ct.cB a 3 (by omega) (by decide) (by omega) (by omega)))))
 ·rw[e];exact ct.e0 a (ct.l10 a 0 (by omega) (by decide) (by omega) (by omega) (ct.l10 a 1 (by omega) (by decide) (by omega) (by omega) (ct.l10 a 2 (by omega) (by decide) (by omega) (by omega) (ct.cB a 3 (by omega) (by decide) (by omega) (by omega)))))
theorem ph(t:aA){a:List ag}(h:a.length≤6)(hf:∀x∈a,jL x):Cp 113 [t.pv,ae a] (bW (yJ (zl t.roots.length a))):=by
 have loop:∀d s:Nat,a.length-s=d→gm.ah a s (bW (yJ (if (a.drop s).all ag.valid then 0 else 2))):=by
  intro d
  induction d with
  |zero =>intro s hd;rw[afV (by omega)];exact gm.jT a s (by omega)
  |succ d ih =>
   intro s hd;obtain⟨v,hv⟩:∃v,a[s]? = some v:=⟨_,afp (by omega)⟩;have hV:=uS.Valid v (hf v (afx hv));rw[ve hv];cases hb:v.valid with
   |false =>rw[hb] at hV;rw[ah1];exact gm.l10 a s v _ (by omega) hv hV rfl
   |true =>rw[hb] at hV;rw[agU];exact gm.cB a s v _ (by omega) hv hV rfl (by omega) (ih (s+1) (by omega))
 have l0:=loop _ 0 rfl;rw[agB] at l0;unfold zl;by_cases h0:a.length=0
 ·rw[afG (fun e=>e.1 h0)];exact gm.e3 t a (by omega) l0
 ·have lv:=Wg h;by_cases h1:Hy a.length<0
  ·rw[afI ⟨h0,.inl h1⟩];exact gm.e0 t a _ (by omega) lv h1
  ·by_cases h2:(t.roots.length:Int)<Hy a.length
   ·rw[afI ⟨h0,.inr h2⟩];exact gm.e1 t a _ (by omega) lv (by omega) h2
   ·rw[afG (fun e=>e.2.elim h1 h2)];exact gm.e2 t a _ (by omega) lv (by omega) (by omega) l0
end tY
namespace Cg
theorem Wh{m:Nat}(h:m≤6):∃c d,Cp 49 [vI ((m:Nat):Int)] (.aF [vI c,vB d])∧(Hy m<0→d=false)∧(0≤Hy m→d=true∧c=Hy m):=by
 have:m=0∨m=1∨m=2∨m=3∨m=4∨m=5∨m=6:=by omega
 rcases this with e|e|e|e|e|e|e<;>subst e
 ·exact⟨_,_,Ef (by decide),fun _=>rfl,fun e=>absurd e (by decide)⟩
 ·exact⟨_,_,xI (k:=0) (by omega),fun e=>absurd e (by decide),fun _=>⟨rfl,rfl⟩⟩
 ·exact⟨_,_,xI (k:=1) (by omega),fun e=>absurd e (by decide),fun _=>⟨rfl,rfl⟩⟩
 ·exact⟨_,_,Ef (by decide),fun _=>rfl,fun e=>absurd e (by decide)⟩
 ·exact⟨_,_,xI (k:=2) (by omega),fun e=>absurd e (by decide),fun _=>⟨rfl,rfl⟩⟩
 ·exact⟨_,_,Ef (by decide),fun _=>rfl,fun e=>absurd e (by decide)⟩
 ·exact⟨_,_,Ef (by decide),fun _=>rfl,fun e=>absurd e (by decide)⟩
theorem ph(L:Nat){a:List ag}(h:a.length≤6)(hf:∀x∈a,jL x):Cp 15 [vI (L:Int),ae a] (vI (zl L a)):=by
 have loop:∀d s:Nat,a.length-s=d→cD.ah a s (vI (if (a.drop s).all ag.valid then 0 else 2)):=by
  intro d
  induction d with
  |zero =>intro s hd;rw[afV (by omega)];exact cD.jT a s (by omega)
  |succ d ih =>
   intro s hd;obtain⟨v,hv⟩:∃v,a[s]? = some v:=⟨_,afp (by omega)⟩;have hV:=Ak.Valid v (hf v (afx hv));rw[ve hv];cases hb:v.valid with
   |false =>rw[hb] at hV;rw[ah1];exact cD.l10 a s v _ (by omega) hv hV rfl
   |true =>rw[hb] at hV;rw[agU];exact cD.cB a s v _ (by omega) hv hV rfl (by omega) (ih (s+1) (by omega))
 have l0:=loop _ 0 rfl;rw[agB] at l0;unfold zl;obtain⟨c,d,p1,p2,p3⟩:=Wh h;by_cases h0:a.length=0
 ·rw[afG (fun e=>e.1 h0)];exact cD.e3 _ a _ _ p1 h0 l0
 ·by_cases h1:Hy a.length<0
  ·rw[afI ⟨h0,.inl h1⟩];exact cD.e0 _ a _ _ p1 h0 (p2 h1)
  ·obtain⟨q1,q2⟩:=p3 (by omega);by_cases h2:(L:Int)<Hy a.length
   ·rw[afI ⟨h0,.inr h2⟩];exact cD.e1 _ a _ _ p1 h0 q1 (by omega)
   ·rw[afG (fun e=>e.2.elim h1 h2)];exact cD.e2 _ a _ _ p1 h0 q1 (by omega) l0
end Cg
theorem FZ{L:Nat}{a:List ag}(hl:a.length≤6)(h:zl L a=0):a=(bV a).map aI∧Lk L (bV a):=by
 unfold zl at h;have vl:(bV a).length=a.length:=by unfold bV;rw[afq]
 by_cases hc:a.length≠0∧(Hy a.length<0∨(L:Int)<Hy a.length)
 ·rw[afI hc] at h;exact absurd h (by decide)
 ·rw[afG hc] at h;by_cases hv:a.all ag.valid=true
  ·refine⟨?_,?_⟩
   ·unfold bV;rw[ahT];have:∀x∈a,(aI ∘ ag.val) x=x:=fun x hx=>Ah (agb.1 hv x hx)
    conv=>lhs;rw[←ajo a]
    exact(ahM (fun x hx=>(this x hx))).symm
   ·by_cases h0:a.length=0
    ·exact .inl (afr (by omega))
    ·have h1:¬Hy a.length<0:=fun e=>hc ⟨h0,.inl e⟩
     have h2:¬(L:Int)<Hy a.length:=fun e=>hc ⟨h0,.inr e⟩
     right;have:a.length=1∨a.length=2∨a.length=3∨a.length=4∨a.length=5∨a.length=6:=by omega
     rcases this with e|e|e|e|e|e<;>rw[e] at h1 h2 vl
     ·exact⟨0,ag0 _,vl⟩
     ·exact⟨1,by have:Hy 2=1:=rfl;omega,vl⟩
     ·exact absurd (by decide) h1
     ·exact⟨2,by have:Hy 4=2:=rfl;omega,vl⟩
     ·exact absurd (by decide) h1
     ·exact absurd (by decide) h1
  ·rw[afG hv] at h;exact absurd h (by decide)
def Ck(t:aA)(c:Int):Prop:=Cp 112 [t.pv] (bW (yJ c))∧Cp 14 [t.pv] (vI c)
def Yg(t:aA)(b:Nat)(c:Int):Prop:=fM.ah t b (bW (yJ c))∧b7.ah t b (vI c)
theorem JL{t:aA}{T:Tw}(ht:Tok T)(K:xE T){b:Nat}{v:List ag}(hb:b≤1)(Fv:b<t.roots.length)(hv:t.roots[b]? = some v)(hl:v.length≤6)(E8:∀x∈v,JW.Lo x)(hr:Rt t T b)(hq:v.length=2^b→zl b v=0→Hq 10 (toQ T (bV v))) :
  (∃c,c≠0∧Yg t b c)∨(v=(bV v).map aI∧v.length=2^b∧0≤R.gR (lv K (bV v))∧∀c,Yg t (b+1) c→Yg t b c):=by
 have p:1*2^b=2^b:=agV _;have p5:2^b≤2^1:=afH (by omega) hb;by_cases hlen:v.length=2^b
 ·have hf:∀x∈v,jL x:=fun x hx=>Hx (E8 x hx)
  have n1:=tY.ph ⟨t.roots.take b⟩ hl hf;have n2:=Cg.ph b hl hf;have dI:(t.roots.take b).length=b:=by rw[afK];omega
  rw[show (⟨t.roots.take b⟩:aA).roots.length=b from dI] at n1;by_cases he:zl b v=0
  ·obtain⟨e1,e2⟩:=FZ hl he;rw[he] at n1 n2;have dS:Rt ⟨t.roots.take b⟩ T b:=⟨hr.1,fun j hj=>by
    show(t.roots.take b)[j]? = _;rw[agh,afI hj];exact hr.2 j hj⟩
   have hQ:=hq hlen he;have hs:4^b*(10+64)≤1073741824:=afJ (afw _ (afH (by omega) hb)) (by decide);have s1:=tY.Ee ht K dS b (afy _) (bV v) 10 e2 hQ (by omega) hs;have s2:=Cg.Ee ht K hr b (afy _) (bV v) 10 e2 hQ (by omega) hs;unfold pq at s1 s2;rw[←e1] at s1 s2;by_cases sv:R.gR (lv K (bV v))<0
   ·left;refine⟨3,by decide,?_,?_⟩
    ·exact fM.cB t b v _ Fv hv (by omega) (by omega) (by omega) (by omega) n1 s1 sv
    ·exact b7.jT t b v _ _ Fv hv (by omega) (by omega) (by omega) n2 rfl s2 sv
   ·right;refine⟨e1,hlen,by omega,fun c hc=>⟨?_,?_⟩⟩
    ·exact fM.jT t b v _ Fv hv (by omega) (by omega) (by omega) (by omega) n1 s1 (by omega) (by omega) hc.1
    ·exact b7.tN t b v _ _ Fv hv (by omega) (by omega) (by omega) n2 rfl s2 (by omega) (by omega) hc.2
  ·left;refine⟨zl b v,he,?_,?_⟩
   ·rw[qp he] at n1 ⊢;exact fM.tN t b v _ Fv hv (by omega) (by omega) (by omega) (by omega) n1
   ·exact b7.cB t b v _ Fv hv (by omega) (by omega) (by omega) n2 he
 ·left;refine⟨10,by decide,?_,?_⟩
  ·exact fM.l10 t b v Fv hv (by omega) (by omega) (by omega)
  ·exact b7.l10 t b v Fv hv (by omega) (by omega) (by omega)
theorem Hz{t:aA}{b:Nat}(h:t.roots.length≤b):Yg t b 0:=⟨fM.Bz t b h,b7.Bz t b h⟩
theorem F0{t:aA}(h:t.roots.length≤2){c:Int}(hc:Yg t 0 c):Ck t c:=⟨fM.e1 t (by omega) hc.1,b7.e1 t (by omega) hc.2⟩
def T0:Tw:=⟨0,0,0⟩
theorem Ua:Oi T0 1 1:=⟨by decide,by decide,by decide,by decide,⟨0,by decide +kernel,by decide⟩,⟨0,by decide +kernel,by decide⟩,⟨0,by decide +kernel,by decide⟩⟩
noncomputable def K0:xE T0:=⟨0,0,by grind,by grind,by show(0:R)*0=R.ofQ 0;rw[R.gL];grind,by show(0:R)*0=R.ofQ 0+R.ofQ 0*0;rw[R.gL];grind⟩
theorem MS{T:Tw}{v:List ag}(h:v.length≤4)(E8:∀x∈v,JW.Lo x):∃D:Nat,D≠0∧D≤10^12∧Dn D (10^12) (toQ T (bV v)):=by
 have key:∀i,∃(n:Int) (D:Nat),D≠0∧D≤1000∧coef (bV v) i*(((D:Nat):Int):Rat)=(n:Rat)∧n.natAbs≤1000:=fun i=>by
  unfold coef bV;rw[afu];cases hx:v[i]? with
  |none=>exact⟨0,1,by omega,by omega,by show(0:Rat)*_=_;rw[ago];rfl,by decide⟩
  |some x=>exact Ci (E8 x (afx hx))
 obtain⟨n0,D0,a0,b0,c0,d0⟩:=key 0;obtain⟨n1,D1,a1,b1,c1,d1⟩:=key 1;obtain⟨n2,D2,a2,b2,c2,d2⟩:=key 2;obtain⟨n3,D3,a3,b3,c3,d3⟩:=key 3;have bd:∀{p q r:Nat} {n:Int},n.natAbs≤1000→p≤1000→q≤1000→r≤1000→(n*(p:Int)*(q:Int)*(r:Int)).natAbs≤10^12:=fun {p q r n} hn hp hq hr=>by rw[agw,agw,agw];exact afJ (ag7 (ag7 (ag7 hn (show (p:Int).natAbs≤1000 by omega)) (show (q:Int).natAbs≤1000 by omega)) (show (r:Int).natAbs≤1000 by omega)) (by decide)
 refine⟨D0*D1*D2*D3,ahu (ahu (ahu a0 a1) a2) a3,afJ (ag7 (ag7 (ag7 b0 b1) b2) b3) (by decide),n0*D1*D2*D3,n1*D0*D2*D3,n2*D0*D1*D3,n3*D0*D1*D2,?_,?_,?_,?_,bd d0 b1 b2 b3,bd d1 b0 b2 b3,bd d2 b0 b1 b3,bd d3 b0 b1 b2⟩
 ·simp only[Int.natCast_mul,Rat.intCast_mul,←c0];show coef (bV v) 0*_=_;grind
 ·simp only[Int.natCast_mul,Rat.intCast_mul,←c1];show coef (bV v) 1*_=_;grind
 ·simp only[Int.natCast_mul,Rat.intCast_mul,←c2];show coef (bV v) 2*_=_;grind
 ·simp only[Int.natCast_mul,Rat.intCast_mul,←c3];show coef (bV v) 3*_=_;grind
theorem Dn.hq{T:Tw}{D:Nat}(h0:D≠0)(h1:D≤10^12){a:Q4 T}(h:Dn D (10^12) a):Hq 2 a:=by
 obtain⟨i,j,k,l,tI,h2,h3,h4,h5,h6,h7,h8⟩:=h;have w:∀{n:Int},n.natAbs≤10^12→wl n≤2:=fun hn=>lE (ah5 hn (by decide))
 exact⟨(D:Int),i,j,k,l,by omega,w (by omega),tI,h2,h3,h4,w h5,w h6,w h7,w h8⟩
structure fH (t:aA) (T:Tw):Prop where
 rt:Rt t T t.roots.length
 sm:∃A B,Oi T A B
 rts:Nonempty (xE T)
 ck:Ck t 0
theorem QZ{t:aA}(hl:t.roots.length≤2)(hv:∀d∈t.roots,d.length≤6∧∀x∈d,JW.Lo x):(∃c,c≠0∧Ck t c)∨∃T,fH t T:=by
 have q10:∀(T:Tw) (b:Nat) (v:List ag),b≤1→(∀x∈v,JW.Lo x)→v.length=2^b→Hq 10 (toQ T (bV v)):=fun T b v hb E8 hlen=>by have p5:2^b≤2^1:=afH (by omega) hb;obtain⟨D,d0,d1,d2⟩:=MS (T:=T) (v:=v) (by omega) E8;exact(Dn.hq d0 d1 d2).mono (by omega)
 by_cases h0:t.roots.length=0
 ·exact .inr ⟨T0,⟨by rw[h0];omega,fun j hj=>by omega⟩,⟨1,1,Ua⟩,⟨K0⟩,F0 hl (Hz (by omega))⟩
 obtain⟨v,Se⟩:∃v,t.roots[0]? = some v:=⟨_,afp (by omega)⟩;obtain⟨l0,lo0⟩:=hv v (afx Se);rcases JL Ua.tok K0 (b:=0) (by omega) (by omega) Se l0 lo0 ⟨by omega,fun j hj=>by omega⟩ (fun a b=>q10 T0 0 v (by omega) lo0 a) with ⟨c,c0,c1⟩|⟨e1,e2,e3,e4⟩
 ·exact .inl ⟨c,c0,F0 hl c1⟩
 obtain⟨d,hd⟩:=lz (show (bV v).length=1 by unfold bV;rw[afq];exact e2);obtain⟨x,hx⟩:∃x,v=[x]:=by
  match v,e2 with
  |[x],_=>exact⟨x,rfl⟩
 have hxd:x.val=d:=by rw[hx] at hd;simpa[bV] using hd
 obtain⟨n,A,A0,A1,A2,A3⟩:=Ci (lo0 x (by rw[hx];simp));rw[hxd] at A2;have dnn:(0:R)≤R.ofQ d:=by
  rw[hd] at e3;have e:lv K0 [d]=R.ofQ d:=Q4.JH K0 d;rw[e] at e3;rcases R.dW (R.ofQ d) with h|h|h
  ·exact h.1.1
  ·rw[h.1];grind
  ·rw[h.2] at e3;exact absurd e3 (by decide)
 obtain⟨s,s0,s1⟩:=R.QN (R.ofQ d) dnn;by_cases h1:t.roots.length=1
 ·refine .inr ⟨⟨d,0,0⟩,⟨by omega,fun j hj => ?_⟩,⟨A,1,⟨A0,by decide,A1,by decide,⟨n,A2,A3⟩,⟨0,by show(0:Rat)*_=_;rw[ago];rfl,by decide⟩,⟨0,by show(0:Rat)*_=_;rw[ago];rfl,by decide⟩⟩⟩,⟨⟨s,0,s0,by grind,s1,by show(0:R)*0=R.ofQ 0+R.ofQ 0*s;rw[R.gL];grind⟩⟩,F0 hl (e4 0 (Hz (by omega)))⟩;have:j=0:=by omega
  subst this;rw[Se,e1,hd];rfl
 obtain⟨w,LI⟩:∃v,t.roots[1]? = some v:=⟨_,afp (by omega)⟩;obtain⟨l1,Y8⟩:=hv w (afx LI);have abl:Oi ⟨d,0,0⟩ A 1:=⟨A0,by decide,A1,by decide,⟨n,A2,A3⟩,⟨0,by show(0:Rat)*_=_;rw[ago];rfl,by decide⟩,⟨0,by show(0:Rat)*_=_;rw[ago];rfl,by decide⟩⟩;have rt1:Rt t ⟨d,0,0⟩ 1:=⟨by omega,fun j hj=>by
  have:j=0:=by omega
  subst this;rw[Se,e1,hd];rfl⟩
 let K1:xE ⟨d,0,0⟩:=⟨s,0,s0,by grind,s1,by show(0:R)*0=R.ofQ 0+R.ofQ 0*s;rw[R.gL];grind⟩;rcases JL abl.tok K1 (b:=1) (by omega) (by omega) LI l1 Y8 rt1 (fun a b=>q10 _ 1 w (by omega) Y8 a) with ⟨c,c0,c1⟩|⟨g1,g2,g3,g4⟩
 ·exact .inl ⟨c,c0,F0 hl (e4 c c1)⟩
 obtain⟨e,f,Y9⟩:=QP (show (bV w).length=2 by unfold bV;rw[afq];exact g2);obtain⟨y,z,hyz⟩:∃y z,w=[y,z]:=by
  match w,g2 with
  |[y,z],_=>exact⟨y,z,rfl⟩
 have hy:y.val=e∧z.val=f:=by rw[hyz] at Y9;simpa[bV] using Y9
 obtain⟨n1,B1,B0,B2,B3,B4⟩:=Ci (Y8 y (by rw[hyz];simp));obtain⟨n2,C1,C0,C2,C3,C4⟩:=Ci (Y8 z (by rw[hyz];simp));rw[hy.1] at B3;rw[hy.2] at C3;have unn:(0:R)≤R.ofQ e+R.ofQ f*s:=by
  rw[Y9] at g3;have e':lv K1 [e,f]=R.ofQ e+R.ofQ f*s:=by show R.ofQ e+R.ofQ f*s+(R.ofQ 0+R.ofQ 0*s)*0=_;grind
  rw[e'] at g3;rcases R.dW (R.ofQ e+R.ofQ f*s) with h|h|h
  ·exact h.1.1
  ·rw[h.1];grind
  ·rw[h.2] at g3;exact absurd g3 (by decide)
 obtain⟨u,u0,u1⟩:=R.QN _ unn;have m3:∀{p:Nat} {m:Int},m.natAbs≤1000→p≤1000→(m*(p:Int)).natAbs≤10^6:=fun {p m} hn hp=>by rw[agw];exact afJ (ag7 hn (show (p:Int).natAbs≤1000 by omega)) (by decide)
 refine .inr ⟨⟨d,e,f⟩,⟨hl,fun j hj => ?_⟩,⟨A,B1*C1,⟨A0,ahu B0 C0,A1,afJ (ag7 B2 C2) (by decide),⟨n,A2,A3⟩,⟨n1*C1,?_,m3 B4 C2⟩,⟨n2*B1,?_,m3 C4 B2⟩⟩⟩,⟨⟨s,u,s0,u0,s1,u1⟩⟩,F0 hl (e4 0 (g4 0 (Hz (by omega))))⟩
 ·have:j=0∨j=1:=by omega
  rcases this with rfl|rfl
  ·rw[Se,e1,hd];rfl
  ·rw[LI,g1,Y9];rfl
 ·show e*_=_;simp only[Int.natCast_mul,Rat.intCast_mul,←B3];grind
 ·show f*_=_;simp only[Int.natCast_mul,Rat.intCast_mul,←C3];grind
theorem S1{L:Nat}(hL:L≤2){q:List Rat}(h:Lk L q):zl L (q.map aI)=0:=by
 unfold zl;have hv:(q.map aI).all ag.valid=true:=agb.2 fun x hx=>by obtain⟨y,_,rfl⟩:=agj.1 hx;exact su y
 rw[hv,bx,afI rfl];refine afG fun e => ?_
 rcases h with rfl|⟨j,j1,j2⟩
 ·exact e.1 rfl
 ·have:j=0∨j=1∨j=2:=by omega
  rw[j2] at e;rcases this with rfl|rfl|rfl
  ·have:Hy (2^0)=0:=rfl;omega
  ·have:Hy (2^1)=1:=rfl;omega
  ·have:Hy (2^2)=2:=rfl;omega
theorem Q0{x:Rat}(h:ht x≤68719476736):jL (aI x):=⟨by have:=(bF h).1;omega,by have:=(bF h).2;omega⟩
namespace fH
variable {t:aA} {T:Tw}
theorem tok(G:fH t T):Tok T:=by obtain⟨A,B,h⟩:=G.sm;exact h.tok
theorem HQ(G:fH t T):t.roots.length≤2:=G.rt.1
theorem tX(G:fH t T):Cp 112 [t.pv] .aC:=G.ck.1
theorem num(G:fH t T){q:List Rat}(hq:Lk t.roots.length q)(hf:Fl 68719476736 q):Cp 113 [t.pv,pq q] .aC∧Cp 15 [vI (t.roots.length:Int),pq q] (vI 0):=by
 have hl:=G.HQ;have l4:=hq.len hl;have qE:∀x∈q.map aI,jL x:=fun x hx=>by obtain⟨y,hy,rfl⟩:=agj.1 hx;exact Q0 (hf y hy)
 have n1:=tY.ph t (a:=q.map aI) (by rw[bx];omega) qE;have n2:=Cg.ph t.roots.length (a:=q.map aI) (by rw[bx];omega) qE;rw[S1 hl hq] at n1 n2;exact⟨n1,n2⟩
theorem Wi(G:fH t T){p:List Rat}(lp:Lk t.roots.length p)(fp:Fl 68719476736 p):Cp 58 [t.pv,bB (bp ag.cells) [p.map aI]] .aC∧Cp 83 [t.pv,bB (bp ag.cells) [p.map aI]] (vI 0):=by obtain⟨a1,a2⟩:=G.num lp fp;refine⟨eP.e0 t _ G.tX (eP.l10 _ 0 t (p.map aI) (by simp) rfl a1 (by omega) (eP.jT _ 1 t (by simp))),?_⟩;exact bT.e1 t _ _ G.ck.2 rfl (bT.cB _ 0 t (p.map aI) _ (by simp) rfl a2 rfl (by omega) (bT.jT _ 1 t (by simp)))
theorem DY(G:fH t T){p q:List Rat}(lp:Lk t.roots.length p)(fp:Fl 68719476736 p)(lq:Lk t.roots.length q)(fq:Fl 68719476736 q):Cp 58 [t.pv,bB (bp ag.cells) [p.map aI,q.map aI]] .aC∧Cp 83 [t.pv,bB (bp ag.cells) [p.map aI,q.map aI]] (vI 0):=by obtain⟨a1,a2⟩:=G.num lp fp;obtain⟨b1,b2⟩:=G.num lq fq;refine⟨eP.e0 t _ G.tX (eP.l10 _ 0 t (p.map aI) (by simp) rfl a1 (by omega) (eP.l10 _ 1 t (q.map aI) (by simp) rfl b1 (by omega) (eP.jT _ 2 t (by simp)))),?_⟩;exact bT.e1 t _ _ G.ck.2 rfl (bT.cB _ 0 t (p.map aI) _ (by simp) rfl a2 rfl (by omega) (bT.cB _ 1 t (q.map aI) _ (by simp) rfl b2 rfl (by omega) (bT.jT _ 2 t (by simp))))
variable {a b:List Rat} {h h':Nat}
theorem N4(G:fH t T)(la:Lk t.roots.length a)(ha:Hq h (toQ T a))(h1:1≤h)(h2:h≤68719476736):Fl 68719476736 a:=cb (ha.fl h1 (la.len G.HQ)) h2
theorem Wj(G:fH t T)(la:Lk t.roots.length a)(lb:Lk t.roots.length b)(ha:Hq h (toQ T a))(hb:Hq h' (toQ T b))(h1:1≤h)(tI:1≤h')(hs:h+h'+200≤1073741824) :
  Cp 19 [t.pv,pq a,pq b] (.aF [pq (fO (toQ T a*toQ T b)),.aC])∧Cp 39 [t.pv,pq a,pq b] (.aF [pq (fO (toQ T a*toQ T b)),vI 0]):=by
 have hl:=G.HQ;obtain⟨c1,c2⟩:=G.DY la (G.N4 la ha h1 (by omega)) lb (G.N4 lb hb tI (by omega));obtain⟨r,r1,r2,r3⟩:=tY.tG G.tok G.rt _ (afy _) a b h h' la lb ha hb h1 tI (by omega);obtain⟨s,s1,s2,s3⟩:=Cg.tG G.tok G.rt _ (afy _) a b h h' la lb ha hb h1 tI (by omega);have rq:Hq (h+h'+8) (toQ T r):=by rw[r3];exact Hq.mul G.tok ha hb
 have x1:=tY.kz (T:=T) hl r2 rq (by omega) (by omega);have x2:=Cg.kz (T:=T) hl s2;rw[r3] at x1;rw[s3] at x2;exact⟨Fp.e0 t _ _ _ _ c1 r1 x1,rn.e1 t _ _ _ _ _ c2 rfl s1 x2⟩
theorem abn(G:fH t T)(la:Lk t.roots.length a)(lb:Lk t.roots.length b)(ha:Hq h (toQ T a))(hb:Hq h' (toQ T b))(h1:1≤h)(tI:1≤h')(hs:h+h'+200≤1073741824) :
  Cp 20 [t.pv,pq a,pq b] (.aF [pq (fO (toQ T a+toQ T b)),.aC])∧Cp 90 [t.pv,pq a,pq b] (.aF [pq (fO (toQ T a+toQ T b)),vI 0]):=by
 have hl:=G.HQ;have l1:=la.len hl;have l2:=lb.len hl;have fa:=G.N4 la ha h1 (by omega);have fb:=G.N4 lb hb tI (by omega);obtain⟨c1,c2⟩:=G.DY la fa lb fb;have p1:=tY.plus a b (by omega) (by omega) fa fb;have p2:=Cg.plus a b (by omega) (by omega) fa fb;have lp:=pg la lb;have rq:Hq (h+h'+1) (toQ T (kx a b)):=by rw[nt];exact ha.add hb
 have x1:=tY.kz (T:=T) hl lp rq (by omega) (by omega);have x2:=Cg.kz (T:=T) hl lp;rw[nt] at x1 x2;exact⟨Fs.e0 t _ _ _ _ c1 p1 x1,rl.e1 t _ _ _ _ _ c2 rfl p2 x2⟩
theorem Yh(G:fH t T)(la:Lk t.roots.length a)(ha:Hq h (toQ T a))(h1:1≤h)(hs:h+200≤1073741824) :
  Cp 79 [t.pv,pq a] (.aF [pq (fO (-toQ T a)),.aC])∧Cp 34 [t.pv,pq a] (.aF [pq (fO (-toQ T a)),vI 0]):=by
 have hl:=G.HQ;have l1:=la.len hl;have fa:=G.N4 la ha h1 (by omega);obtain⟨c1,c2⟩:=G.Wi la fa;have p1:=tY.minus a (by omega) fa;have p2:=Cg.less a (by omega) fa;have lp:=Ea la;have rq:Hq h (toQ T (a.map (- ·))):=by rw[wP];exact ha.neg
 have x1:=tY.kz (T:=T) hl lp rq (by omega) (by omega);have x2:=Cg.kz (T:=T) hl lp;rw[wP] at x1 x2;exact⟨Fo.e0 t _ _ _ c1 p1 x1,mT.e1 t _ _ _ _ c2 rfl p2 x2⟩
theorem abo(G:fH t T)(la:Lk t.roots.length a)(lb:Lk t.roots.length b)(ha:Hq h (toQ T a))(hb:Hq h' (toQ T b))(h1:1≤h)(tI:1≤h')(hs:h+h'+200≤1073741824) :
  Cp 147 [t.pv,pq a,pq b] (.aF [pq (fO (toQ T a-toQ T b)),.aC])∧Cp 40 [t.pv,pq a,pq b] (.aF [pq (fO (toQ T a-toQ T b)),vI 0]):=by
 have hl:=G.HQ;have l1:=la.len hl;have l2:=lb.len hl;have fa:=G.N4 la ha h1 (by omega);have fb:=G.N4 lb hb tI (by omega);obtain⟨c1,c2⟩:=G.DY la fa lb fb;have m1:=tY.minus b (by omega) fb;have m2:=Cg.less b (by omega) fb;have lm:=Ea lb;have mq:Hq h' (toQ T (b.map (- ·))):=by rw[wP];exact hb.neg
 have fm:=G.N4 lm mq tI (by omega);have l3:=lm.len hl;have p1:=tY.plus a _ (by omega) (by omega) fa fm;have p2:=Cg.plus a _ (by omega) (by omega) fa fm;have lp:=pg la lm;have rq:Hq (h+h'+1) (toQ T (kx a (b.map (- ·)))):=by rw[nt];exact ha.add mq
 have e:toQ T a + -toQ T b=toQ T a-toQ T b:=by grind
 have x1:=tY.kz (T:=T) hl lp rq (by omega) (by omega);have x2:=Cg.kz (T:=T) hl lp;rw[nt,wP,e] at x1 x2;exact⟨Fq.e0 t _ _ _ _ _ c1 m1 p1 x1,rm.e1 t _ _ _ _ _ _ c2 rfl m2 p2 x2⟩
theorem Yi(G:fH t T)(K:xE T)(la:Lk t.roots.length a)(lb:Lk t.roots.length b)(ha:Hq h (toQ T a))(hb:Hq h' (toQ T b))(h1:1≤h)(tI:1≤h')(hs:h+h'+200≤67108864) :
  Cp 24 [t.pv,pq a,pq b] (.aF [vI (R.gR (lv K a-lv K b)),.aC])∧Cp 44 [t.pv,pq a,pq b] (.aF [vI (R.gR (lv K a-lv K b)),vI 0]):=by
 have hl:=G.HQ;have l1:=la.len hl;have l2:=lb.len hl;have fa:=G.N4 la ha h1 (by omega);have fb:=G.N4 lb hb tI (by omega);obtain⟨c1,c2⟩:=G.DY la fa lb fb;have m1:=tY.minus b (by omega) fb;have m2:=Cg.less b (by omega) fb;have lm:=Ea lb;have mq:Hq h' (toQ T (b.map (- ·))):=by rw[wP];exact hb.neg
 have fm:=G.N4 lm mq tI (by omega);have l3:=lm.len hl;have p1:=tY.plus a _ (by omega) (by omega) fa fm;have p2:=Cg.plus a _ (by omega) (by omega) fa fm;have lp:=pg la lm;have rq:Hq (h+h'+1) (toQ T (kx a (b.map (- ·)))):=by rw[nt];exact ha.add mq
 have TR:4^t.roots.length*(h+h'+1+64)≤1073741824:=afJ (ag7 (afH (by omega) hl) (show h+h'+1+64≤67108864 by omega)) (by decide);have s1:=tY.Ee G.tok K G.rt _ (afy _) _ _ lp rq (by omega) TR;have s2:=Cg.Ee G.tok K G.rt _ (afy _) _ _ lp rq (by omega) TR;have e:lv K (kx a (b.map (- ·)))=lv K a-lv K b:=by unfold lv;rw[nt,wP,Q4.JG,Q4.T6];grind
 rw[e] at s1 s2;exact⟨Ft.e0 t _ _ _ _ _ c1 m1 p1 s1,rp.e1 t _ _ _ _ _ _ c2 rfl m2 p2 s2⟩
theorem Yj(G:fH t T){v:Q4 T}(hv:Lv 0 v)(ha:Hq h v)(h1:1≤h)(hs:h+200≤1073741824) :
  Cp 81 [t.pv,pq (fO v)] (.aF [(aI v.x).pv,vB true])∧Cp 41 [t.pv,pq (fO v)] (.aF [(aI v.x).pv,vB true]):=by
 have hl:=G.HQ;have l0:=qx hv;have l1:=l0.mono (ag0 t.roots.length);have rq:Hq h (toQ T (fO v)):=by rw[fN];exact ha
 obtain⟨c1,c2⟩:=G.Wi l1 (G.N4 l1 rq h1 (by omega));have x1:=tY.kz (T:=T) hl l1 rq h1 (by omega);have x2:=Cg.kz (T:=T) hl l1;rw[fN] at x1 x2;have vd:=A9.e0 t _ c1;have ex:v.x=coef (fO v) 0:=by
  conv=>lhs;rw[←fN v]
  rfl
 rcases l0.zero with e|⟨x,e⟩
 ·rw[e] at x1 x2 ex vd c2 ⊢;rw[ex,show aI (coef [] 0)=⟨false,[],[]⟩ from ot];exact⟨Aa.e1 t _ true [] vd rfl x1 rfl,mS.e1 t _ _ [] c2 rfl x2 rfl⟩
 ·rw[e] at x1 x2 ex vd c2 ⊢;rw[ex];exact⟨Aa.e2 t _ true [aI x] (aI x) vd rfl x1 (by simp) (by simp) (by simp),mS.e2 t _ _ [aI x] (aI x) c2 rfl x2 (by simp) (by simp) (by simp)⟩
theorem Yk(G:fH t T)(la:Lk t.roots.length a)(ha:Hq h (toQ T a))(h1:1≤h)(hs:h≤1073741824):Cp 32 [t.pv,pq a] (.aF [pq (wideL a (2^t.roots.length)),.aC]):=by have hl:=G.HQ;have l1:=la.len hl;have fa:=G.N4 la ha h1 (by omega);obtain⟨c1,c2⟩:=G.Wi la fa;have cp:=tY.copied (a.map aI) (by rw[bx];omega) (iT (cb (ha.fl h1 l1) hs));have p4:2^t.roots.length≤2^2:=afH (by omega) hl;have w:=tY.wide a (2^t.roots.length) (by omega);exact xl.e0 t _ _ _ c1 cp (by omega) (by omega) (by rw[agV];exact w)
end fH
theorem OfB(T:Tw){x:Rat}{h:Nat}(hx:ht x≤h)(hs:h≤1073741824):Cp 21 [(aI x).pv] (pq (fO (Q4.tR x:Q4 T)))∧Cp 35 [(aI x).pv] (pq (fO (Q4.tR x:Q4 T))):=by
 have h1:1≤h:=afJ (G1 x) hx;have e:toQ T [x]=Q4.tR x:=rfl;have l0:Lk 0 [x] := .inr ⟨0,afy _,rfl⟩;have x1:=tY.kz (T:=T) (show 0≤2 by omega) l0 (h:=h) (by rw[e];exact Hq.tR hx) h1 hs;rw[e] at x1;refine⟨IN.e0 (aI x) (aI x) _ (QF.xx x (by omega)) x1,?_⟩;have s:=QR.Sign x (by omega);by_cases h0:x=0
 ·have e0:fO (Q4.tR x:Q4 T)=[]:=by rw[h0];exact Ed
  rw[e0];exact nO.e0 _ _ s (gM.2 h0)
 ·have e0:fO (Q4.tR x:Q4 T)=[x]:=by simp[fO,Q4.tR,h0]
  rw[e0];exact nO.e1 _ _ _ s (fun e=>h0 (gM.1 e)) (QR.xx x (by omega))
def Bad(t:aA)(x:List ag)(c:Int):Prop:=c≠0∧Cp 58 [t.pv,bB (bp ag.cells) [x]] (bW (yJ c))∧Cp 83 [t.pv,bB (bp ag.cells) [x]] (vI c)
theorem F1{t:aA}{c:Int}(h0:c≠0)(h:Ck t c)(x:List ag):Bad t x c:=by refine⟨h0,?_,bT.e0 t _ _ h.2 h0⟩;have:=h.1;rw[qp h0] at this ⊢;exact eP.e1 t _ _ this
theorem Q1{t:aA}(h:5<t.roots.length):Ck t 4:=⟨fM.e0 t h,b7.e0 t h⟩
theorem JM{t:aA}{x:List ag}(hl:t.roots.length≤2∨5<t.roots.length)(hv:∀d∈t.roots,d.length≤6∧∀x∈d,JW.Lo x)(hx:x.length≤6)(E8:∀a∈x,JW.Lo a) :
  (∃c,Bad t x c)∨∃T,fH t T∧x=(bV x).map aI∧Lk t.roots.length (bV x)∧∃D:Nat,D≠0∧D≤10^12∧Dn D (10^12) (toQ T (bV x)):=by
 rcases hl with hl|hl
 ·rcases QZ hl hv with ⟨c,c0,c1⟩|⟨T,G⟩
  ·exact .inl ⟨c,F1 c0 c1 x⟩
  ·have hf:∀a∈x,jL a:=fun a ha=>Hx (E8 a ha)
   have n1:=tY.ph t hx hf;have n2:=Cg.ph t.roots.length hx hf;by_cases he:zl t.roots.length x=0
   ·obtain⟨e1,e2⟩:=FZ hx he;refine .inr ⟨T,G,e1,e2,MS ?_ E8⟩;have:=e2.len hl;unfold bV at this;rwa[afq] at this
   ·refine .inl ⟨_,he,?_,?_⟩
    ·rw[qp he] at n1 ⊢;exact eP.e0 t _ G.tX (eP.cB _ 0 t x _ (by simp) rfl n1)
    ·exact bT.e1 t _ _ G.ck.2 rfl (bT.l10 _ 0 t x _ (by simp) rfl n2 he)
 ·exact .inl ⟨4,F1 (by decide) (Q1 hl) x⟩
end Go.Proofs.YtcpnocgollpbhaaGreatDoor.Sym
namespace Go.Proofs.YtcpnocgollpbhaaGreatDoor.Sym
open Go Path cV
set_option linter.unusedVariables false
def tb{T:Tw}(M:Nat)(F:Nat→Q4 T):List (List ag):=(List.range M).map (fun m=>(fO (F m)).map aI)
theorem xJ{T:Tw}(M:Nat)(F:Nat→Q4 T):(tb M F).length=M:=by unfold tb;rw[afq,agZ]
theorem Eh{T:Tw}{M m:Nat}(F:Nat→Q4 T)(h:m<M):(tb M F)[m]? = some ((fO (F m)).map aI):=by unfold tb;rw[afu,ahk h];rfl
theorem HA{T:Tw}(M:Nat)(F:Nat→Q4 T)(t:Nat)(v:Q4 T):(tb M F).set t ((fO v).map aI)=tb M (fun m=>if m=t then v else F m):=SW (fun a=>(fO a).map aI) F M t v
theorem HB{T:Tw}(M:Nat):List.replicate M ([]:List ag)=tb M (fun _=>(0:Q4 T)):=by
 unfold tb;simp only[Ed,List.map_nil];apply ai3;intro i;rw[agL,afu];by_cases h:i<M
 ·rw[afI h,ahk h];rfl
 ·rw[afG h,ag3 (by rw[agZ];omega)];rfl
def tZ{T:Tw}(C:List (Q4 T)):List (List ag):=C.map (fun a=>(fO a).map aI)
theorem MT{T:Tw}(k:Nat)(C:List (Q4 T)):tb (2*C.length-1) (nv (proQ k C) C.length C.length)=tZ (ir k C):=by unfold tb tZ ir;rw[ahT];rfl
theorem Ei{T:Tw}(p:Nat→Nat→Q4 T)(i:Nat)(b:Nat→Q4 T)(l:Nat):(fun m=>if m=i+l then oN p i b l (i+l)+p i l else oN p i b l m)=oN p i b (l+1):=by
 funext m;rw[oN];by_cases h:m=i+l
 ·rw[afI h,afI h,h]
 ·rw[afG h,afG h]
theorem AE{T:Tw}{B X:Nat}{p:Nat→Nat→Q4 T}(hp:∀i j,Hq X (p i j))(i:Nat){b:Nat→Q4 T}(hb:∀m,Hq B (b m)):∀l m,Hq (B+l*(X+1)) (oN p i b l m)
 |0,m=>by rw[ait];exact hb m
 |l+1,m=>by
  have e:B+(l+1)*(X+1)=B+l*(X+1)+X+1:=by rw[ahb];omega
  rw[oN,e];split
  ·exact(AE hp i hb l m).add (hp _ _)
  ·exact(AE hp i hb l m).mono (by omega)
theorem vi{T:Tw}{X:Nat}{p:Nat→Nat→Q4 T}(hp:∀i j,Hq X (p i j))(n:Nat):∀i m,Hq (1+i*(n*(X+1))) (nv p n i m)
 |0,m=>by rw[ait];exact Hq.zero (by omega)
 |i+1,m=>by
  have e:1+(i+1)*(n*(X+1))=1+i*(n*(X+1))+n*(X+1):=by rw[ahb];omega
  rw[e];exact AE hp i (fun m=>vi hp n i m) n m
def Ok{T:Tw}(k:Nat)(a:Q4 T):List Rat:=(wideL (fO a) (2^(k+1))).take (2^k)
def Ol{T:Tw}(k:Nat)(a:Q4 T):List Rat:=(wideL (fO a) (2^(k+1))).drop (2^k)
theorem S3(T:Tw){k:Nat}(hk:k≤1){l:List Rat}(h:l.length=2^(k+1)):toQ T (l.take (2^k))=oC k (toQ T l)∧toQ T (l.drop (2^k))=hiQ k (toQ T l):=by
 have:k=0∨k=1:=by omega
 rcases this with rfl|rfl
 ·obtain⟨x,y,rfl⟩:=QP h;exact⟨rfl,rfl⟩
 ·obtain⟨x,y,z,w,rfl⟩:=SS h;exact⟨rfl,rfl⟩
theorem MU{T:Tw}{k:Nat}(hk:k≤1){a:Q4 T}(ha:Lv (k+1) a):toQ T (Ok k a)=oC k a∧toQ T (Ol k a)=hiQ k a∧Lk k (Ok k a)∧Lk k (Ol k a):=by have hl:=(qx ha).le;have hw:=cP (fO a) (2^(k+1));obtain⟨h1,h2⟩:=S3 T hk hw;rw[Lm T hl,fN] at h1 h2;obtain⟨g1,g2,_,_⟩:=pf hw;exact⟨h1,h2,g1,g2⟩
theorem rI{T:Tw}{h k:Nat}{a:Q4 T}(ha:Hq h a):Hq h (oC k a)∧Hq h (hiQ k a):=by
 match k with
 |0=>exact⟨ha.part (by simp[oC]),ha.part (by simp[hiQ])⟩
 |k+1=>exact⟨ha.part (by simp[oC]),ha.part (by simp[hiQ])⟩
def rZ{T:Tw}(a:Q4 T):Nat:=if a.z=0∧a.w=0 then (if a.y=0 then 0 else 1) else 2
theorem HC{T:Tw}(a:Q4 T):Lv (rZ a) a∧rZ a≤2∧(fO a).length≤2^rZ a∧(∀c,c<rZ a→2^c<(fO a).length)∧max 1 (fO a).length=2^rZ a:=by
 unfold rZ fO;by_cases h1:a.z=0∧a.w=0
 ·rw[afI h1,afI h1];by_cases h2:a.y=0
  ·rw[afI h2,afI h2];refine⟨⟨h2,h1.1,h1.2⟩,by omega,?_,fun c hc=>by omega,?_⟩<;>split<;>simp
  ·rw[afG h2,afG h2];refine⟨⟨h1.1,h1.2⟩,by omega,by simp,fun c hc => ?_,by simp⟩;have:c=0:=by omega
   subst this;simp
 ·rw[afG h1,afG h1];refine⟨True.intro,by omega,by simp,fun c hc => ?_,by simp⟩;have:c=0∨c=1:=by omega
  rcases this with rfl|rfl<;>simp
theorem S4{T:Tw}(a:Q4 T):rZ (-a)=rZ a:=by
 have e:∀x:Rat, -x=0↔x=0:=fun x=>by grind
 unfold rZ;simp only[Q4.zd,Q4.wN,Q4.wO,e]
theorem Wk{T:Tw}{n:Nat}{a:Q4 T}(h:Lv n a):rZ a≤n:=by
 unfold rZ
 match n,h with
 |0,h=>rw[afI ⟨h.2.1,h.2.2⟩,afI h.1];omega
 |1,h=>rw[afI ⟨h.1,h.2⟩];split<;>omega
 |n+2,_ =>
  split
  ·split<;>omega
  ·omega
namespace fH
variable {t:aA} {T:Tw}
structure Cf (C:List (Q4 T)) (k H:Nat):Prop where
 n0:C≠[]
 n:C.length≤5
 lv:∀a∈C,Lv (k+1) a
 hq:∀a∈C,Hq H a
 h1:1≤H
 hs:H≤1000000
theorem Cf.get{C:List (Q4 T)}{k H:Nat}(c:Cf C k H){i:Nat}(hi:i<C.length):C[i]? = some (eC C i)∧Lv (k+1) (eC C i)∧Hq H (eC C i):=by
 have e:C[i]? = some C[i]:=afp hi;have e2:eC C i=C[i]:=by unfold eC;rw[e];rfl
 have m:=afx e;rw[e2];exact⟨e,c.lv _ m,c.hq _ m⟩
theorem Cf.gq{C:List (Q4 T)}{k H:Nat}(c:Cf C k H)(i:Nat):Hq H (eC C i):=by
 by_cases hi:i<C.length
 ·exact(c.get hi).2.2
 ·unfold eC;rw[ag3 (by omega)];exact Hq.zero c.h1
theorem Cf.Yl{C:List (Q4 T)}{k H:Nat}(c:Cf C k H)(ht:Tok T)(i j:Nat):Hq (4*H+26) (proQ k C i j):=by
 have a:=rI (k:=k) (c.gq i);have b:=rI (k:=k) (c.gq j);have h1:=Hq.mul ht a.1 b.1;have h2:=Hq.mul ht (Hq.mul ht a.2 b.2) (ht.root k);have e:proQ k C i j=oC k (eC C i)*oC k (eC C j) + -(hiQ k (eC C i)*hiQ k (eC C j)*toQ T (eV T k)):=by unfold proQ;grind
 rw[e];exact(h1.add h2.neg).mono (by omega)
theorem Cf.next{C:List (Q4 T)}{k H:Nat}(c:Cf C (k+1) H)(ht:Tok T)(hk:k+1≤1)(hn:C.length≤3)(hs:1+C.length*(C.length*(4*H+26+1))≤1000000):Cf (ir (k+1) C) k (1+C.length*(C.length*(4*H+26+1))):=by
 have hl:=afC.2 c.n0;have fl:=zi (k+1) C;refine⟨fun e => ?_,by omega,Ce hk C,fun a ha => ?_,by omega,hs⟩
 ·rw[e,ahN] at fl;omega
 ·obtain⟨m,_,rfl⟩:=agj.1 ha;exact vi (c.Yl ht) _ _ _
theorem Cf.out{C:List (Q4 T)}{k H:Nat}(c:Cf C k H)(ht:Tok T):∀a∈ir k C,Hq (1+C.length*(C.length*(4*H+26+1))) a:=fun a ha=>by obtain⟨m,_,rfl⟩:=agj.1 ha;exact vi (c.Yl ht) _ _ _
def oO(k:Nat)(C:List (Q4 T)):List (List ag):=C.map (fun a=>(Ok k a).map aI)
def qy(k:Nat)(C:List (Q4 T)):List (List ag):=C.map (fun a=>(Ol k a).map aI)
theorem zm{C:List (Q4 T)}{k H i:Nat}(c:Cf C k H)(hi:i<C.length):(oO k C)[i]? = some ((Ok k (eC C i)).map aI):=by unfold oO;rw[afu,(c.get hi).1];rfl
theorem zn{C:List (Q4 T)}{k H i:Nat}(c:Cf C k H)(hi:i<C.length):(qy k C)[i]? = some ((Ol k (eC C i)).map aI):=by unfold qy;rw[afu,(c.get hi).1];rfl
theorem pad(q:List Rat){n:Nat}(h:q.length≤n){m:Nat}(hm:n-q.length=m):q.map aI++List.replicate m (⟨false,[],[]⟩:ag)=(wideL q n).map aI:=by rw[Cg.zk q h,agd,aj1,ot,hm]
theorem Cf.Q2(G:fH t T){C:List (Q4 T)}{k H:Nat}(c:Cf C k H)(hk:k<t.roots.length){i j:Nat}(hi:i<C.length)(hj:j<C.length) :
  (Cp 19 [t.pv,pq (Ok k (eC C i)),pq (Ok k (eC C j))] (.aF [pq (fO (oC k (eC C i)*oC k (eC C j))),.aC])∧Cp 39 [t.pv,pq (Ok k (eC C i)),pq (Ok k (eC C j))] (.aF [pq (fO (oC k (eC C i)*oC k (eC C j))),vI 0])) ∧
  (Cp 19 [t.pv,pq (Ol k (eC C i)),pq (Ol k (eC C j))] (.aF [pq (fO (hiQ k (eC C i)*hiQ k (eC C j))),.aC])∧Cp 39 [t.pv,pq (Ol k (eC C i)),pq (Ol k (eC C j))] (.aF [pq (fO (hiQ k (eC C i)*hiQ k (eC C j))),vI 0])):=by
 have hl:=G.HQ;have hs:=c.hs;have h1:=c.h1;obtain⟨_,iv,iq⟩:=c.get hi;obtain⟨_,jv,jq⟩:=c.get hj;obtain⟨a1,a2,a3,a4⟩:=MU (k:=k) (by omega) iv;obtain⟨b1,b2,b3,b4⟩:=MU (k:=k) (by omega) jv;have ia:=rI (k:=k) iq;have ja:=rI (k:=k) jq;have m1:=G.Wj (a:=Ok k (eC C i)) (b:=Ok k (eC C j)) (h:=H) (h':=H) (a3.mono (by omega)) (b3.mono (by omega)) (by rw[a1];exact ia.1) (by rw[b1];exact ja.1) h1 h1 (by omega);have m2:=G.Wj (a:=Ol k (eC C i)) (b:=Ol k (eC C j)) (h:=H) (h':=H) (a4.mono (by omega)) (b4.mono (by omega)) (by rw[a2];exact ia.2) (by rw[b2];exact ja.2) h1 h1 (by omega);rw[a1,b1] at m1;rw[a2,b2] at m2;exact⟨m1,m2⟩
theorem Ym(G:fH t T){a:Q4 T}{b:List Rat}{h h':Nat}(va:Lv t.roots.length a)(lb:Lk t.roots.length b)(ha:Hq h a)(hb:Hq h' (toQ T b))(h1:1≤h)(tI:1≤h')(hs:h+h'+200≤1073741824) :
  Cp 19 [t.pv,pq (fO a),pq b] (.aF [pq (fO (a*toQ T b)),.aC])∧Cp 39 [t.pv,pq (fO a),pq b] (.aF [pq (fO (a*toQ T b)),vI 0]):=by
 have m:=G.Wj (a:=fO a) (b:=b) (h:=h) (h':=h') (qx va) lb (by rw[fN];exact ha) hb h1 tI hs;rw[fN] at m;exact m
theorem Yn(G:fH t T){a b:Q4 T}{h h':Nat}(va:Lv t.roots.length a)(vb:Lv t.roots.length b)(ha:Hq h a)(hb:Hq h' b)(h1:1≤h)(tI:1≤h')(hs:h+h'+200≤1073741824) :
  Cp 147 [t.pv,pq (fO a),pq (fO b)] (.aF [pq (fO (a-b)),.aC])∧Cp 40 [t.pv,pq (fO a),pq (fO b)] (.aF [pq (fO (a-b)),vI 0]):=by
 have m:=G.abo (a:=fO a) (b:=fO b) (h:=h) (h':=h') (qx va) (qx vb) (by rw[fN];exact ha) (by rw[fN];exact hb) h1 tI hs;rw[fN,fN] at m;exact m
theorem Wl(G:fH t T){a b:Q4 T}{h h':Nat}(va:Lv t.roots.length a)(vb:Lv t.roots.length b)(ha:Hq h a)(hb:Hq h' b)(h1:1≤h)(tI:1≤h')(hs:h+h'+200≤1073741824) :
  Cp 20 [t.pv,pq (fO a),pq (fO b)] (.aF [pq (fO (a+b)),.aC])∧Cp 90 [t.pv,pq (fO a),pq (fO b)] (.aF [pq (fO (a+b)),vI 0]):=by
 have m:=G.abn (a:=fO a) (b:=fO b) (h:=h) (h':=h') (qx va) (qx vb) (by rw[fN];exact ha) (by rw[fN];exact hb) h1 tI hs;rw[fN,fN] at m;exact m
theorem BF{k n:Nat}{a:Q4 T}(h:Lv k a)(hk:k≤n):Lv n a:=by
 induction n with
 |zero =>
  have:k=0:=by omega
  subst this;exact h
 |succ n ih =>
  by_cases e:k=n+1
  ·subst e;exact h
  ·exact(ih (by omega)).mono
theorem Q3(G:fH t T){C:List (Q4 T)}{k H:Nat}(c:Cf C k H)(hk:k<t.roots.length) :
  Cp 80 [t.pv,bB (bp ag.cells) (tZ C),vI ((k:Int)+1)] (.aF [bB (bp ag.cells) (tZ (ir k C)),.aC]):=by
 have F9:=G.HQ;have hs:=c.hs;have h1:=c.h1;have hn:=c.n;have VE:=afC.2 c.n0;have BG:k≤1:=by omega
 have p2:2^(k+1)=2*(1*2^k):=by rw[afM];omega
 have p4:2^k≤2^1:=afH (by omega) BG;have p0:0<2^k:=agm _;have ql:(tZ C).length=C.length:=by unfold tZ;rw[afq]
 have qz:=G.tok;have oX:=G.rt.2 k hk;have Q5:Lk t.roots.length (eV T k):=(Lk.nr (oB T BG)).mono (by omega);generalize hN:C.length=n at *;generalize hM:2*n-1=M;have hX:n*(n*(4*H+26+1))≤5*(5*(4*1000000+27)):=ag7 hn (ag7 hn (by omega));have L3:∀i,i<n→∀(base:Nat→Q4 T),(∀m,Lv k (base m))→(∀m,Hq (1+i*(n*(4*H+26+1))) (base m))→∀r,cZ.a8 (tZ C) ((k:Int)+1) (oO k C) (qy k C) M (i+1) t (tb M (oN (proQ k C) i base n)) r→∀d l,l+d=n→cZ.j5 (tZ C) ((k:Int)+1) (oO k C) (qy k C) M i i l t (tb M (oN (proQ k C) i base l)) r:=by
  intro i hi base bv bq r hr d
  induction d with
  |zero =>
   intro l hl;have:l=n:=by omega
   subst this;exact cZ.l36 _ _ _ _ _ _ _ _ t _ (by omega) (by omega) hr
  |succ d ih =>
   intro l hl;have AS:i<C.length:=by omega
   have Gh:l<C.length:=by omega
   obtain⟨⟨m1,_⟩,⟨m2,_⟩⟩:=Cf.Q2 G c hk AS Gh;have va:=((Bg BG (eC C i)).mul (Bg BG (eC C l)));have vb:=((Bh BG (eC C i)).mul (Bh BG (eC C l)));have qi:=rI (k:=k) (c.gq i);have qj:=rI (k:=k) (c.gq l);have qa:=Hq.mul qz qi.1 qj.1;have qb:=Hq.mul qz qi.2 qj.2;have m3:=(G.Ym (b:=eV T k) (h:=H+H+8) (h':=1) (BF vb (by omega)) Q5 qb (qz.root k) (by omega) (by omega) (by omega)).1;have vc:=vb.mul (Hs T BG);have qc:=Hq.mul qz qb (qz.root k);have m4:=(G.Yn (h:=H+H+8) (h':=H+H+8+1+8) (BF va (by omega)) (BF vc (by omega)) qa qc (by omega) (by omega) (by omega)).1;have pv:=Ht BG C i l;have S5:=c.Yl qz i l;have Ub:=AB (p:=proQ k C) (Ht BG C) i bv l (i+l);have Uc:=AE (p:=proQ k C) (c.Yl qz) i bq l (i+l);have hle:1+i*(n*(4*H+26+1))+l*(4*H+26+1)≤1+n*(n*(4*H+26+1)):=by
    have e1:i*(n*(4*H+26+1))+n*(4*H+26+1)≤n*(n*(4*H+26+1)):=by have:=afw (n*(4*H+26+1)) (show i+1≤n by omega);rw[ahb] at this;exact this
    have e2:l*(4*H+26+1)≤n*(4*H+26+1):=afw _ (by omega);omega
   have m5:=(G.Wl (h:=1+i*(n*(4*H+26+1))+l*(4*H+26+1)) (h':=4*H+26) (BF Ub (by omega)) (BF pv (by omega)) Uc S5 (by omega) (by omega) (by omega)).1;refine cZ.Xz _ _ _ _ _ _ _ _ t _ _ _ _ _ _ _ k _ _ _ _ _ (by omega) (by unfold oO;rw[afq];omega) (zm c AS) (by unfold oO;rw[afq];omega) (zm c Gh) m1 (by unfold qy;rw[afq];omega) (zn c AS) (by unfold qy;rw[afq];omega) (zn c Gh) m2 (by unfold ay;omega) (by omega) oX m3 m4 (by omega) (by omega) (Eh _ (by omega)) m5 (by rw[xJ];omega) (by omega) ?_;rw[HA,Ei];exact ih (l+1) (by omega)
 have L2:∀d i,i+d=n→cZ.a8 (tZ C) ((k:Int)+1) (oO k C) (qy k C) M i t (tb M (nv (proQ k C) n i)) (.aF [bB (bp ag.cells) (tZ (ir k C)),.aC]):=by
  intro d
  induction d with
  |zero =>
   intro i hi;have:i=n:=by omega
   subst this;have e:=MT k C;rw[hN,hM] at e;rw[e];exact cZ.xe _ _ _ _ _ _ t _ (by omega) (by rw[←e,xJ])
  |succ d ih =>intro i hi;exact cZ.uF _ _ _ _ _ _ t _ (by omega) (L3 i (by omega) _ (fun m=>xH (Ht BG C) n i m) (fun m=>vi (c.Yl qz) n i m) _ (ih (i+1) (by omega)) n 0 (by omega))
 have L1:∀d g,g+d=n→cZ.ah (tZ C) ((k:Int)+1) k (oO k (C.take g)) (qy k (C.take g)) g t (.aF [bB (bp ag.cells) (tZ (ir k C)),.aC]):=by
  intro d
  induction d with
  |zero =>
   intro g hg;rw[show C.take g=C from afD (by omega)];have L20:=L2 n 0 (by omega);have e0:tb M (nv (proQ k C) n 0)=List.replicate M ([]:List ag):=by rw[HB (T:=T)];rfl
   rw[e0] at L20;exact cZ.cB _ _ _ _ _ g t M (by omega) (by omega) (by unfold ay;omega) (by omega) (by omega) L20
  |succ d ih =>
   intro g hg;have hg':g<C.length:=by omega
   obtain⟨e1,e2,e3⟩:=c.get hg';have hle:=(qx e2).le;have hv:(tZ C)[g]? = some ((fO (eC C g)).map aI):=by unfold tZ;rw[afu,e1];rfl
   have hp:=pad (fO (eC C g)) hle rfl;have hlen:((fO (eC C g)).map aI).length=(fO (eC C g)).length:=bx _;have wl':=cP (fO (eC C g)) (2^(k+1));have HG:((fO (eC C g)).map aI++List.replicate (2^(k+1)-(fO (eC C g)).length) (⟨false,[],[]⟩:ag)).length=2^(k+1):=by rw[hp,bx,wl']
   have ih:=ih (g+1) (by omega);rw[ag4,e1] at ih;unfold oO qy at ih ⊢;rw[agd,agd] at ih;refine cZ.l10 _ _ k _ _ g t _ (2^(k+1)-(fO (eC C g)).length) (by omega) hv (by rw[ahp];omega) (by omega) (by unfold ay;omega) (by omega) (by omega) (by omega) (by rw[afW,afq,afK,agt];omega) (by omega) (by rw[afW,afq,afK,agt];omega) (by omega) ?_;rw[hp,agV,dE,dF];exact ih
 exact cZ.e0 t _ _ k (by unfold ay;omega) (by omega) (by omega) (by omega) (L1 n 0 (by omega))
end fH
end Go.Proofs.YtcpnocgollpbhaaGreatDoor.Sym
namespace Go.Proofs.YtcpnocgollpbhaaGreatDoor.Sym
open Go Path cV
set_option linter.unusedVariables false
theorem Q6{T:Tw}{M:Nat}{F F':Nat→Q4 T}(h:∀m,m<M→F m=F' m):tb M F=tb M F':=by
 unfold tb;refine ahM fun m hm => ?_
 rw[h m (ahV.1 hm)]
theorem JN{T:Tw}{L:Nat}(hL:L≤2){x:Q4 T}(hx:Lv L x):(lZ x L)[(lZ x L).length-1]? = some 1:=by obtain⟨h1,h2⟩:=Ec hL hx;rw[h1,ahU];rw[ox (by rw[h1];omega),h2]
theorem F4{T:Tw}{L:Nat}(hL:L≤2){x:Q4 T}(hx:Lv L x):aS (lZ x L)=false:=by unfold aS;rw[ahy,JN hL hx];rfl
theorem N5{T:Tw}{L:Nat}(hL:L≤2){x:Q4 T}(hx:Lv L x):bz (lZ x L)=1:=by unfold bz;exact mY (JN hL hx)
theorem S6{T:Tw}{L:Nat}(hL:L≤2){x:Q4 T}(hx:Lv L x):lZ x L≠[]:=fun e=>by have:=(Ec hL hx).1;rw[e,ahN] at this;exact Nat.succ_ne_zero _ this.symm
theorem MV{n:Int}(h:n.natAbs≤10^128):wl n≤14:=lE (ah5 h (by decide))
theorem S7{T:Tw}{A B D:Nat}(t:Oi T A B)(hD:D≠0)(Oj:D≤10^12){x:Q4 T}(hx:Dn D (10^12) x){L:Nat}(hL:L≤2):Ch 14 (lZ x L)∧∀c∈lZ x L,ab c≤(((10^128:Nat):Int):Rat):=by
 obtain⟨E,e0,e1,e2⟩:=Wd t hD Oj hx hL;refine⟨⟨(E:Int),by omega,MV (by omega),fun i => ?_⟩,fun c hc => ?_⟩
 ·unfold lZ coef;rw[afu];cases h:(xG x L)[i]? with
  |none=>exact⟨0,by show(0:Rat)*_=_;rw[ago];rfl,rY _⟩
  |some a =>obtain⟨n,_,_,_,h1,_,_,_,h5,_⟩:=e2 a (afx h);exact⟨n,h1,MV h5⟩
 ·obtain⟨a,ha,rfl⟩:=agj.1 hc;obtain⟨n,_,_,_,h1,_,_,_,h5,_⟩:=e2 a ha;have hE:(1:Rat)≤(((E:Nat):Int):Rat):=agu.2 (show (1:Int)≤_ by omega);have hn:(n:Rat)≤(((10^128:Nat):Int):Rat):=agu.2 (by omega);have Oe:((-((10^128:Nat):Int):Int):Rat)≤(n:Rat):=agu.2 (by omega);rw[agX] at Oe;generalize (((10^128:Nat):Int):Rat)=W at hn Oe ⊢;generalize (((E:Nat):Int):Rat)=F at h1 hE;generalize (n:Rat)=N at h1 hn Oe;show ab a.x≤W;rcases bC a.x with k|k
  ·have:=afN hE (show 0≤a.x from k.1);grind
  ·have:=afN hE (show 0 ≤ -a.x by grind);grind
theorem Wm:(((10^128:Nat):Int):Rat)+1≤twP 440:=by
 have e:twP 440=twP 220*twP 220:=by rw[←rD]
 have e2:(((10^128:Nat):Int):Rat)=(((10^64:Nat):Int):Rat)*(((10^64:Nat):Int):Rat):=by rw[←ag2,←agf,←ahq]
 have h:(((10^64:Nat):Int):Rat)+1≤twP 220:=by
  have h1:(((10^64:Nat):Int)+1)≤(((2^220:Nat)):Int):=by decide
  have h3:=agu.2 h1;rw[agM] at h3;exact h3
 have h0:(0:Rat)≤(((10^64:Nat):Int):Rat):=agu.2 (show (0:Int)≤_ by omega);rw[e,e2];generalize (((10^64:Nat):Int):Rat)=P at h h0 ⊢;generalize twP 220=W at h ⊢;have:=fe h h (by grind) (by grind);grind
theorem MW{T:Tw}{A B D:Nat}(t:Oi T A B)(hD:D≠0)(Oj:D≤10^12){x:Q4 T}(hx:Dn D (10^12) x){L:Nat}(hL:L≤2)(hv:Lv L x):dL 14 5 (lZ x L)∧Bd (lZ x L):=by
 obtain⟨h1,h2⟩:=S7 t hD Oj hx hL;have hl:=(Ec hL hv).1;have p4:2^L≤2^2:=afH (by omega) hL;refine⟨⟨F4 hL hv,S6 hL hv,by omega,h1,by omega,by omega,by decide⟩,h1.fl (by omega),fun c hc => ?_⟩;rw[N5 hL hv];have e:c/1=c:=by grind
 rw[e];have:=h2 c hc;have tb:=Wm;generalize (((10^128:Nat):Int):Rat)=W at *;generalize twP 440=V at *;grind
namespace fH
variable {t:aA} {T:Tw}
theorem Yo(G:fH t T){C:List (Q4 T)}{H:Nat}(hl:C.length≤5)(hv:∀a∈C,Lv 0 a)(hq:∀a∈C,Hq H a)(h1:1≤H)(hs:H≤1000000)(hz:aS (C.map (fun a=>a.x))=false) :
  (∀d g,g+d=C.length→bP.j5 (((C.take g).map (fun a=>a.x)).map aI) (tZ C) C.length g t (.aF [pq (C.map (fun a=>a.x)),.aC])) ∧
  (∀d g,g+d=C.length→aZ.j5 (((C.take g).map (fun a=>a.x)).map aI) C.length C.length g t (tZ C) (.aF [pq (C.map (fun a=>a.x)),vI 0])):=by
 have hf:Fl H (C.map (fun a=>a.x)):=fun x hx=>by obtain⟨a,ha,rfl⟩:=agj.1 hx;obtain⟨D,i,_,_,_,h0,hD,h2,_,_,_,h6,_⟩:=hq a ha;have:=py h0 h2;exact afJ this (by omega)
 have gW:aP (C.map (fun a=>a.x))=C.map (fun a=>a.x):=oy (bH _) hz (eR _);have t1:=BC.Trim (C.map (fun a=>a.x)) (by rw[afq];omega) hf (by omega);have t2:=La.Trim (C.map (fun a=>a.x)) (by rw[afq];omega) hf (by omega);rw[gW] at t1 t2;have get:∀g,g<C.length→∃a,C[g]? = some a∧(tZ C)[g]? = some ((fO a).map aI)∧a∈C:=fun g hg=>by refine⟨C[g],afp hg,?_,List.getElem_mem hg⟩;unfold tZ;rw[afu,afp hg];rfl
 refine⟨fun d => ?_,fun d => ?_⟩
 ·induction d with
  |zero =>intro g hg;rw[show C.take g=C from afD (by omega)];exact bP.l32 _ _ _ g t _ (by omega) t1
  |succ d ih =>intro g hg;obtain⟨a,a1,a2,a3⟩:=get g (by omega);have ih:=ih (g+1) (by omega);rw[ag4,a1,agd,agd] at ih;exact bP.XA _ _ _ g t _ _ true (by omega) a2 (G.Yj (hv a a3) (hq a a3) h1 (by omega)).1 rfl (by simp;omega) (by omega) ih
 ·induction d with
  |zero =>intro g hg;rw[show C.take g=C from afD (by omega)];exact aZ.XA _ _ _ g t _ _ (by omega) t2
  |succ d ih =>intro g hg;obtain⟨a,a1,a2,a3⟩:=get g (by omega);have ih:=ih (g+1) (by omega);rw[ag4,a1,agd,agd] at ih;exact aZ.Xz _ _ _ g t _ _ _ true (by omega) (by omega) a2 (G.Yj (hv a a3) (hq a a3) h1 (by omega)).2 (by simp;omega) (by omega) ih
theorem S8{C:List (Q4 T)}{k H:Nat}(c:Cf C k H)(BG:k≤1):Cp 37 [bB (bp ag.cells) (tZ C),vI ((k+1:Nat):Int)] (.aF [bB (bp ag.cells) (oO k C),bB (bp ag.cells) (qy k C)]):=by
 have hn:=c.n;have p2:2^(k+1)=2^k+2^k:=by rw[afM];omega
 have p4:2^(k+1)≤2^2:=afH (by omega) (by omega);have ql:(tZ C).length=C.length:=by unfold tZ;rw[afq]
 have L1:∀d g,g+d=C.length→cQ.ah ((k+1:Nat):Int) (oO k (C.take g)) (qy k (C.take g)) (tZ C) g (.aF [bB (bp ag.cells) (oO k C),bB (bp ag.cells) (qy k C)]):=by
  intro d
  induction d with
  |zero =>intro g hg;rw[show C.take g=C from afD (by omega)];exact cQ.cB _ _ _ _ g (by omega)
  |succ d ih =>
   intro g hg;have hg':g<C.length:=by omega
   obtain⟨e1,e2,e3⟩:=c.get hg';have hle:=(qx e2).le;have hv:(tZ C)[g]? = some ((fO (eC C g)).map aI):=by unfold tZ;rw[afu,e1];rfl
   have hlen:((fO (eC C g)).map aI).length=(fO (eC C g)).length:=bx _;have wl':=cP (fO (eC C g)) (2^(k+1));have ih:=ih (g+1) (by omega);rw[ag4,e1] at ih;unfold oO qy at ih ⊢;rw[agd,agd] at ih;refine cQ.l10 _ _ _ _ g _ (by omega) hv (by rw[ahp];omega) ?_;have abt:∀d s,(fO (eC C g)).length+s+d=2^(k+1)→cQ.a8 ((k+1:Nat):Int) ((C.take g).map (fun a=>(Ok k a).map aI)) ((C.take g).map (fun a=>(Ol k a).map aI)) ((fO (eC C g)++List.replicate s 0).map aI) (tZ C) g (.aF [bB (bp ag.cells) (C.map (fun a=>(Ok k a).map aI)),bB (bp ag.cells) (C.map (fun a=>(Ol k a).map aI))]):=by
    intro d
    induction d with
    |zero =>
     intro s hs;have e:fO (eC C g)++List.replicate s 0=wideL (fO (eC C g)) (2^(k+1)):=by rw[Cg.zk _ hle,show 2^(k+1)-(fO (eC C g)).length=s from by omega]
     rw[e];have lw:((wideL (fO (eC C g)) (2^(k+1))).map aI).length=2^(k+1):=by rw[bx,wl']
     have hh:((wideL (fO (eC C g)) (2^(k+1))).map aI).length/2=2^k:=by rw[lw,p2];omega
     refine cQ.xe _ _ _ _ _ g (k+1) rfl (by omega) (by omega) (by omega) (by omega) (by omega) (by rw[afW,afq,afK,agt];omega) (by omega) (by rw[afW,afq,afK,agt];omega) (by omega) ?_;rw[hh,dE,dF];exact ih
    |succ d Xb =>intro s hs;have:=Xb (s+1) (by omega);rw[aiP,←ah9,agd] at this;exact cQ.uF _ _ _ _ _ g (k+1) rfl (by omega) (by omega) (by simp;omega) (by simp;omega) this
   have:=abt (2^(k+1)-(fO (eC C g)).length) 0 (by omega);rw[ai7,ahA] at this;exact this
 exact cQ.e0 _ _ (L1 C.length 0 (by omega))
theorem S9(G:fH t T){C:List (Q4 T)}{k H:Nat}(c:Cf C k H)(hk:k<t.roots.length):au bu 38 [.pv t.pv,.pv (bB (bp ag.cells) (oO k C)),.pv (bB (bp ag.cells) (oO k C))] [] (.row 0 0 (2*C.length-1) 1) [(0,(.pure (((tb (2*C.length-1) (nv (fun i j=>oC k (eC C i)*oC k (eC C j)) C.length C.length)):List (List ag)).map (bp ag.cells)).flatten))]:=by
 have F9:=G.HQ;have hs:=c.hs;have h1:=c.h1;have hn:=c.n;have VE:=afC.2 c.n0;have BG:k≤1:=by omega
 have qz:=G.tok;have ll:(oO k C).length=C.length:=by unfold oO;rw[afq]
 have Wn:∀i j,Lv k ((fun i j=>oC k (eC C i)*oC k (eC C j)) i j):=fun i j=>(Bg BG _).mul (Bg BG _)
 have S5:∀i j,Hq (H+H+8) ((fun i j=>oC k (eC C i)*oC k (eC C j)) i j):=fun i j=>Hq.mul qz (rI (k:=k) (c.gq i)).1 (rI (k:=k) (c.gq j)).1
 generalize hN:C.length=n at *;generalize hM:2*n-1=M;have hX:n*(n*(H+H+8+1))≤5*(5*(1000000+1000000+9)):=ag7 hn (ag7 hn (by omega));have L2:∀i,i<n→∀(base:Nat→Q4 T),(∀m,Lv k (base m))→(∀m,Hq (1+i*(n*(H+H+8+1))) (base m))→∀r s,cE.ah (oO k C) (oO k C) M (i+1) t (tb M (oN (fun i j=>oC k (eC C i)*oC k (eC C j)) i base n)) [] r s→∀d l,l+d=n→cE.a8 (oO k C) (oO k C) M i i l t (tb M (oN (fun i j=>oC k (eC C i)*oC k (eC C j)) i base l)) [] r s:=by
  intro i hi base bv bq r s hr d
  induction d with
  |zero =>
   intro l hl;have:l=n:=by omega
   subst this;exact cE.xe _ _ _ _ _ _ t _ rfl (by omega) (by omega) hr
  |succ d ih =>
   intro l hl;have AS:i<C.length:=by omega
   have Gh:l<C.length:=by omega
   obtain⟨⟨_,m1⟩,_⟩:=Cf.Q2 G c hk AS Gh;have Ub:=AB Wn i bv l (i+l);have Uc:=AE S5 i bq l (i+l);have hle:1+i*(n*(H+H+8+1))+l*(H+H+8+1)≤1+n*(n*(H+H+8+1)):=by
    have e1:i*(n*(H+H+8+1))+n*(H+H+8+1)≤n*(n*(H+H+8+1)):=by have:=afw (n*(H+H+8+1)) (show i+1≤n by omega);rw[ahb] at this;exact this
    have e2:l*(H+H+8+1)≤n*(H+H+8+1):=afw _ (by omega);omega
   have m5:=(G.Wl (h:=1+i*(n*(H+H+8+1))+l*(H+H+8+1)) (h':=H+H+8) (BF Ub (by omega)) (BF (Wn i l) (by omega)) Uc (S5 i l) (by omega) (by omega) (by omega)).2;refine cE.uF _ _ _ _ _ _ t _ _ _ _ _ _ _ _ rfl (by omega) (zm c AS) (zm c Gh) m1 (by omega) (by omega) (Eh _ (by omega)) m5 (by rw[xJ];omega) (by omega) ?_;rw[HA,Ei];exact ih (l+1) (by omega)
 have L1:∀d i,i+d=n→cE.ah (oO k C) (oO k C) M i t (tb M (nv (fun i j=>oC k (eC C i)*oC k (eC C j)) n i)) [] (.row 0 0 M 1) [(0,(.pure (((tb M (nv (fun i j=>oC k (eC C i)*oC k (eC C j)) n n)):List (List ag)).map (bp ag.cells)).flatten))]:=by
  intro d
  induction d with
  |zero =>
   intro i hi;have:i=n:=by omega
   subst this;have:=cE.cB (oO k C) (oO k C) M i t (tb M (nv (fun i j=>oC k (eC C i)*oC k (eC C j)) i i)) (sin:=[]) rfl rfl (by omega);rwa[afD (by rw[xJ];omega)] at this
  |succ d ih =>intro i hi;exact cE.l10 _ _ _ _ t _ rfl (by omega) (L2 i (by omega) _ (fun m=>xH Wn n i m) (fun m=>vi S5 n i m) _ _ (ih (i+1) (by omega)) n 0 (by omega))
 have Yp:=L1 n 0 (by omega);have e0:tb M (nv (fun i j=>oC k (eC C i)*oC k (eC C j)) n 0)=List.replicate M ([]:List ag):=by rw[HB (T:=T)];rfl
 rw[e0] at Yp;exact cE.e0 t _ _ M (by omega) (by unfold ay;omega) (by omega) (by omega) Yp
theorem Ta(G:fH t T){C:List (Q4 T)}{k H:Nat}(c:Cf C k H)(hk:k<t.roots.length):Cp 38 [t.pv,bB (bp ag.cells) (qy k C),bB (bp ag.cells) (qy k C)] (bB (bp ag.cells) (tb (2*C.length-1) (nv (fun i j=>hiQ k (eC C i)*hiQ k (eC C j)) C.length C.length))):=by
 have F9:=G.HQ;have hs:=c.hs;have h1:=c.h1;have hn:=c.n;have VE:=afC.2 c.n0;have BG:k≤1:=by omega
 have qz:=G.tok;have ll:(qy k C).length=C.length:=by unfold qy;rw[afq]
 have Wn:∀i j,Lv k ((fun i j=>hiQ k (eC C i)*hiQ k (eC C j)) i j):=fun i j=>(Bh BG _).mul (Bh BG _)
 have S5:∀i j,Hq (H+H+8) ((fun i j=>hiQ k (eC C i)*hiQ k (eC C j)) i j):=fun i j=>Hq.mul qz (rI (k:=k) (c.gq i)).2 (rI (k:=k) (c.gq j)).2
 generalize hN:C.length=n at *;generalize hM:2*n-1=M;have hX:n*(n*(H+H+8+1))≤5*(5*(1000000+1000000+9)):=ag7 hn (ag7 hn (by omega));have L2:∀i,i<n→∀(base:Nat→Q4 T),(∀m,Lv k (base m))→(∀m,Hq (1+i*(n*(H+H+8+1))) (base m))→∀r,cN.ah (qy k C) (qy k C) M (i+1) t (tb M (oN (fun i j=>hiQ k (eC C i)*hiQ k (eC C j)) i base n)) r→∀d l,l+d=n→cN.a8 (qy k C) (qy k C) M i i l t (tb M (oN (fun i j=>hiQ k (eC C i)*hiQ k (eC C j)) i base l)) r:=by
  intro i hi base bv bq r hr d
  induction d with
  |zero =>
   intro l hl;have:l=n:=by omega
   subst this;exact cN.xe _ _ _ _ _ _ t _ (by omega) (by omega) hr
  |succ d ih =>
   intro l hl;have AS:i<C.length:=by omega
   have Gh:l<C.length:=by omega
   obtain⟨_,⟨_,m1⟩⟩:=Cf.Q2 G c hk AS Gh;have Ub:=AB Wn i bv l (i+l);have Uc:=AE S5 i bq l (i+l);have hle:1+i*(n*(H+H+8+1))+l*(H+H+8+1)≤1+n*(n*(H+H+8+1)):=by
    have e1:i*(n*(H+H+8+1))+n*(H+H+8+1)≤n*(n*(H+H+8+1)):=by have:=afw (n*(H+H+8+1)) (show i+1≤n by omega);rw[ahb] at this;exact this
    have e2:l*(H+H+8+1)≤n*(H+H+8+1):=afw _ (by omega);omega
   have m5:=(G.Wl (h:=1+i*(n*(H+H+8+1))+l*(H+H+8+1)) (h':=H+H+8) (BF Ub (by omega)) (BF (Wn i l) (by omega)) Uc (S5 i l) (by omega) (by omega) (by omega)).2;refine cN.uF _ _ _ _ _ _ t _ _ _ _ _ _ _ _ (by omega) (zn c AS) (zn c Gh) m1 (by omega) (by omega) (Eh _ (by omega)) m5 (by rw[xJ];omega) (by omega) ?_;rw[HA,Ei];exact ih (l+1) (by omega)
 have L1:∀d i,i+d=n→cN.ah (qy k C) (qy k C) M i t (tb M (nv (fun i j=>hiQ k (eC C i)*hiQ k (eC C j)) n i)) (bB (bp ag.cells) (tb M (nv (fun i j=>hiQ k (eC C i)*hiQ k (eC C j)) n n))):=by
  intro d
  induction d with
  |zero =>
   intro i hi;have:i=n:=by omega
   subst this;exact cN.cB _ _ M _ t _ (by omega) (by rw[xJ])
  |succ d ih =>intro i hi;exact cN.l10 _ _ _ _ t _ (by omega) (L2 i (by omega) _ (fun m=>xH Wn n i m) (fun m=>vi S5 n i m) _ (ih (i+1) (by omega)) n 0 (by omega))
 have Yp:=L1 n 0 (by omega);have e0:tb M (nv (fun i j=>hiQ k (eC C i)*hiQ k (eC C j)) n 0)=List.replicate M ([]:List ag):=by rw[HB (T:=T)];rfl
 rw[e0] at Yp;exact cN.e0 t _ _ M (by omega) (by unfold ay;omega) (by omega) (by omega) Yp
theorem HD(G:fH t T){C:List (Q4 T)}{k H:Nat}(c:Cf C k H)(hk:k<t.roots.length){r:PV}(hr:aZ.a8 (ir k C).length ((k:Int)) t (tZ (ir k C)) r):aZ.a8 C.length ((k+1:Nat):Int) t (tZ C) r:=by
 have F9:=G.HQ;have hs:=c.hs;have h1:=c.h1;have hn:=c.n;have VE:=afC.2 c.n0;have BG:k≤1:=by omega
 have qz:=G.tok;have oX:=G.rt.2 k hk;have Q5:Lk t.roots.length (eV T k):=(Lk.nr (oB T BG)).mono (by omega);have tl:=G.S9 c hk;have th:=G.Ta c hk;have hv:=S8 c BG;have ql:(tZ C).length=C.length:=by unfold tZ;rw[afq]
 have av:∀i j,Lv k ((fun i j=>oC k (eC C i)*oC k (eC C j)) i j):=fun i j=>(Bg BG _).mul (Bg BG _)
 have aq:∀i j,Hq (H+H+8) ((fun i j=>oC k (eC C i)*oC k (eC C j)) i j):=fun i j=>Hq.mul qz (rI (k:=k) (c.gq i)).1 (rI (k:=k) (c.gq j)).1
 have bv:∀i j,Lv k ((fun i j=>hiQ k (eC C i)*hiQ k (eC C j)) i j):=fun i j=>(Bh BG _).mul (Bh BG _)
 have bq:∀i j,Hq (H+H+8) ((fun i j=>hiQ k (eC C i)*hiQ k (eC C j)) i j):=fun i j=>Hq.mul qz (rI (k:=k) (c.gq i)).2 (rI (k:=k) (c.gq j)).2
 have sub:=MK (p:=fun i j=>oC k (eC C i)*oC k (eC C j)) (q:=fun i j=>hiQ k (eC C i)*hiQ k (eC C j)) (d:=toQ T (eV T k)) C.length C.length;have tf:=MT k C;have av':=xH av C.length C.length;have Ub:=xH bv C.length C.length;have aq':=vi aq C.length C.length;have Uc:=vi bq C.length C.length;have hX:C.length*(C.length*(H+H+8+1))≤5*(5*(1000000+1000000+9)):=ag7 hn (ag7 hn (by omega));have fl:=zi k C;have abu:∀m,nv (proQ k C) C.length C.length m=nv (fun i j=>oC k (eC C i)*oC k (eC C j)) C.length C.length m-nv (fun i j=>hiQ k (eC C i)*hiQ k (eC C j)) C.length C.length m*toQ T (eV T k):=sub;generalize nv (fun i j=>oC k (eC C i)*oC k (eC C j)) C.length C.length=F at *;generalize nv (fun i j=>hiQ k (eC C i)*hiQ k (eC C j)) C.length C.length=E at *;generalize hM:2*C.length-1=M at *;have L4:∀d s,s+d=M→aZ.uG ((k+1:Nat):Int) M (tb M E) s t (tb M (fun m=>if m<s then F m-E m*toQ T (eV T k) else F m)) r:=by
  intro d
  induction d with
  |zero =>
   intro s hs;have e:tb M (fun m=>if m<s then F m-E m*toQ T (eV T k) else F m)=tZ (ir k C):=by
    rw[←tf];refine Q6 fun m hm => ?_
    rw[afI (by omega),abu]
   rw[e];refine aZ.l41 _ _ _ s t _ (by omega) (by unfold ay;omega) ?_;rw[fl] at hr;rwa[show ((k+1:Nat):Int)-1=(k:Int) from by omega]
  |succ d ih =>
   intro s hs;have m3:=(G.Ym (b:=eV T k) (h:=1+C.length*(C.length*(H+H+8+1))) (h':=1) (BF (Ub s) (by omega)) Q5 (Uc s) (qz.root k) (by omega) (by omega) (by omega)).2;have qc:=Hq.mul qz (Uc s) (qz.root k);have m4:=(G.Yn (BF (av' s) (by omega)) (BF ((Ub s).mul (Hs T BG)) (by omega)) (aq' s) qc (by omega) (by omega) (by omega)).2;refine aZ.l40 _ _ _ s t _ _ k _ _ _ _ _ _ (by omega) (Eh _ (by omega)) (by unfold ay;omega) (by omega) oX m3 (Eh _ (by omega)) (by rw[afG (by omega)];exact m4) (by rw[xJ];omega) (by omega) ?_;rw[HA];have e:(fun m=>if m=s then F s-E s*toQ T (eV T k) else if m<s then F m-E m*toQ T (eV T k) else F m)=(fun m=>if m<s+1 then F m-E m*toQ T (eV T k) else F m):=by
    funext m;by_cases e1:m=s
    ·rw[afI e1,afI (by omega),e1]
    ·rw[afG e1];by_cases e2:m<s
     ·rw[afI e2,afI (by omega)]
     ·rw[afG e2,afG (by omega)]
   rw[e];exact ih (s+1) (by omega)
 refine aZ.uF _ _ t _ _ _ _ _ _ (by omega) ql.symm hv tl th ?_;have:=L4 M 0 (by omega);exact this
theorem Wo(G:fH t T){q:List Rat}(lq:Lk t.roots.length q)(hq:Hq 2 (toQ T q)) :
  Cp 7 [t.pv,pq q] (.aF [pq (lZ (toQ T q) (rZ (toQ T q))),.aC])∧Cp 9 [t.pv,pq q] (.aF [pq (lZ (toQ T q) (rZ (toQ T q))),vI 0]):=by
 have F9:=G.HQ;have qz:=G.tok;have xv:=JI (T:=T) lq;generalize hx:toQ T q=x at *;obtain⟨v1,v2,v3,v4,_⟩:=HC x;obtain⟨u1,u2,u3,u4,_⟩:=HC (-x);rw[S4] at u1 u2 u3 u4;have hLn:=Wk xv;have Lx:=AD v2 v1;have hz:=F4 v2 v1;have s1:=tY.kz (T:=T) F9 lq (h:=2) (by rw[hx];exact hq) (by omega) (by omega);rw[hx] at s1;have ng:=G.Yh (a:=q) (h:=2) lq (by rw[hx];exact hq) (by omega) (by omega);have ng2:=G.Yh (a:=fO x) (h:=2) (qx xv) (by rw[fN];exact hq) (by omega) (by omega);rw[hx] at ng;rw[fN] at ng2;have o1:=uS.Of 1 ⟨by decide,by decide⟩;have o2:=Ak.Of 1 ⟨by decide,by decide⟩;have oo:=OfB T (x:=((1:Int):Rat)) (h:=1) (by decide) (by omega);have e1:(Q4.tR ((1:Int):Rat):Q4 T)=1:=rfl;rw[e1] at oo;have Fy:[(fO (-x)).map aI,(fO (1:Q4 T)).map aI]=tZ [-x,1]:=rfl;have cf:∀k,rZ x=k+1→Cf [-x,1] k 2:=fun k hk=>⟨by simp,by simp,fun a ha=>by
  simp only[List.mem_cons,List.not_mem_nil,or_false] at ha;rcases ha with rfl|rfl
  ·rw[←hk];exact u1
  ·exact Lv.one _,fun a ha=>by
  simp only[List.mem_cons,List.not_mem_nil,or_false] at ha;rcases ha with rfl|rfl
  ·exact hq.neg
  ·exact(Hq.tR (q:=1) (by decide:ht 1≤1)).mono (by omega),by omega,by omega⟩
 have lf:=G.Yk (a:=q) (h:=2) lq (by rw[hx];exact hq) (by omega) (by omega);have Ll:∀c,c≤2→2^c≤4:=fun c hc=>afH (n:=2) (by omega) hc
 have hlen:([-x,1]:List (Q4 T)).length=2:=rfl;have bq:∀a∈xG x (rZ x),Hq 1000000 a:=by
  have:rZ x=0∨rZ x=1∨rZ x=2:=by omega
  rcases this with e|e|e
  ·rw[e];intro a ha;simp only[xG,List.mem_cons,List.not_mem_nil,or_false] at ha;rcases ha with rfl|rfl
   ·exact hq.neg.mono (by omega)
   ·exact(Hq.tR (q:=1) (by decide:ht 1≤1)).mono (by omega)
  ·rw[e];exact fun a ha=>((cf 0 e).out qz a ha).mono (by rw[hlen];decide)
  ·rw[e];have c1:=(cf 1 e).next qz (by omega) (by rw[hlen];decide) (by rw[hlen];decide);exact fun a ha=>(c1.out qz a ha).mono (by rw[zi,hlen];decide)
 obtain⟨l1,l2⟩:=G.Yo (C:=xG x (rZ x)) (H:=1000000) (by rw[Lx.1];have:=Ll _ v2;omega) Lx.2.1 bq (by omega) (by omega) hz;have l1:=l1 _ 0 (agl _);have l2:=l2 _ 0 (agl _);have Q7:bP.a8 (tZ [-x,1]) ((rZ x:Nat):Int) t (.aF [pq (lZ x (rZ x)),.aC])∧aZ.a8 2 ((rZ x:Nat):Int) t (tZ [-x,1]) (.aF [pq (lZ x (rZ x)),vI 0]):=by
  have last:∀(C:List (Q4 T)),C=xG x (rZ x)→bP.a8 (tZ C) 0 t (.aF [pq (lZ x (rZ x)),.aC])∧aZ.a8 C.length 0 t (tZ C) (.aF [pq (lZ x (rZ x)),vI 0]):=fun C hC=>by
   subst hC;refine⟨bP.Py _ _ t (by omega) ?_,aZ.xe _ _ t _ (by omega) l2⟩;have ql:(tZ (xG x (rZ x))).length=(xG x (rZ x)).length:=by unfold tZ;rw[afq]
   rw[ql];exact l1
  have:rZ x=0∨rZ x=1∨rZ x=2:=by omega
  rcases this with e|e|e
  ·have:=last [-x,1] (by rw[e];rfl);rw[e] at this ⊢;exact this
  ·obtain⟨a1,a2⟩:=last (ir 0 [-x,1]) (by rw[e];rfl);rw[e] at a1 a2 ⊢;refine⟨bP.uF _ _ t _ (by omega) (G.Q3 (cf 0 e) (by omega)) (by unfold ay;omega) a1,?_⟩;exact G.HD (cf 0 e) (by omega) a2
  ·obtain⟨a1,a2⟩:=last (ir 0 (ir 1 [-x,1])) (by rw[e];rfl);have c1:=(cf 1 e).next qz (by omega) (by rw[hlen];decide) (by rw[hlen];decide);rw[e] at a1 a2 ⊢;refine⟨bP.uF _ _ t _ (by omega) (G.Q3 (cf 1 e) (by omega)) (by unfold ay;omega) (bP.uF _ _ t _ (by omega) (G.Q3 c1 (by omega)) (by unfold ay;omega) a1),?_⟩;exact G.HD (cf 1 e) (by omega) (G.HD c1 (by omega) a2)
 rw[←Fy] at Q7;have Yq:∀d c,c+d=rZ x→bP.ah ((fO x).map aI) c t (.aF [pq (lZ x (rZ x)),.aC])∧aZ.ah ((fO (-x)).map aI) c t (.aF [pq (lZ x (rZ x)),vI 0]):=by
  intro d
  induction d with
  |zero =>
   intro c hc;have:c=rZ x:=by omega
   subst this;have:=Ll _ v2;exact⟨bP.cB _ _ t _ _ _ (by omega) (by omega) (by rw[bx];omega) ng2.1 o1 oo.1 Q7.1,aZ.cB _ _ t _ _ (by omega) (by omega) (by rw[bx];omega) o2 oo.2 Q7.2⟩
  |succ d ih =>intro c hc;have:=Ll c (by omega);have w1:=v4 c (by omega);have w2:=u4 c (by omega);obtain⟨i1,i2⟩:=ih (c+1) (by omega);exact⟨bP.l10 _ _ t (by omega) (by omega) (by rw[bx];omega) (by omega) i1,aZ.l10 _ _ t (by omega) (by omega) (by rw[bx];omega) (by omega) i2⟩
 obtain⟨f1,f2⟩:=Yq _ 0 (agl _);exact⟨mU.e0 t _ _ _ none lf (bP.e0 t _ _ s1 f1),aZ.e1 t _ _ _ ng.2 rfl f2⟩
end fH
end Go.Proofs.YtcpnocgollpbhaaGreatDoor.Sym
