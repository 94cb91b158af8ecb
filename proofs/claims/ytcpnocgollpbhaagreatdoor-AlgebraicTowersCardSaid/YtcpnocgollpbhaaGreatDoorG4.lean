/- Lemmas for the statements of this seat. -/
import Derived.Test.YtcpnocgollpbhaaGreatDoorG3
import Derived.Test.YtcpnocgollpbhaaGreatDoorP3
import Derived.Test.YtcpnocgollpbhaaGreatDoorG2
noncomputable section
namespace Go.Proofs.YtcpnocgollpbhaaGreatDoor.Sym
open Go Path cV
set_option linter.unusedVariables false
namespace PQ
theorem Al{k:Nat}(p:List Rat)(zp:aS p=false)(lp:p.length≤65)(hp:Fl k p)(hk:k≤68719476736):Cp 122 [pq p] (.aF [pq (ax p),.aC]):=by have:=JV.Al (p.map aI) (jy zp lp) (iT (cb hp (by omega)));rwa[gI] at this
theorem Eval{k:Nat}(p:List Rat)(x:Rat)(zp:aS p=false)(lp:p.length≤65)(hp:Fl k p)(hx:ht x≤k)(hk:k≤1073741824):Cp 139 [pq p,(aI x).pv] (.aF [(aI (evalL p x)).pv,.aC]):=by have:=JV.Eval (p.map aI) (aI x) (jy zp lp) (iT (cb hp (by omega))) (bF (afJ hx hk));rwa[gI,bI] at this
theorem QH{a b N:Nat}(ha:1≤a)(fQ:a≤b)(hN:N≤1000)(hk:4*xB a b (N+2)+10≤68719476736):∀(n i j:Nat) (p q:List Rat),q.length<n→B7 a b N i j p q→p.length≤10000→jH.ah (p.map aI) (q.map aI) (pq (b9 (lY n p q))):=by
 have hx:xB a b (N+2)=xB a b N+2*(xB a b (N+1)+1):=rfl;have x1:∀j,1≤xB a b j:=fun j=>afJ ha (dK a b fQ (i:=0) (ag0 _))
 intro n
 induction n with
 |zero=>intro i j p q hn;omega
 |succ n ih =>
  intro i j p q hn e hl;have hi:=e.idx;have AO:=e.lt;rw[lY];by_cases h:q.length=0
  ·rw[beq_iff.2 h,afz];have:=dK a b fQ (i:=i) (j:=N+1) (by omega);exact jH.cB _ _ _ (by rw[bx];omega) (BC.kR p e.zp e.hp (x1 i) hl (by omega))
  ·have fT:q≠[]:=fun e=>h (by rw[e];rfl)
   rw[iG.2 h,afP];obtain⟨r1,r2⟩:=e.rest fQ fT;have hz:=fX p q;have hlen:=e.len;have TR:=e.bound;have b1:=dK a b fQ (i:=j+(p.length-q.length)) (j:=N+1) (by omega);have hd:=BC.mW p q e.zq fT e.hp e.hq (x1 i) (x1 j) hl (by omega) (by obtain⟨j',rfl⟩:∃j',j=j'+1:=⟨j-1,by omega⟩;obtain⟨d,hd⟩:∃d,p.length-q.length=d+1:=⟨p.length-q.length-1,by omega⟩;have h2:=dK a b fQ (i:=i) (j:=j') (by omega);have h3:=u5 a b fQ j' d;have h4:=dK a b fQ (i:=j'+1+(d+1)) (j:=N+1) (by omega);have h5:=dK a b fQ (i:=j'+1) (j:=N) (by omega);rw[show p.length+1-q.length=d+2 from by omega];omega)
   have hm:=BC.kR (b8 p q) hz r1 (x1 _) (by omega) (by omega);exact jH.l10 _ _ _ _ _ (by rw[bx];omega) hd hm (ih _ _ q _ (by rw[dx hz];omega) (e.next fQ fT (r1.kR (x1 _) hz) (by rw[dx hz];exact r2) (cR _)) (by omega))
theorem SN{h b c L:Nat}(h1:1≤h)(sE:1≤b)(X4:b≤c)(hL:L≤65)(hc:h+(L+1)*(b+1)≤c)(hk:4*xB b c (L+2)+10≤68719476736)(p q:List Rat)(zp:aS p=false)(zq:aS q=false)(lp:p.length≤L)(lq:q.length≤L)(hp:Ch h p)(hq:Ch b q) :
  jH.ah (p.map aI) (q.map aI) (pq (b9 (lY (q.length+1) p q))):=by
 have e2:xB b c (L+2)=xB b c L+2*(xB b c (L+1)+1):=rfl;have e1:=dK b c X4 (i:=1) (j:=L+1) (by omega);have e0:xB b c 1=c:=rfl;have hm:(p.length+1-q.length)*(b+1)≤(L+1)*(b+1):=afw _ (by omega);rw[lY];by_cases h0:q.length=0
 ·rw[beq_iff.2 h0,afz];exact jH.cB _ _ _ (by rw[bx];omega) (BC.kR p zp hp h1 (by omega) (by omega))
 ·have fT:q≠[]:=fun e=>h0 (by rw[e];rfl)
  rw[iG.2 h0,afP];have hr:=hp.rest hq zq fT;have XV:(b8 p q).length<q.length:=(ma p zq fT).1;have hz:=fX p q;have xP:Ch c (b8 p q):=hr.mono (by omega);have hd:=BC.mW p q zq fT hp hq h1 sE (by omega) (by omega) (by omega);have hm:=BC.kR (b8 p q) hz xP (by omega) (by omega) (by omega);have hE:B7 b c L 0 1 q (b9 (b8 p q)):=⟨hq,xP.kR (by omega) hz,by omega,by rw[dx hz];exact XV,by omega,zq,cR _⟩;exact jH.l10 _ _ _ _ _ (by rw[bx];omega) hd hm (QH sE X4 (by omega) hk q.length 0 1 q _ (by rw[dx hz];exact XV) hE (by omega))
theorem Gcd{h b c L:Nat}(h1:1≤h)(sE:1≤b)(X4:b≤c)(hL:L≤65)(hc:h+(L+1)*(b+1)≤c)(hk:4*xB b c (L+2)+10≤68719476736)(p q:List Rat)(zp:aS p=false)(zq:aS q=false)(lp:p.length≤L)(lq:q.length≤L)(hp:Ch h p)(hq:Ch b q):Cp 123 [pq p,pq q] (.aF [pq (eL p q),.aC]):=by have e2:xB b c (L+2)=xB b c L+2*(xB b c (L+1)+1):=rfl;have e1:=dK b c X4 (i:=1) (j:=L+1) (by omega);have e0:xB b c 1=c:=rfl;have yV:=BC.Mu (p.map aI) (q.map aI) (xA (hp.fl h1) (by omega)) (xA (hq.fl sE) (by omega));rw[Au (jy zp (by omega)) (jy zq (by omega))] at yV;exact IL.e0 _ _ _ yV (jH.e0 _ _ (SN h1 sE X4 hL hc hk p q zp zq lp lq hp hq))
end PQ
def jU(f:List Rat)(lo hi:Rat):aW:=⟨f.map aI,qG lo hi⟩
structure Ru (f:List Rat) (lo hi:Rat):Prop where
 zf:aS f=false
 fl:Fl 1073741824 f
 ln:f.length≤10
 h1:ht lo≤1073741824
 h2:ht hi≤1073741824
theorem sC{p q:Rat}(h:p≠q):ig p q≠0:=fun e=>h (gM.1 e)
namespace HP
theorem compare{f:List Rat}{lo hi:Rat}(O:Ru f lo hi)(hle:lo≤hi){x:Rat}(hx:ht x≤1073741824):Cp 72 [(jU f lo hi).pv,(aI x).pv] (.aF [vI (Jr f lo hi x),.aC]):=by
 have h1:=O.h1;have h2:=O.h2;have c1:=QF.yE lo hi (by omega) (by omega);have c2:=QF.yE lo x (by omega) (by omega);have c3:=QF.yE x lo (by omega) (by omega);have c4:=QF.yE x hi (by omega) (by omega);unfold Jr;by_cases he:lo=hi
 ·rw[afI he];exact hJ.e0 (jU f lo hi) (aI x) _ _ c1 (gM.2 he) c2
 ·rw[afG he];by_cases k1:x≤lo
  ·rw[afI k1];exact hJ.e1 (jU f lo hi) (aI x) _ _ c1 (sC he) c3 (by rcases DX x lo with k|k|k<;>first|omega|(exfalso;grind))
  ·rw[afG k1];have k1':0<ig x lo:=by rw[yP (by grind)];omega
   by_cases k2:hi≤x
   ·rw[afI k2];exact hJ.e2 (jU f lo hi) (aI x) _ _ _ c1 (sC he) c3 k1' c4 (by rcases DX x hi with k|k|k<;>first|omega|(exfalso;grind))
   ·rw[afG k2];have hl:=O.ln;have e1:=PQ.Eval f x O.zf (by omega) O.fl hx (by omega);have e2:=PQ.Eval f lo O.zf (by omega) O.fl O.h1 (by omega);have w1:=rB f x _ O.fl hx;have w2:=rB f lo _ O.fl O.h1;have hm:f.length*(2*1073741824+1)≤10*(2*1073741824+1):=afw _ hl;exact hJ.e3 (jU f lo hi) (aI x) _ _ _ _ _ _ _ c1 (sC he) c3 k1' c4 (by rw[Js (by grind)];omega) e1 e2 (QF.Sign _ (by omega)) (QF.Sign _ (by omega)) (xD _ _)
theorem Md{f:List Rat}{lo hi:Rat}(O:Ru f lo hi)(hle:lo≤hi)(h3:ht (yQ lo hi)≤1073741824):Cp 178 [(jU f lo hi).pv] (.aF [(jU f (Jt f lo hi).1 (Jt f lo hi).2).pv,.aC]):=by
 have h1:=O.h1;have h2:=O.h2;have c1:=QF.yE lo hi (by omega) (by omega);unfold Jt;by_cases he:lo=hi
 ·rw[afI he];exact jJ.e0 (jU f lo hi) _ c1 (gM.2 he)
 ·rw[afG he];have cm:=Et.WL lo hi h1 h2 hle;have cc:=compare O hle h3;change Cp 127 [(qG lo hi).pv] (aI (yQ lo hi)).pv at cm;by_cases k0:Jr f lo hi (yQ lo hi)=0
  ·rw[afI k0];exact jJ.e1 (jU f lo hi) _ _ _ (qG (yQ lo hi) (yQ lo hi)) c1 (sC he) cm cc k0 (WK.TU _ (by omega))
  ·rw[afG k0];by_cases k1:Jr f lo hi (yQ lo hi)=1
   ·rw[afI k1];exact jJ.e2 (jU f lo hi) _ _ _ c1 (sC he) cm cc k0 k1
   ·rw[afG k1];exact jJ.e3 (jU f lo hi) _ _ _ c1 (sC he) cm cc k0 k1
end HP
theorem V6{k m:Nat}{p:List ag}(h:mX k p)(hk:k≤m):mX m p:=fun a ha=>⟨afJ (h a ha).1 hk,afJ (h a ha).2 hk⟩
theorem X5:4*xB 8 70 (6+2)+10≤68719476736:=by decide
def NU(n:Int)(b:Nat):Rat:=Rat.divInt n ((2^b:Nat):Int)
theorem two_pos(b:Nat):(0:Int)<((2^b:Nat):Int):=by have:=aiG (n:=b) (show 0<2 by omega);omega
theorem V7{n:Int}(h:n.natAbs<4294967296^4):wl n≤4:=lE h
namespace HP
theorem scaled(n:Int)(hn:wl n≤1000){b:Nat}(hb:b≤64):Cp 71 [(Sym.whole n).pv,vI (b:Int)] (.aF [(aI (NU n b)).pv,.aC]):=by
 have w2:∀t:Nat,t≤64→wl (((2^t:Nat):Int))≤4:=fun t ht=>V7 (by rw[afQ];have:2^t≤2^64:=afH (by omega) ht;omega)
 have loop:∀d t:Nat,t+d=b→iP.ah (b:Int) t (Sym.whole n) (Sym.whole ((2^t:Nat):Int)) (.aF [(aI (NU n b)).pv,.aC]):=by
  intro d
  induction d with
  |zero =>
   intro t ht;have:t=b:=by omega
   subst this;have hf:=uS.NL (Sym.whole n) (Sym.whole ((2^t:Nat):Int)) (by rw[nR];omega) (by rw[nR];have:=w2 t hb;omega) (by rw[aE];have:=two_pos t;omega);rw[aE,aE] at hf;exact iP.cB _ t _ _ _ none (by omega) hf
  |succ d ih =>intro t ht;have hw:=w2 t (by omega);have ha:=cV.Add (Sym.whole ((2^t:Nat):Int)) (Sym.whole ((2^t:Nat):Int)) (by show _≤_;rw[nR];omega) (by show _≤_;rw[nR];omega);rw[aE,show((2^t:Nat):Int)+((2^t:Nat):Int)=((2^(t+1):Nat):Int) by rw[afM];omega] at ha;exact iP.l10 _ t _ _ _ (by omega) ha (by omega) (ih (t+1) (by omega))
 exact iP.e0 (Sym.whole n) _ (Sym.whole 1) (cV.Of 1 (by unfold ay;omega)) (loop b 0 (by omega))
theorem abd{x:Rat}(hx:ht x≤1000){b:Nat}(hb:b≤64):Cp 136 [(aI x).pv,vI (b:Int)] (Sym.whole (x*twP b).floor).pv:=by
 have TB:∀t,t≤64→ht (x*twP t)≤2000:=fun t h=>by have h1:=nS x (twP t);have h2:=V4 (j:=t) (by omega);omega
 have loop:∀d t:Nat,t+d=b→ko.ah (b:Int) t (aI (x*twP t)) (Sym.whole (x*twP b).floor).pv:=by
  intro d
  induction d with
  |zero =>
   intro t h;have:t=b:=by omega
   subst this;have hh:=TB t hb;have hf:=bF hh;have:=uS.XS (aI (x*twP t)) ⟨by omega,by omega⟩;rw[bI] at this;exact ko.cB _ t _ _ (by omega) this
  |succ d ih =>intro t h;have hh:=TB t (by omega);have ha:=QF.Add (x*twP t) (x*twP t) (by omega) (by omega);rw[show x*twP t+x*twP t=x*twP (t+1) by rw[oA];grind] at ha;exact ko.l10 _ t _ _ (by omega) ha (by omega) (ih (t+1) (by omega))
 have:=loop b 0 (by omega);rw[yO,ajs] at this;exact ko.e0 _ _ this
end HP
namespace HP
theorem TV{p:List Rat}(f:dL 7 6 p)(h1:Bd p)(ok:rH 7 6):Cp 26 [pq p] (.aF [bB aW.cells ((iX 7 6 p).map (fun r=>jU (bj p) r.1 r.2)),.aC]):=by
 have hi:=Et.Ca f h1 ok;have hF:=BC.Jv f;have hlen:=Et.sA f h1 ok;have loop:∀d t:Nat,t+d=(iX 7 6 p).length→ee.ah (p.map aI) (((iX 7 6 p).take t).map (fun r=>jU (bj p) r.1 r.2)) (mkGs (iX 7 6 p)) t (.aF [bB aW.cells ((iX 7 6 p).map (fun r=>jU (bj p) r.1 r.2)),.aC]):=by
  intro d
  induction d with
  |zero =>intro t h;rw[show (iX 7 6 p).take t=iX 7 6 p from afD (by omega)];exact ee.jT _ _ _ t (by rw[nk];omega)
  |succ d ih =>
   intro t h;obtain⟨v,hv⟩:∃v,(iX 7 6 p)[t]? = some v:=⟨_,afp (by omega)⟩;have Ep:(mkGs (iX 7 6 p))[t]? = some (qG v.1 v.2):=by unfold mkGs;rw[afu,hv];rfl
   have ih:=ih (t+1) (by omega);rw[ag4,hv,agd] at ih;exact ee.l10 _ _ _ t (qG v.1 v.2) _ (by rw[nk];omega) Ep hF (by rw[afW,afq,afK,agt];omega) (by omega) ih
 exact ee.e0 _ _ hi (loop (iX 7 6 p).length 0 (agl _))
end HP
def yZ(v:ag):Bool := !v.neg&&v.num.isEmpty&&v.den.isEmpty
def NV(a:List ag):Nat→List ag
 |0=>if (a.take 1).all yZ then [] else a.take 1
 |k+1=>if ((a.take (2^(k+1))).drop (2^k)).all yZ then NV a k else a.take (2^(k+1))
theorem ve{α:Type}{p:α→Bool}{l:List α}{t:Nat}{v:α}(h:l[t]? = some v):(l.drop t).all p=(p v&&(l.drop (t+1)).all p):=by rw[drop_cons h,List.all_cons]
namespace tY
theorem FU{k:Nat}(h:k≤10):1*2^k<9223372036854775808:=by have:2^k≤2^10:=afH (by omega) h;omega
theorem level{a:List ag}{k:Nat}(hk:k≤10)(h:a.length=2^k):Cp 114 [ae a] (vI (k:Int)):=by
 have loop:∀d t:Nat,t+d=k→ct.ah a t (vI (k:Int)):=by
  intro d
  induction d with
  |zero =>
   intro t ht;have:t=k:=by omega
   subst this;exact ct.jT a t (by omega) (FU hk) (by omega) (by omega)
  |succ d ih =>intro t ht;have:2^t<2^k:=ahv (by omega) (by omega);exact ct.l10 a t (by omega) (FU (by omega)) (by omega) (by omega) (ih (t+1) (by omega))
 exact ct.e0 a (loop k 0 (by omega))
theorem FV:Cp 114 [ae []] (vI (-1)) :=
 ct.e0 [] (ct.cB [] 0 (by omega) (by decide) (by decide) (by decide))
theorem empty(a:List ag)(hl:a.length≤1000):Cp 115 [ae a] (vB (a.all yZ)):=by
 have loop:∀d t:Nat,a.length-t=d→je.ah a t (vB ((a.drop t).all yZ)):=by
  intro d
  induction d with
  |zero =>intro t hd;rw[afV (by omega)];exact je.Bz a t (by omega)
  |succ d ih =>
   intro t hd;obtain⟨v,hv⟩:∃v,a[t]? = some v:=⟨_,afp (by omega)⟩;rw[ve hv];unfold yZ;by_cases h1:v.neg=true
   ·rw[h1];exact je.l10 a t v (by omega) hv h1
   ·rw[agI] at h1;rw[h1];by_cases h2:v.num=[]
    ·rw[h2];by_cases h3:v.den=[]
     ·rw[h3];exact je.tN a t v (by omega) hv h1 (by rw[h2];simp) (by rw[h3];simp) (by omega) (ih (t+1) (by omega))
     ·rw[show v.den.isEmpty=false from by cases hh:v.den<;>simp_all];exact je.jT a t v (by omega) hv h1 (by rw[h2];simp) (afC.2 h3)
    ·rw[show v.num.isEmpty=false from by cases hh:v.num<;>simp_all];exact je.cB a t v (by omega) hv h1 (afC.2 h2)
 have:=loop _ 0 rfl;rw[agB] at this;exact je.e0 a this
theorem copied(a:List ag)(hl:a.length≤1000)(hf:mX 1073741824 a):Cp 78 [ae a] (ae a):=by
 have loop:∀d t:Nat,a.length-t=d→t≤a.length→mR.ah (a.take t) a t (ae a):=by
  intro d
  induction d with
  |zero =>intro t hd ht;rw[show a.take t=a from afD (by omega)];exact mR.cB a a t (by omega)
  |succ d ih =>intro t hd ht;obtain⟨v,hv⟩:∃v,a[t]? = some v:=⟨_,afp (by omega)⟩;have:=ih (t+1) (by omega) (by omega);rw[ag4,hv] at this;have f:=hf v (afx hv);exact mR.l10 _ a t v (by omega) hv (by rw[ahp];have:=f.1;omega) (by rw[ahp];have:=f.2;omega) (by rw[afW,afK,agt];omega) (by omega) this
 exact mR.e0 a (loop _ 0 rfl (by omega))
theorem Ay:Cp 59 [ae []] (ae []) :=
 hO.e3 [] (-1) FV (by decide) (hO.XB [] 0 [] (by omega) (by omega) (by decide) (copied [] (by decide) (by intro x h;cases h)))
theorem QI{a:List ag}{k:Nat}(hk:k≤5)(h:a.length=2^k)(hf:mX 1073741824 a):Cp 59 [ae a] (ae (NV a k)):=by
 have tk:∀n,mX 1073741824 (a.take n):=fun n x hx=>hf x (ahY hx)
 have b5:2^k≤2^5:=afH (by omega) hk;have loop:∀t:Nat,t≤k→hO.ah a (2^t) (ae (NV a t)):=by
  intro t
  induction t with
  |zero =>
   intro _;have p0:0<2^k:=agm _;have e:=empty (a.take 1) (by rw[afK];omega);unfold NV;by_cases hb:(a.take 1).all yZ=true
   ·rw[afI hb];exact hO.Bz a 1 _ (by omega) rfl (by omega) e hb
   ·rw[afG hb];exact hO.Vj a 1 _ _ (by omega) rfl (by omega) e (by rwa[agI] at hb) (by omega) (copied _ (by rw[afK];omega) (tk 1))
  |succ t ih =>
   intro ht;have le:2^(t+1)≤2^k:=afH (by omega) ht;have p0:0<2^t:=agm _;have hh:2^(t+1)/2=2^t:=by rw[afM];omega
   have h2:1<2^(t+1):=by rw[afM];omega
   have e:=empty ((a.take (2^(t+1))).drop (2^t)) (by rw[ahg,afK];omega);unfold NV;by_cases hb:((a.take (2^(t+1))).drop (2^t)).all yZ=true
   ·rw[afI hb];exact hO.l10 a _ _ h2 (by omega) (by omega) (by omega) (by rw[hh];exact e) hb (by rw[hh];exact ih (by omega))
   ·rw[afG hb];exact hO.tN a _ _ _ h2 (by omega) (by omega) (by omega) (by rw[hh];exact e) (by rwa[agI] at hb) (by omega) (copied _ (by rw[afK];omega) (tk _))
 have:=loop k (afy _);rw[←h] at this;have p0:0<2^k:=agm _;exact hO.e2 a (k:Int) (level (by omega) h) (by omega) (by omega) (by omega) this
end tY
def qH(q:List Rat):Bool:=q.all (fun x=>decide (x=0))
def wideL(q:List Rat)(n:Nat):List Rat:=q.take n++List.replicate (n-q.length) 0
def kx(p q:List Rat):List Rat:=List.zipWith (·+·) (wideL p (max p.length q.length)) (wideL q (max p.length q.length))
theorem cP(q:List Rat)(n:Nat):(wideL q n).length=n:=by unfold wideL;rw[afW,afK,agy];omega
theorem vz{α:Type}{l1 l2:List α}{v w:α}{t:Nat}(h:l1.length=t):(l1++v::l2).set t w=(l1++[w])++l2:=by subst h;simp
namespace tY
theorem zero(q:List Rat)(hl:q.length≤1000)(hf:Fl 68719476736 q):Cp 116 [pq q] (vB (qH q)):=by
 have loop:∀d t:Nat,q.length-t=d→nN.ah (q.map aI) t (vB (qH (q.drop t))):=by
  intro d
  induction d with
  |zero =>intro t hd;rw[afV (by omega)];exact nN.jT _ t (by rw[afq];omega)
  |succ d ih =>
   intro t hd;obtain⟨v,hv⟩:∃v,q[t]? = some v:=⟨_,afp (by omega)⟩;have Ep:(q.map aI)[t]? = some (aI v):=by rw[afu,hv];rfl
   have s:=QF.Sign v (hf v (afx hv));unfold qH;rw[ve hv];by_cases h0:v=0
   ·rw[ag6 h0];exact nN.cB _ t _ _ (by rw[afq];omega) Ep s (gM.2 h0) (by omega) (ih (t+1) (by omega))
   ·rw[ag5 h0];exact nN.l10 _ t _ _ (by rw[afq];omega) Ep s (fun e=>h0 (gM.1 e))
 have:=loop _ 0 rfl;rw[agB] at this;exact nN.e0 _ this
theorem minus(q:List Rat)(hl:q.length≤1000)(hf:Fl 68719476736 q):Cp 66 [pq q] (pq (q.map (- ·))):=by
 have loop:∀d t:Nat,q.length-t=d→t≤q.length→oi.ah (q.map aI) t (((q.take t).map (- ·)).map aI++List.replicate d (⟨false,[],[]⟩:ag)) (pq (q.map (- ·))):=by
  intro d
  induction d with
  |zero =>intro t hd ht;rw[show q.take t=q from afD (by omega),ai7,ahA];exact oi.cB _ t _ (by rw[afq];omega) (by simp)
  |succ d ih =>
   intro t hd ht;obtain⟨v,hv⟩:∃v,q[t]? = some v:=⟨_,afp (by omega)⟩;have Ep:(q.map aI)[t]? = some (aI v):=by rw[afu,hv];rfl
   have s:=QF.Neg v (hf v (afx hv));have:=ih (t+1) (by omega) (by omega);rw[ag4,hv] at this;refine oi.l10 _ t _ _ _ (by rw[afq];omega) Ep s (by simp;omega) (by omega) ?_;rw[List.replicate_succ,vz (by simp;omega)];simpa using this
 have:=loop _ 0 rfl (by omega);refine oi.e0 _ (by rw[afq];omega) ?_;rw[afq];simpa using this
theorem Hn(q:List Rat)(n:Nat):(q.map aI).take (min (q.map aI).length n)++(List.replicate n (⟨false,[],[]⟩:ag)).drop (min (q.map aI).length n)=(wideL q n).map aI:=by
 unfold wideL;rw[agd,ahh,aj1,ot,afq,List.drop_replicate];by_cases h:q.length≤n
 ·rw[agx h,afD (by simp),afD (by simp;omega)]
 ·rw[Nat.min_eq_right (by omega),ahR,show n-q.length=0 from by omega]
theorem wide(q:List Rat)(n:Nat)(hn:n≤1000):Cp 77 [pq q,vI (n:Int)] (pq (wideL q n)):=by have:=DA.e0 (q.map aI) (n:Int) n rfl (by omega) (by rw[agy];omega) (by rw[Hn,afq,cP]);rwa[Hn] at this
theorem Jz(q:List Rat)(n:Nat)(hn:n≤1000):au bu 77 [.pv (pq q),.pv (vI (n:Int))] [] (.row 0 0 n 3) [(0,(.pure ((((wideL q n).map aI):List ag).map ag.cells).flatten))]:=by have:=A8.e0 (q.map aI) (n:Int) n rfl (by omega) (by rw[agy];omega);rwa[Hn,afD (by rw[afq,cP];omega)] at this
end tY
theorem Cb{H:Nat}{q:List Rat}(n:Nat)(h:Fl H q)(h1:1≤H):Fl H (wideL q n):=fun x hx=>by
 unfold wideL at hx;rcases agO.1 hx with hx|hx
 ·exact h x (ahY hx)
 ·rw[(List.mem_replicate.1 hx).2];exact afJ (show ht 0≤1 by decide) h1
theorem Ho(x:Rat):yZ (aI x)=decide (x=0):=by
 by_cases h:x=0
 ·subst h;rfl
 ·rw[ag5 h];refine ah8.2 fun e=>h ?_
  apply Me;rw[ot];unfold yZ at e;rcases hm:aI x with ⟨a,b,c⟩
  rw[hm] at e;simp at e;obtain⟨⟨rfl,rfl⟩,rfl⟩:=e;rfl
namespace tY
theorem plus(p q:List Rat)(hp:p.length≤1000)(hq:q.length≤1000)(fp:Fl 68719476736 p)(fq:Fl 68719476736 q):Cp 61 [pq p,pq q] (pq (kx p q)):=by
 unfold kx;have ln:max (p.map aI).length (q.map aI).length=max p.length q.length:=by rw[afq,afq]
 generalize hn:max p.length q.length=n at *;have wx:=Jz p n (by omega);have w:=wide q n (by omega);have hA:=cP p n;have hB:=cP q n;have fA:=Cb n fp (by omega);have fB:=Cb n fq (by omega);generalize wideL p n=A at *;generalize wideL q n=B at *;have loop:∀d t:Nat,n-t=d→t≤n→qn.ah n (B.map aI) t ((List.zipWith (·+·) (A.take t) (B.take t)++A.drop t).map aI) (pq (List.zipWith (·+·) A B)):=by
  intro d
  induction d with
  |zero =>intro t hd ht;rw[show A.take t=A from afD (by omega),show B.take t=B from afD (by omega),afV (by omega),ahA];exact qn.cB n _ t _ (by omega) (by simp;omega)
  |succ d ih =>
   intro t hd ht;obtain⟨v,hv⟩:∃v,A[t]? = some v:=⟨_,afp (by omega)⟩;obtain⟨u,hu⟩:∃v,B[t]? = some v:=⟨_,afp (by omega)⟩;have hl:(List.zipWith (·+·) (A.take t) (B.take t)).length=t:=by simp;omega
   have:=ih (t+1) (by omega) (by omega);rw[ag4,ag4,hv,hu] at this;refine qn.l10 n _ t _ (aI v) (aI u) (aI (v+u)) (by omega) ?_ (by rw[afu,hu];rfl) (QF.Add v u (fA v (afx hv)) (fB u (afx hu))) (by simp;omega) (by omega) ?_
   ·rw[afu,agD (by omega),hl,ahR,agn,aha,hv];rfl
   ·rw[drop_cons hv,agd,agk,vz (by rw[afq];exact hl)];rw[List.zipWith_append (by simp;omega)] at this;simpa using this
 have:=loop _ 0 rfl (by omega);refine qn.e0 _ _ (A.map aI) n (B.map aI) (by rw[ln];exact wx) (by rw[ln];exact w) ?_;simpa using this
def QJ(p q:List Rat):List Rat:=if qH p||qH q then [] else [p.headD 0*q.headD 0]
theorem V8(t:aA)(p q:List Rat)(hp:p.length≤1)(hq:q.length≤1)(fp:Fl 68719476736 p)(fq:Fl 68719476736 q):Cp 60 [t.pv,pq p,pq q] (pq (QJ p q)):=by
 have zp:=zero p (by omega) fp;have zq:=zero q (by omega) fq;unfold QJ;by_cases h:p.length<q.length
 ·have iZ:p=[]:=afr (by omega);subst iZ;rw[show qH []=true from rfl,Bool.true_or,afI rfl];by_cases hz:qH q=true
  ·exact et.e0 t _ _ _ (by simpa using h) zq hz
  ·exact et.e1 t _ _ _ _ (by simpa using h) zq (by rwa[Bool.not_eq_true] at hz) zp rfl
 ·by_cases hz:qH p=true
  ·rw[hz,Bool.true_or,afI rfl];exact et.e5 t _ _ _ (by simpa using h) zp hz
  ·rw[agI] at hz;rw[hz,Bool.false_or];by_cases hy:qH q=true
   ·rw[afI hy];exact et.e6 t _ _ _ _ (by simpa using h) zp hz zq hy
   ·rw[afG hy];rw[agI] at hy;rcases p with _|⟨x,p⟩
    ·cases hz
    rcases q with _|⟨y,q⟩
    ·cases hy
    have e1:p=[]:=afr (by rw[afX] at hp;omega);have e2:q=[]:=afr (by rw[afX] at hq;omega);subst e1 e2;have m:=QF.Mul x y (fp x (by simp)) (fq y (by simp));exact et.e7 t [aI x] [aI y] _ _ (aI x) (aI y) (aI (x*y)) (by simp) zp hz zq hy (by simp) (by simp) (by simp) m
end tY
end Go.Proofs.YtcpnocgollpbhaaGreatDoor.Sym
namespace Go.Proofs.YtcpnocgollpbhaaGreatDoor.Sym
set_option linter.unusedVariables false
structure kS where
 f:Nat→Rat
 h:∀ε:Rat,0<ε→∃N,∀m n,N≤m→N≤n→f m-f n≤ε
namespace kS
theorem ext{a b:kS}(h:∀n,a.f n=b.f n):a=b:=by cases a;cases b;have:(fun n=>_)=(fun n=>_):=funext h;simp only[kS.mk.injEq];exact this
theorem TW(a:kS):∃B:Rat,0<B∧∃N,∀n,N≤n→a.f n≤B ∧ -B≤a.f n:=by
 obtain⟨N,hN⟩:=a.h 1 (by decide);by_cases h0:0≤a.f N
 ·exact⟨a.f N+2,by grind,N,fun n hn=>by have h1:=hN n N hn (afy _);have h2:=hN N n (afy _) hn;grind⟩
 ·exact⟨-(a.f N)+2,by grind,N,fun n hn=>by have h1:=hN n N hn (afy _);have h2:=hN N n (afy _) hn;grind⟩
theorem half{ε:Rat}(h:0<ε):0<ε/2∧ε/2+ε/2=ε:=by
 have e:ε/2+ε/2=ε:=by grind
 exact⟨by grind,e⟩
def le(a b:kS):Prop:=∀ε:Rat,0<ε→∃N,∀n,N≤n→a.f n-b.f n≤ε
theorem le_refl(a:kS):le a a:=fun ε h=>⟨0,fun n _=>by grind⟩
theorem le_trans{a b c:kS}(h1:le a b)(h2:le b c):le a c:=fun ε h=>by obtain⟨p,q⟩:=half h;obtain⟨N,hN⟩:=h1 _ p;obtain⟨M,hM⟩:=h2 _ p;exact⟨max N M,fun n hn=>by have:=hN n (by omega);have:=hM n (by omega);grind⟩
theorem le_total(a b:kS):le a b∨le b a:=by
 by_cases h:le a b
 ·exact .inl h
 ·right;unfold le at h;have h:∃ε:Rat,0<ε∧∀N,∃n,N≤n∧ε<a.f n-b.f n:=by
   apply afE;intro hn;apply h;intro ε hε;apply afE;intro hm;apply hn;refine⟨ε,hε,fun N => ?_⟩;apply afE;intro hk;apply hm;refine⟨N,fun n hn => ?_⟩;apply afE;intro hl;exact hk ⟨n,hn,by grind⟩
  obtain⟨ε,hε,hx⟩:=h;obtain⟨p,q⟩:=half hε;obtain⟨N,hN⟩:=a.h _ p;obtain⟨M,hM⟩:=b.h _ p;obtain⟨k,hk,hkx⟩:=hx (max N M);intro δ hδ;refine⟨max N M,fun n hn => ?_⟩;have h1:=hN k n (by omega) (by omega);have h2:=hM n k (by omega) (by omega);grind
instance setoid:Setoid kS where
 r a b:=le a b∧le b a
 iseqv:=⟨fun a=>⟨le_refl a,le_refl a⟩,fun h=>⟨h.2,h.1⟩,fun h k=>⟨le_trans h.1 k.1,le_trans k.2 h.2⟩⟩
def const(q:Rat):kS:=⟨fun _=>q,fun ε h=>⟨0,fun _ _ _ _=>by grind⟩⟩
def add(a b:kS):kS:=⟨fun n=>a.f n+b.f n,fun ε h=>by obtain⟨p,q⟩:=half h;obtain⟨N,hN⟩:=a.h _ p;obtain⟨M,hM⟩:=b.h _ p;exact⟨max N M,fun m n hm hn=>by have:=hN m n (by omega) (by omega);have:=hM m n (by omega) (by omega);grind⟩⟩
def neg(a:kS):kS:=⟨fun n => -(a.f n),fun ε h=>by obtain⟨N,hN⟩:=a.h _ h;exact⟨N,fun m n hm hn=>by have:=hN n m hn hm;grind⟩⟩
theorem MC{x u y v A B d e:Rat}(hA:x≤A ∧ -A≤x)(hB:v≤B ∧ -B≤v)(Rv:0<A)(Rw:0<B)(h1:y-v≤e)(tI:v-y≤e)(h2:x-u≤d)(YF:u-x≤d):x*y-u*v≤A*e+B*d:=by
 have key:∀{s t S T:Rat},s≤S → -S≤s→0<S→t≤T → -t≤T→s*t≤S*T:=by
  intro s t S T k1 k2 k3 k4 k5;by_cases h:0≤t
  ·have a1:=afF k1 h;have a2:=afN k4 (ag8 k3);grind
  ·have a1:=afF (show -s≤S by grind) (show 0 ≤ -t by grind);have a2:=afN k5 (ag8 k3);grind
 have e1:x*y-u*v=x*(y-v)+v*(x-u):=by grind
 have a1:=key hA.1 hA.2 Rv h1 (by grind);have a2:=key hB.1 hB.2 Rw h2 (by grind);rw[e1];grind
theorem scaled{A ε:Rat}(hA:0<A)(h:0<ε):∃δ:Rat,0<δ∧A*δ≤ε/2:=by
 refine⟨(ε/2)/A,?_,?_⟩
 ·rw[agW];exact ai6 (half h).1 (Rat.inv_pos.2 hA)
 ·rw[agW,Rat.mul_comm (ε/2),←aja,Rat.mul_inv_cancel _ (by grind),ahl];exact afR
def mul(a b:kS):kS:=⟨fun n=>a.f n*b.f n,fun ε h=>by obtain⟨A,Rv,NA,hA⟩:=a.TW;obtain⟨B,Rw,NB,hB⟩:=b.TW;obtain⟨e,WM,he⟩:=scaled Rv h;obtain⟨d,K3,hd⟩:=scaled Rw h;obtain⟨N,hN⟩:=a.h _ K3;obtain⟨M,hM⟩:=b.h _ WM;refine⟨max (max NA NB) (max N M),fun m n hm hn => ?_⟩;have:=MC (hA m (by omega)) (hB n (by omega)) Rv Rw (hM m n (by omega) (by omega)) (hM n m (by omega) (by omega)) (hN m n (by omega) (by omega)) (hN n m (by omega) (by omega));have:=(half h).2;grind⟩
theorem sD{a b c d:kS}(h1:le a b)(h2:le c d):le (add a c) (add b d):=fun ε h=>by obtain⟨p,q⟩:=half h;obtain⟨N,hN⟩:=h1 _ p;obtain⟨M,hM⟩:=h2 _ p;refine⟨max N M,fun n hn => ?_⟩;have:=hN n (by omega);have:=hM n (by omega);show a.f n+c.f n-(b.f n+d.f n)≤ε;grind
theorem JA{a b:kS}(h1:le a b):le (neg b) (neg a):=fun ε h=>by obtain⟨N,hN⟩:=h1 _ h;refine⟨N,fun n hn => ?_⟩;have:=hN n hn;show -(b.f n) - -(a.f n)≤ε;grind
theorem FW{a b c d:kS}(h1:le a b∧le b a)(h2:le c d∧le d c):le (mul a c) (mul b d):=fun ε h=>by obtain⟨A,Rv,NA,hA⟩:=a.TW;obtain⟨B,Rw,NB,hB⟩:=d.TW;obtain⟨e,WM,he⟩:=scaled Rv h;obtain⟨δ,K3,hd⟩:=scaled Rw h;obtain⟨N1,hN1⟩:=h1.1 _ K3;obtain⟨N2,hN2⟩:=h1.2 _ K3;obtain⟨M1,hM1⟩:=h2.1 _ WM;obtain⟨M2,hM2⟩:=h2.2 _ WM;refine⟨max (max NA NB) (max (max N1 N2) (max M1 M2)),fun n hn => ?_⟩;have:=MC (hA n (by omega)) (hB n (by omega)) Rv Rw (hM1 n (by omega)) (hM2 n (by omega)) (hN1 n (by omega)) (hN2 n (by omega));have:=(half h).2;show a.f n*c.f n-b.f n*d.f n≤ε;grind
theorem np{a b:kS}(h1:le (const 0) a)(h2:le (const 0) b):le (const 0) (mul a b):=fun ε h=>by
 obtain⟨A,Rv,NA,hA⟩:=a.TW;obtain⟨B,Rw,NB,hB⟩:=b.TW;obtain⟨e,WM,he⟩:=scaled Rv h;obtain⟨d,K3,hd⟩:=scaled Rw h;obtain⟨N,hN⟩:=h1 _ K3;obtain⟨M,hM⟩:=h2 _ WM;refine⟨max (max NA NB) (max N M),fun n hn => ?_⟩;have x1:=hN n (by omega);have y1:=hM n (by omega);have x2:=hA n (by omega);have y2:=hB n (by omega);have x1:0-a.f n≤d:=x1;have y1:0-b.f n≤e:=y1;show 0-a.f n*b.f n≤ε;have:=(half h).2;by_cases ha:0≤a.f n
 ·by_cases hb:0≤b.f n
  ·have:=ags ha hb;grind
  ·have k1:=afF x2.1 (show 0 ≤ -(b.f n) by grind);have k2:=afN (show -(b.f n)≤e by grind) (ag8 Rv);grind
 ·by_cases hb:0≤b.f n
  ·have k1:=afF y2.1 (show 0 ≤ -(a.f n) by grind);have k2:=afN (show -(a.f n)≤d by grind) (ag8 Rw);grind
  ·have:=ags (show 0 ≤ -(a.f n) by grind) (show 0 ≤ -(b.f n) by grind);grind
end kS
def R:Type:=Quotient kS.setoid
namespace R
def mk(a:kS):R:=Quotient.mk kS.setoid a
def ofQ(q:Rat):R:=mk (kS.const q)
def add:R→R→R:=Quotient.lift₂ (fun a b=>mk (kS.add a b)) (fun a b c d h k=>aiH ⟨kS.sD h.1 k.1,kS.sD h.2 k.2⟩)
def neg:R→R:=Quotient.lift (fun a=>mk (kS.neg a)) (fun a b h=>aiH ⟨kS.JA h.2,kS.JA h.1⟩)
def mul:R→R→R:=Quotient.lift₂ (fun a b=>mk (kS.mul a b)) (fun a b c d h k=>aiH ⟨kS.FW h k,kS.FW ⟨h.2,h.1⟩ ⟨k.2,k.1⟩⟩)
def le:R→R→Prop:=Quotient.lift₂ (fun a b=>kS.le a b) (fun a b c d h k=>propext ⟨fun x=>kS.le_trans h.2 (kS.le_trans x k.1),fun x=>kS.le_trans h.1 (kS.le_trans x k.2)⟩)
instance:Add R:=⟨add⟩
instance:Neg R:=⟨neg⟩
instance:Mul R:=⟨mul⟩
instance:Sub R:=⟨fun a b=>add a (neg b)⟩
instance:LE R:=⟨le⟩
instance:LT R:=⟨fun a b=>a≤b∧¬b≤a⟩
instance (n:Nat):OfNat R n:=⟨ofQ (n:Rat)⟩
instance:NatCast R:=⟨fun n=>ofQ (n:Rat)⟩
instance:IntCast R:=⟨fun n=>ofQ (n:Rat)⟩
instance:SMul Nat R:=⟨fun n a=>mul (ofQ (n:Rat)) a⟩
instance:SMul Int R:=⟨fun n a=>mul (ofQ (n:Rat)) a⟩
def pow(a:R):Nat→R
 |0=>1
 |n+1=>mul (pow a n) a
instance:HPow R Nat R:=⟨pow⟩
theorem wM{a b:kS}(h:∀n,a.f n=b.f n):mk a=mk b:=agK mk (kS.ext h)
theorem ky{p:R→Prop}(h:∀a,p (mk a)):∀x,p x:=fun x=>Quotient.ind h x
theorem vR(p q:Rat):ofQ (p+q)=ofQ p+ofQ q:=rfl
theorem y0(p q:Rat):ofQ (p*q)=ofQ p*ofQ q:=rfl
theorem Hp(p:Rat):ofQ (-p) = -ofQ p:=rfl
theorem NW(a b:R):a+b=b+a:=by
 revert a b;refine ky fun a=>ky fun b => ?_
 exact wM fun n=>Rat.add_comm _ _
theorem pA(a b:R):a*b=b*a:=by
 revert a b;refine ky fun a=>ky fun b => ?_
 exact wM fun n=>Rat.mul_comm _ _
theorem Le(a b c:R):a+b+c=a+(b+c):=by
 revert a b c;refine ky fun a=>ky fun b=>ky fun c => ?_
 exact wM fun n=>Rat.add_assoc _ _ _
theorem Lf(a b c:R):a*b*c=a*(b*c):=by
 revert a b c;refine ky fun a=>ky fun b=>ky fun c => ?_
 exact wM fun n=>aja _ _ _
theorem add_zero'(a:R):a+0=a:=by
 revert a;refine ky fun a => ?_
 exact wM fun n=>agS _
theorem JB(a:R):a*1=a:=by
 revert a;refine ky fun a => ?_
 exact wM fun n=>ajs _
theorem FX(a:R):0*a=0:=by
 revert a;refine ky fun a => ?_
 exact wM fun n=>ago _
theorem JC(a b c:R):a*(b+c)=a*b+a*c:=by
 revert a b c;refine ky fun a=>ky fun b=>ky fun c => ?_
 exact wM fun n=>Rat.mul_add _ _ _
theorem QK(a:R) : -a+a=0:=by
 revert a;refine ky fun a => ?_
 exact wM fun n=>Rat.neg_add_cancel _
instance:Lean.Grind.CommRing R where
 add_zero:=add_zero'
 add_comm:=NW
 add_assoc:=Le
 mul_assoc:=Lf
 mul_one:=JB
 mul_comm:=pA
 one_mul a:=by rw[pA];exact JB a
 left_distrib:=JC
 right_distrib a b c:=by rw[pA,JC,pA c,pA c]
 zero_mul:=FX
 mul_zero a:=by rw[pA];exact FX a
 pow_zero _:=rfl
 pow_succ _ _:=rfl
 ofNat_succ n:=agK ofQ (show ((n+1:Nat):Rat)=(n:Rat)+((1:Nat):Rat) from Rat.natCast_add n 1)
 ofNat_eq_natCast _:=rfl
 nsmul_eq_natCast_mul _ _:=rfl
 neg_add_cancel:=QK
 sub_eq_add_neg _ _:=rfl
 neg_zsmul i a:=by
  revert a;refine ky fun a => ?_
  exact wM fun n=>by show((-i:Int):Rat)*a.f n = -((i:Rat)*a.f n);rw[agX,Rat.neg_mul]
 zsmul_natCast_eq_nsmul _ _:=rfl
 intCast_ofNat _:=rfl
 intCast_neg i:=agK ofQ (agX i)
theorem NX(a b:R):a≤b∨b≤a:=by revert a b;refine ky fun a=>ky fun b=>kS.le_total a b
instance:Std.IsLinearOrder R where
 le_refl:=ky fun a=>kS.le_refl a
 le_trans:=by
  refine ky fun a=>ky fun b=>ky fun c => ?_
  exact fun h k=>kS.le_trans h k
 le_antisymm:=by
  refine ky fun a=>ky fun b => ?_
  exact fun h k=>aiH ⟨h,k⟩
 le_total:=NX
instance:Std.LawfulOrderLT R:=⟨fun _ _=>Iff.rfl⟩
theorem NY:∀a b c:R,a≤b→a+c≤b+c:=by
 refine ky fun a => ?_
 refine ky fun b => ?_
 refine ky fun c => ?_
 exact fun h=>kS.sD h (kS.le_refl c)
theorem SO:∀a b:R,0≤a→0≤b→0≤a*b:=by
 refine ky fun a => ?_
 refine ky fun b => ?_
 exact fun h1 h2=>kS.np h1 h2
theorem sD{a b:R}(c:R)(h:a≤b):a+c≤b+c:=NY a b c h
theorem np{a b:R}(h1:0≤a)(h2:0≤b):0≤a*b:=SO a b h1 h2
theorem iY{p q:Rat} : ofQ p≤ofQ q↔p≤q:=by
 constructor
 ·intro h;have h:kS.le (kS.const p) (kS.const q):=h;apply afE;intro hn;obtain⟨a,b⟩:=kS.half (show 0<p-q by grind);obtain⟨N,hN⟩:=h _ a;have:p-q≤(p-q)/2:=hN N (afy _);grind
 ·intro h;show kS.le (kS.const p) (kS.const q);exact fun ε hε=>⟨0,fun _ _=>by show p-q≤ε;grind⟩
theorem SP{a b:kS}(h:¬kS.le a b):∃ε:Rat,0<ε∧∃N,∀n,N≤n→ε≤a.f n-b.f n:=by
 have h:∃ε:Rat,0<ε∧∀N,∃n,N≤n∧ε<a.f n-b.f n:=by apply afE;intro hn;apply h;intro ε hε;apply afE;intro hm;apply hn;refine⟨ε,hε,fun N => ?_⟩;apply afE;intro hk;apply hm;refine⟨N,fun n hn => ?_⟩;apply afE;intro hl;exact hk ⟨n,hn,by grind⟩
 obtain⟨ε,hε,hx⟩:=h;obtain⟨p,q⟩:=kS.half (show 0<ε/2 from(kS.half hε).1);obtain⟨N,hN⟩:=a.h _ p;obtain⟨M,hM⟩:=b.h _ p;obtain⟨k,hk,hkx⟩:=hx (max N M);refine⟨ε/2,(kS.half hε).1,max N M,fun n hn => ?_⟩;have h1:=hN k n (by omega) (by omega);have h2:=hM n k (by omega) (by omega);grind
theorem V9:∀x:R,0<x→∃q:Rat,0<q∧ofQ q≤x:=by
 refine ky fun a h => ?_
 obtain⟨ε,h1,N,hN⟩:=SP (a:=a) (b:=kS.const 0) h.2;refine⟨ε,h1,fun δ hδ=>⟨N,fun n hn => ?_⟩⟩;have:=hN n hn;have:ε≤a.f n-0:=this;show ε-a.f n≤δ;grind
theorem QL{x:R}(h:0<x):∃q:Rat,0<q∧ofQ q≤x:=V9 x h
theorem lL{q:Rat} : (0:R)<ofQ q↔0<q:=by
 constructor
 ·intro h;apply afE;intro hn;exact h.2 (iY.2 (show q≤0 by grind))
 ·intro h;exact⟨iY.2 (ag8 h),fun h2=>by have:=iY.1 (show ofQ q≤ofQ 0 from h2);grind⟩
instance:Lean.Grind.OrderedAdd R where
 add_le_left_iff {a b} c:=by
  constructor
  ·exact sD c
  ·intro h;have:=sD (-c) h;have e1:a+c + -c=a:=by grind
   have e2:b+c + -c=b:=by grind
   rwa[e1,e2] at this
theorem nV{a b:R} : 0≤b-a↔a≤b:=by grind
theorem vS{a b:R} : ¬a≤b↔b<a:=by grind
theorem mul_pos{a b:R}(h1:0<a)(h2:0<b):0<a*b:=by
 obtain⟨p,p0,hp⟩:=QL h1;obtain⟨q,q0,hq⟩:=QL h2;have k1:=np (nV.2 hp) (nV.2 hq);have k2:=np (nV.2 hp) (lL.2 q0).1;have k3:=np (lL.2 p0).1 (nV.2 hq);have e:a*b=(a-ofQ p)*(b-ofQ q)+(a-ofQ p)*ofQ q+ofQ p*(b-ofQ q)+ofQ (p*q):=by rw[y0];grind
 have RZ:(0:R)<ofQ (p*q):=lL.2 (ai6 p0 q0);generalize (a-ofQ p)*(b-ofQ q)=x at k1 e;generalize (a-ofQ p)*ofQ q=y at k2 e;generalize ofQ p*(b-ofQ q)=z at k3 e;rw[e];grind
instance:Lean.Grind.OrderedRing R where
 zero_lt_one:=lL.2 (by decide)
 mul_lt_mul_of_pos_left {a b c} h1 h2:=by
  have h4:=mul_pos h2 (show 0<b-a by grind);have e:c*(b-a)=c*b-c*a:=by grind
  rw[e] at h4;grind
 mul_lt_mul_of_pos_right {a b c} h1 h2:=by
  have h4:=mul_pos h2 (show 0<b-a by grind);have e:c*(b-a)=b*c-a*c:=by grind
  rw[e] at h4;grind
theorem Az{p q:Rat} : ofQ p<ofQ q↔p<q:=by rw[←vS,iY];grind
theorem SQ{p q:Rat}(h:ofQ p=ofQ q):p=q:=by have h1:=iY.1 (show ofQ p≤ofQ q by rw[h];exact aic _);have h2:=iY.1 (show ofQ q≤ofQ p by rw[h];exact aic _);grind
theorem SR(p q:Rat):ofQ (p-q)=ofQ p-ofQ q:=by rw[show p-q=p + -q by grind,vR,Hp];grind
theorem gL:ofQ 0=0:=rfl
theorem Cc:ofQ 1=1:=rfl
theorem Hr:∀x:R,∃B:Rat,0<B∧x≤ofQ B∧ofQ (-B)≤x:=by
 refine ky fun a => ?_
 obtain⟨B,hB,N,hN⟩:=a.TW;refine⟨B,hB,fun ε hε=>⟨N,fun n hn => ?_⟩,fun ε hε=>⟨N,fun n hn => ?_⟩⟩
 ·have:=(hN n hn).1;show a.f n-B≤ε;grind
 ·have:=(hN n hn).2;show -B-a.f n≤ε;grind
theorem X6:∀(x:R) (ε:Rat),0<ε→∃q:Rat,x≤ofQ (q+ε)∧ofQ (q-ε)≤x:=by
 refine ky fun a ε hε => ?_
 obtain⟨N,hN⟩:=a.h ε hε;refine⟨a.f N,fun δ hδ=>⟨N,fun n hn => ?_⟩,fun δ hδ=>⟨N,fun n hn => ?_⟩⟩
 ·have:=hN n N hn (afy _);show a.f n-(a.f N+ε)≤δ;grind
 ·have:=hN N n (afy _) hn;show(a.f N-ε)-a.f n≤δ;grind
theorem Cd{x y:R}(h:x<y):∃q:Rat,x<ofQ q∧ofQ q<y:=by
 obtain⟨e,e0,he⟩:=QL (show 0<y-x by grind);obtain⟨q,h1,h2⟩:=X6 x (e/4) (by grind);refine⟨q+e/2,?_,?_⟩
 ·have:ofQ (q+e/4)<ofQ (q+e/2):=Az.2 (by grind);grind
 ·have:ofQ (q+e/2)<ofQ (q-e/4)+ofQ e:=by rw[←vR];exact Az.2 (by grind)
  grind
end R
open kS
theorem X7(x:Rat):∃N:Nat,x≤(N:Rat):=by refine⟨(x.floor+1).natAbs,?_⟩;have h1:x<((x.floor+1:Int):Rat):=Rat.lt_floor_add_one x;have h2:x.floor+1≤((x.floor+1).natAbs:Int):=Int.le_natAbs;have h3:((x.floor+1:Int):Rat)≤(((x.floor+1).natAbs:Int):Rat):=agu.2 h2;have h4:(((x.floor+1).natAbs:Int):Rat)=(((x.floor+1).natAbs:Nat):Rat):=rfl;rw[←h4];grind
def dn(n:Nat):Rat:=1/((n:Rat)+1)
theorem QM(n:Nat):dn n*((n:Rat)+1)=1:=by
 unfold dn;have h4:(0:Rat)≤(n:Rat):=by exact_mod_cast ag0 _
 rw[afT (by grind)]
theorem AA(n:Nat):0<dn n:=by
 have h4:(0:Rat)≤(n:Rat):=by exact_mod_cast ag0 _
 have e:=QM n;apply afE;intro h;have:=afF (show dn n≤0 by grind) (show 0≤(n:Rat)+1 by grind);grind
theorem JD{ε:Rat}(h:0<ε):∃N,∀n,N≤n→dn n≤ε:=by
 obtain⟨N,hN⟩:=X7 (1/ε);refine⟨N,fun n hn => ?_⟩;have e1:1/ε*ε=1:=afT (by grind);have h4:(N:Rat)≤(n:Rat):=by exact_mod_cast hn
 have h5:(0:Rat)≤(n:Rat):=by exact_mod_cast ag0 _
 have h1:=afF (show 1/ε≤(n:Rat)+1 by grind) (ag8 h);have h2:=afN h1 (ag8 (AA n));have e2:=QM n;have e3:dn n*(((n:Rat)+1)*ε)=ε:=by rw[←aja,e2,ahl]
 rw[e1,e3,ajs] at h2;exact h2
theorem JE{p:Nat→Prop}(h0:p 0):∀N,¬p N→∃n,p n∧¬p (n+1)
 |0,h=>absurd h0 h
 |N+1,h=>by
  by_cases k:p N
  ·exact⟨N,k,h⟩
  ·exact JE h0 N k
theorem JF(q e:Rat)(hq:0≤q)(he:0<e):∃r:Rat,0≤r∧r*r≤q∧q<(r+e)*(r+e):=by
 obtain⟨N,hN⟩:=X7 ((q+1)/e);have e1:(q+1)/e*e=q+1:=afT (by grind);have h1:=afF hN (ag8 he);rw[e1] at h1;obtain⟨n,a,b⟩:=JE (p:=fun n=>((n:Rat)*e)*((n:Rat)*e)≤q) (by
  show((0:Nat):Rat)*e*(((0:Nat):Rat)*e)≤q;rw[show ((0:Nat):Rat)=0 from rfl,ago,ago];exact hq) N (by
  intro h;have k1:=afN h1 (show 0≤(N:Rat)*e by grind);have k2:=afF h1 (show 0≤q+1 by grind);have k3:=ags hq hq;grind)
 have h4:(0:Rat)≤(n:Rat):=by exact_mod_cast ag0 _
 refine⟨(n:Rat)*e,ags h4 (ag8 he),a,?_⟩;have e2:(n:Rat)*e+e=((n+1:Nat):Rat)*e:=by rw[show ((n+1:Nat):Rat)=(n:Rat)+1 from by push_cast;rfl];grind
 rw[e2];exact Rat.not_le.1 b
def BE(q:Rat)(n:Nat):Rat:=if h:0≤q then Classical.choose (JF q (dn n) h (AA n)) else 0
theorem vf(q:Rat)(n:Nat):0≤BE q n∧BE q n*BE q n≤max q 0∧max q 0<(BE q n+dn n)*(BE q n+dn n):=by
 unfold BE;by_cases h:0≤q
 ·rw[dif_pos h];have:=Classical.choose_spec (JF q (dn n) h (AA n));rw[show max q 0=q from by simp only[Rat.max_def];grind];exact this
 ·rw[dif_neg h];have p:=AA n;have:=ai6 p p;rw[show max q 0=0 from by simp only[Rat.max_def];grind];grind
theorem MD{x y:Rat}(h0:0≤x)(h:x≤y):x*x≤y*y:=by have h1:=afN h h0;have h2:=afF h (show 0≤y by grind);grind
def kS.sqrt(a:kS):kS:=⟨fun n=>BE (a.f n) n,fun ε h=>by
 have p:=ai6 h h;obtain⟨M,hM⟩:=JD (half h).1;obtain⟨N,hN⟩:=a.h (ε*ε/2) (half p).1;refine⟨max M N,fun m n hm hn => ?_⟩;apply afE;intro hk;obtain⟨a1,a2,a3⟩:=vf (a.f m) m;obtain⟨b1,b2,b3⟩:=vf (a.f n) n;have d:=hM n (by omega);have dd:=AA n;have c:=hN m n (by omega) (by omega);have e1:=MD (show 0≤BE (a.f n) n+ε by grind) (show BE (a.f n) n+ε≤BE (a.f m) m by grind);have e2:=MD (show 0≤BE (a.f n) n+dn n by grind) (show BE (a.f n) n+dn n≤BE (a.f n) n+ε/2 by grind);have e3:=ags b1 (ag8 h);have c2:max (a.f m) 0-max (a.f n) 0≤ε*ε/2:=by have:=(half p).1;by_cases x:0≤a.f m<;>by_cases y:0≤a.f n<;>simp only[Rat.max_def]<;>grind
 have e4:(BE (a.f n) n+ε)*(BE (a.f n) n+ε)-(BE (a.f n) n+ε/2)*(BE (a.f n) n+ε/2)=BE (a.f n) n*ε+ε*ε*(3/4):=by grind
 grind⟩
namespace R
theorem QN:∀d:R,0≤d→∃s:R,0≤s∧s*s=d:=by
 refine ky fun a h => ?_
 have h:kS.le (kS.const 0) a:=h;refine⟨mk a.sqrt,?_,aiH ⟨?_,?_⟩⟩
 ·show kS.le (kS.const 0) a.sqrt;intro ε hε;refine⟨0,fun n _ => ?_⟩;have:=(vf (a.f n) n).1;show 0-BE (a.f n) n≤ε;grind
 ·intro ε hε;obtain⟨N,hN⟩:=h ε hε;refine⟨N,fun n hn => ?_⟩;have:=(vf (a.f n) n).2.1;have k:=hN n hn;have k:0-a.f n≤ε:=k;show BE (a.f n) n*BE (a.f n) n-a.f n≤ε;simp only[Rat.max_def] at this;grind
 ·intro ε hε;obtain⟨B,hB,M,hM⟩:=a.sqrt.TW;obtain⟨δ,aev,hδ⟩:=scaled (show 0<B+B+1 by grind) hε;obtain⟨N,hN⟩:=JD (show 0<min δ 1 by simp only[Rat.min_def];grind);refine⟨max M N,fun n hn => ?_⟩;have k1:BE (a.f n) n≤B:=(hM n (by omega)).1;have k2:=hN n (by omega);have k3:dn n≤δ∧dn n≤1:=by simp only[Rat.min_def] at k2;grind
  obtain⟨a1,a2,a3⟩:=vf (a.f n) n;have p:=AA n;show a.f n-BE (a.f n) n*BE (a.f n) n≤ε;generalize BE (a.f n) n=r at *;generalize dn n=t at *;have m1:a.f n≤max (a.f n) 0:=by simp only[Rat.max_def];grind
  have m2:=afF (show r+r+t≤B+B+1 by grind) (ag8 p);have m3:=afN k3.1 (show 0≤B+B+1 by grind);have:=(half hε).1;grind
open Classical in
def gR(x:R):Int:=if 0<x then 1 else if x<0 then -1 else 0
theorem dW(x:R):(0<x∧gR x=1)∨(x=0∧gR x=0)∨(x<0∧gR x = -1):=by
 unfold gR;by_cases h:0<x
 ·rw[afI h];exact .inl ⟨h,rfl⟩
 ·rw[afG h];by_cases k:x<0
  ·rw[afI k];exact .inr (.inr ⟨k,rfl⟩)
  ·rw[afG k];exact .inr (.inl ⟨by grind,rfl⟩)
theorem vT{x:R} : gR x=1↔0<x:=by rcases dW x with h|h|h<;>constructor<;>intro k<;>grind
theorem vV{x:R} : gR x = -1↔x<0:=by rcases dW x with h|h|h<;>constructor<;>intro k<;>grind
theorem lJ{x:R} : gR x=0↔x=0:=by rcases dW x with h|h|h<;>constructor<;>intro k<;>grind
theorem zc{x y:R}(h:x*y=0):x=0∨y=0:=by
 rcases dW x with ⟨a,_⟩|⟨a,_⟩|⟨a,_⟩
 ·rcases dW y with ⟨b,_⟩|⟨b,_⟩|⟨b,_⟩
  ·have:=mul_pos a b;grind
  ·exact .inr b
  ·have:=mul_pos a (show 0 < -y by grind);grind
 ·exact .inl a
 ·rcases dW y with ⟨b,_⟩|⟨b,_⟩|⟨b,_⟩
  ·have:=mul_pos (show 0 < -x by grind) b;grind
  ·exact .inr b
  ·have:=mul_pos (show 0 < -x by grind) (show 0 < -y by grind);grind
theorem QO{x y s d:R}(hs:0≤s)(hd:s*s=d) :
  (gR d=0→gR (x+y*s)=gR x) ∧
  (gR x=gR y∨gR y=0→gR (x+y*s)=gR x) ∧
  (gR d≠0→gR x=0→gR (x+y*s)=gR y) ∧
  (gR d≠0→gR x≠0→gR y≠0→gR x≠gR y→gR (x+y*s)=gR x*gR (x*x-y*y*d)):=by
 have d0:gR d=0→s=0:=fun h=>by have:=lJ.1 h;rw[this] at hd;rcases zc hd with h|h<;>exact h
 have d1:gR d≠0→0<s:=fun h=>by
  have h:=mt lJ.2 h;have:s≠0:=fun e=>h (by rw[←hd,e];grind)
  grind
 refine⟨fun h=>by rw[d0 h];congr 1;grind,?_,?_,?_⟩
 ·intro h;by_cases hy:y=0
  ·rw[hy];congr 1;grind
  ·have hx:gR x=gR y:=h.resolve_right (mt lJ.1 hy);rcases dW y with ⟨b,hb⟩|⟨b,_⟩|⟨b,hb⟩
   ·rw[hx,hb];have:0<x:=vT.1 (hx.trans hb);have:=np b.1 hs;exact vT.2 (by grind)
   ·exact absurd b hy
   ·rw[hx,hb];have:x<0:=vV.1 (hx.trans hb);have:=np (show 0 ≤ -y by grind) hs;exact vV.2 (by grind)
 ·intro h hx;have sp:=d1 h;rw[lJ.1 hx];rcases dW y with ⟨b,hb⟩|⟨b,hb⟩|⟨b,hb⟩
  ·rw[hb];have:=mul_pos b sp;exact vT.2 (by grind)
  ·rw[hb,b];exact lJ.2 (by grind)
  ·rw[hb];have:=mul_pos (show 0 < -y by grind) sp;exact vV.2 (by grind)
 ·intro h hx hy hn;have sp:=d1 h;have e:x*x-y*y*d=(x+y*s)*(x-y*s):=by rw[←hd];grind
  rw[e];rcases dW x with ⟨a,ha⟩|⟨a,ha⟩|⟨a,ha⟩
  ·rcases dW y with ⟨b,hb⟩|⟨b,hb⟩|⟨b,hb⟩
   ·exact absurd (ha.trans hb.symm) hn
   ·exact absurd hb hy
   ·have k:=mul_pos (show 0 < -y by grind) sp;have p:0<x-y*s:=by grind
    rw[ha,Int.one_mul];rcases dW (x+y*s) with ⟨c,hc⟩|⟨c,hc⟩|⟨c,hc⟩
    ·rw[hc];exact(vT.2 (mul_pos c p)).symm
    ·rw[hc,c];exact(lJ.2 (by grind)).symm
    ·rw[hc];have:=mul_pos (show 0 < -(x+y*s) by grind) p;exact(vV.2 (by grind)).symm
  ·exact absurd ha hx
  ·rcases dW y with ⟨b,hb⟩|⟨b,hb⟩|⟨b,hb⟩
   ·have k:=mul_pos b sp;have p:0 < -(x-y*s):=by grind
    rw[ha];rcases dW (x+y*s) with ⟨c,hc⟩|⟨c,hc⟩|⟨c,hc⟩
    ·have:=mul_pos c p;rw[hc,vV.2 (show (x+y*s)*(x-y*s)<0 by grind)];rfl
    ·rw[hc,c,lJ.2 (show (0:R)*(x-y*s)=0 by grind)];rfl
    ·have:=mul_pos (show 0 < -(x+y*s) by grind) p;rw[hc,vT.2 (show 0<(x+y*s)*(x-y*s) by grind)];rfl
   ·exact absurd hb hy
   ·exact absurd (ha.trans hb.symm) hn
end R
end Go.Proofs.YtcpnocgollpbhaaGreatDoor.Sym
namespace Go.Proofs.YtcpnocgollpbhaaGreatDoor.Sym
set_option linter.unusedVariables false
structure Tw where
 d:Rat
 e:Rat
 f:Rat
structure Q4 (T:Tw) where
 x:Rat
 y:Rat
 z:Rat
 w:Rat
namespace Q4
variable {T:Tw}
theorem ext'{a b:Q4 T}(h1:a.x=b.x)(h2:a.y=b.y)(h3:a.z=b.z)(h4:a.w=b.w):a=b:=by cases a;cases b;simp only at h1 h2 h3 h4;subst h1 h2 h3 h4;rfl
def tR(q:Rat):Q4 T:=⟨q,0,0,0⟩
instance:Add (Q4 T):=⟨fun a b=>⟨a.x+b.x,a.y+b.y,a.z+b.z,a.w+b.w⟩⟩
instance:Neg (Q4 T):=⟨fun a=>⟨-a.x, -a.y, -a.z, -a.w⟩⟩
instance:Sub (Q4 T):=⟨fun a b=>⟨a.x-b.x,a.y-b.y,a.z-b.z,a.w-b.w⟩⟩
instance:Mul (Q4 T):=⟨fun a b=>⟨
 a.x*b.x+a.y*b.y*T.d+((a.z*b.z+a.w*b.w*T.d)*T.e+(a.z*b.w+a.w*b.z)*T.f*T.d),
 a.x*b.y+a.y*b.x+((a.z*b.z+a.w*b.w*T.d)*T.f+(a.z*b.w+a.w*b.z)*T.e),
 a.x*b.z+a.y*b.w*T.d+(a.z*b.x+a.w*b.y*T.d),
 a.x*b.w+a.y*b.z+(a.z*b.y+a.w*b.x)⟩⟩
instance (n:Nat):OfNat (Q4 T) n:=⟨tR (n:Rat)⟩
instance:NatCast (Q4 T):=⟨fun n=>tR (n:Rat)⟩
instance:IntCast (Q4 T):=⟨fun n=>tR (n:Rat)⟩
instance:SMul Nat (Q4 T):=⟨fun n a=>tR (n:Rat)*a⟩
instance:SMul Int (Q4 T):=⟨fun n a=>tR (n:Rat)*a⟩
def pow(a:Q4 T):Nat→Q4 T
 |0=>1
 |n+1=>pow a n*a
instance:HPow (Q4 T) Nat (Q4 T):=⟨pow⟩
theorem kc(a b:Q4 T):(a+b).x=a.x+b.x:=rfl
theorem jM(a b:Q4 T):(a+b).y=a.y+b.y:=rfl
theorem jg(a b:Q4 T):(a+b).z=a.z+b.z:=rfl
theorem jh(a b:Q4 T):(a+b).w=a.w+b.w:=rfl
theorem D8(a:Q4 T):(-a).x = -a.x:=rfl
theorem zd(a:Q4 T):(-a).y = -a.y:=rfl
theorem wN(a:Q4 T):(-a).z = -a.z:=rfl
theorem wO(a:Q4 T):(-a).w = -a.w:=rfl
theorem TX(a b:Q4 T):(a-b).x=a.x-b.x:=rfl
theorem TY(a b:Q4 T):(a-b).y=a.y-b.y:=rfl
theorem TZ(a b:Q4 T):(a-b).z=a.z-b.z:=rfl
theorem T1(a b:Q4 T):(a-b).w=a.w-b.w:=rfl
theorem iB(a b:Q4 T):(a*b).x=a.x*b.x+a.y*b.y*T.d+((a.z*b.z+a.w*b.w*T.d)*T.e+(a.z*b.w+a.w*b.z)*T.f*T.d):=rfl
theorem im(a b:Q4 T):(a*b).y=a.x*b.y+a.y*b.x+((a.z*b.z+a.w*b.w*T.d)*T.f+(a.z*b.w+a.w*b.z)*T.e):=rfl
theorem gO(a b:Q4 T):(a*b).z=a.x*b.z+a.y*b.w*T.d+(a.z*b.x+a.w*b.y*T.d):=rfl
theorem gP(a b:Q4 T):(a*b).w=a.x*b.w+a.y*b.z+(a.z*b.y+a.w*b.x):=rfl
theorem qw:(0:Q4 T).x=0:=rfl
theorem rX:(0:Q4 T).y=0:=rfl
theorem tE:(0:Q4 T).z=0:=rfl
theorem tF:(0:Q4 T).w=0:=rfl
theorem T2:(1:Q4 T).x=1:=rfl
theorem T3:(1:Q4 T).y=0:=rfl
theorem T4:(1:Q4 T).z=0:=rfl
theorem T5:(1:Q4 T).w=0:=rfl
theorem ME(p q:Rat):(tR (p*q):Q4 T)=tR p*tR q:=by apply ext'<;>simp only[tR,iB,im,gO,gP]<;>grind
instance:Lean.Grind.CommRing (Q4 T) where
 add_zero a:=by apply ext'<;>simp only[kc,jM,jg,jh,qw,rX,tE,tF]<;>grind
 add_comm a b:=by apply ext'<;>simp only[kc,jM,jg,jh]<;>grind
 add_assoc a b c:=by apply ext'<;>simp only[kc,jM,jg,jh]<;>grind
 mul_assoc a b c:=by apply ext'<;>simp only[iB,im,gO,gP]<;>grind
 mul_one a:=by apply ext'<;>simp only[iB,im,gO,gP,T2,T3,T4,T5]<;>grind
 one_mul a:=by apply ext'<;>simp only[iB,im,gO,gP,T2,T3,T4,T5]<;>grind
 mul_comm a b:=by apply ext'<;>simp only[iB,im,gO,gP]<;>grind
 left_distrib a b c:=by apply ext'<;>simp only[iB,im,gO,gP,kc,jM,jg,jh]<;>grind
 right_distrib a b c:=by apply ext'<;>simp only[iB,im,gO,gP,kc,jM,jg,jh]<;>grind
 zero_mul a:=by apply ext'<;>simp only[iB,im,gO,gP,qw,rX,tE,tF]<;>grind
 mul_zero a:=by apply ext'<;>simp only[iB,im,gO,gP,qw,rX,tE,tF]<;>grind
 pow_zero _:=rfl
 pow_succ _ _:=rfl
 ofNat_succ n:=by
  apply ext'
  ·exact Rat.natCast_add n 1
  all_goals (show (0:Rat)=0+0;grind)
 ofNat_eq_natCast _:=rfl
 nsmul_eq_natCast_mul _ _:=rfl
 neg_add_cancel a:=by apply ext'<;>simp only[kc,jM,jg,jh,D8,zd,wN,wO,qw,rX,tE,tF]<;>grind
 sub_eq_add_neg a b:=by apply ext'<;>simp only[kc,jM,jg,jh,D8,zd,wN,wO,TX,TY,TZ,T1]<;>grind
 neg_zsmul i a:=by show tR ((-i:Int):Rat)*a = -(tR (i:Rat)*a);rw[agX];apply ext'<;>simp only[tR,iB,im,gO,gP,D8,zd,wN,wO]<;>grind
 zsmul_natCast_eq_nsmul _ _:=rfl
 intCast_ofNat _:=rfl
 intCast_neg i:=by show tR ((-i:Int):Rat) = -(tR (i:Rat));rw[agX];apply ext'<;>simp only[tR,D8,zd,wN,wO]<;>grind
end Q4
structure xE (T:Tw) where
 s:R
 u:R
 s0:0≤s
 u0:0≤u
 hs:s*s=R.ofQ T.d
 hu:u*u=R.ofQ T.e+R.ofQ T.f*s
namespace Q4
variable {T:Tw} (K:xE T)
def v(a:Q4 T):R:=R.ofQ a.x+R.ofQ a.y*K.s+(R.ofQ a.z+R.ofQ a.w*K.s)*K.u
theorem JG(a b:Q4 T):(a+b).v K=a.v K+b.v K:=by simp only[v,kc,jM,jg,jh,R.vR];grind
theorem T6(a:Q4 T):(-a).v K = -(a.v K):=by simp only[v,D8,zd,wN,wO,R.Hp];grind
theorem MF(a b:Q4 T):(a-b).v K=a.v K-b.v K:=by simp only[v,TX,TY,TZ,T1,R.SR];grind
theorem JH(q:Rat):(tR q:Q4 T).v K=R.ofQ q:=by simp only[v,tR,R.gL];grind
theorem vg(a b:Q4 T):(a*b).v K=a.v K*b.v K:=by
 have hs:=K.hs;have hu:=K.hu;simp only[v,iB,im,gO,gP,R.vR,R.y0];generalize K.s=s at *;generalize K.u=u at *;generalize R.ofQ T.d=d at *;generalize R.ofQ T.e=e at *;generalize R.ofQ T.f=f at *;generalize R.ofQ a.x=a0 at *;generalize R.ofQ a.y=a1 at *;generalize R.ofQ a.z=a2 at *;generalize R.ofQ a.w=a3 at *;generalize R.ofQ b.x=b0 at *;generalize R.ofQ b.y=b1 at *;generalize R.ofQ b.z=b2 at *;generalize R.ofQ b.w=b3 at *;subst hs;have e1:(a0+a1*s+(a2+a3*s)*u)*(b0+b1*s+(b2+b3*s)*u)=(a0+a1*s)*(b0+b1*s)+(a2+a3*s)*(b2+b3*s)*(u*u)+((a0+a1*s)*(b2+b3*s)+(a2+a3*s)*(b0+b1*s))*u:=by grind
 rw[e1,hu];grind
end Q4
end Go.Proofs.YtcpnocgollpbhaaGreatDoor.Sym
namespace Go.Proofs.YtcpnocgollpbhaaGreatDoor.Sym
set_option linter.unusedVariables false
def toQ(T:Tw)(l:List Rat):Q4 T:=⟨coef l 0,coef l 1,coef l 2,coef l 3⟩
def Lk(k:Nat)(l:List Rat):Prop:=l=[]∨∃j,j≤k∧l.length=2^j
def ET(T:Tw):Nat→Q4 T
 |0=>⟨0,1,0,0⟩
 |_+1=>⟨0,0,1,0⟩
def eV(T:Tw):Nat→List Rat
 |0=>[T.d]
 |_+1=>[T.e,T.f]
theorem lz{l:List Rat}(h:l.length=1):∃x,l=[x]:=by
 match l,h with
 |[x],_=>exact⟨x,rfl⟩
theorem QP{l:List Rat}(h:l.length=2):∃x y,l=[x,y]:=by
 match l,h with
 |[x,y],_=>exact⟨x,y,rfl⟩
theorem SS{l:List Rat}(h:l.length=4):∃x y z w,l=[x,y,z,w]:=by
 match l,h with
 |[x,y,z,w],_=>exact⟨x,y,z,w,rfl⟩
theorem Lk.mono{k m:Nat}{l:List Rat}(h:Lk k l)(hk:k≤m):Lk m l:=by
 rcases h with h|⟨j,h1,h2⟩
 ·exact .inl h
 ·exact .inr ⟨j,by omega,h2⟩
theorem Lk.zero{l:List Rat}(h:Lk 0 l):l=[]∨∃x,l=[x]:=by
 rcases h with h|⟨j,h1,h2⟩
 ·exact .inl h
 ·have:j=0:=by omega
  subst this;exact .inr (lz h2)
theorem Lk.cases{k:Nat}(hk:k≤2){l:List Rat}(h:Lk k l):l=[]∨(∃x,l=[x])∨(1≤k∧∃x y,l=[x,y])∨(2≤k∧∃x y z w,l=[x,y,z,w]):=by
 rcases h with h|⟨j,h1,h2⟩
 ·exact .inl h
 ·have:j=0∨j=1∨j=2:=by omega
  rcases this with rfl|rfl|rfl
  ·exact .inr (.inl (lz h2))
  ·exact .inr (.inr (.inl ⟨h1,QP h2⟩))
  ·exact .inr (.inr (.inr ⟨h1,SS h2⟩))
theorem Lk.len{k:Nat}(hk:k≤2){l:List Rat}(h:Lk k l):l.length≤4:=by rcases h.cases hk with rfl|⟨x,rfl⟩|⟨_,x,y,rfl⟩|⟨_,x,y,z,w,rfl⟩<;>simp
theorem Lk.le{k:Nat}{l:List Rat}(h:Lk k l):l.length≤2^k:=by
 rcases h with rfl|⟨j,h1,h2⟩
 ·exact ag0 _
 ·rw[h2];exact afH (by omega) h1
theorem Lk.low{k:Nat}{l:List Rat}(h:Lk (k+1) l)(hn:l.length≠2^(k+1)):Lk k l:=by
 rcases h with rfl|⟨j,h1,h2⟩
 ·exact .inl rfl
 ·exact .inr ⟨j,by rcases Nat.lt_or_ge j (k+1) with h|h;omega;exact absurd (by rw[h2,show j=k+1 from by omega]) hn,h2⟩
theorem Lk.nr{k:Nat}{l:List Rat}(h:l.length=2^k):Lk k l := .inr ⟨k,afy _,h⟩
theorem D9(T:Tw){j:Nat}(hj:j≤1){a:List Rat}(h:a.length=2^(j+1)):toQ T a=toQ T (a.take (2^j))+toQ T (a.drop (2^j))*ET T j:=by
 have:j=0∨j=1:=by omega
 rcases this with rfl|rfl
 ·obtain⟨x,y,rfl⟩:=QP h;apply Q4.ext'<;>simp only[Q4.kc,Q4.jM,Q4.jg,Q4.jh,Q4.iB,Q4.im,Q4.gO,Q4.gP,toQ,ET,coef]<;>simp<;>grind
 ·obtain⟨x,y,z,w,rfl⟩:=SS h;apply Q4.ext'<;>simp only[Q4.kc,Q4.jM,Q4.jg,Q4.jh,Q4.iB,Q4.im,Q4.gO,Q4.gP,toQ,ET,coef]<;>simp<;>grind
theorem pf{j:Nat}{a:List Rat}(h:a.length=2^(j+1)):Lk j (a.take (2^j))∧Lk j (a.drop (2^j))∧(a.take (2^j)).length=2^j∧(a.drop (2^j)).length=2^j:=by
 have h2:2^(j+1)=2^j+2^j:=by rw[afM];omega
 have e1:(a.take (2^j)).length=2^j:=by rw[afK];omega
 have e2:(a.drop (2^j)).length=2^j:=by rw[ahg];omega
 exact⟨.nr e1,.nr e2,e1,e2⟩
theorem Lg(T:Tw){j:Nat}(hj:j≤1){m s:List Rat}(hm:Lk j m)(hs:Lk j s):toQ T (wideL m (2^j)++wideL s (2^j))=toQ T m+toQ T s*ET T j∧(wideL m (2^j)++wideL s (2^j)).length=2^(j+1):=by
 refine⟨?_,by rw[afW,cP,cP,afM];omega⟩;have:j=0∨j=1:=by omega
 rcases this with rfl|rfl
 ·rcases hm.zero with rfl|⟨x,rfl⟩<;>rcases hs.zero with rfl|⟨y,rfl⟩ <;>
   apply Q4.ext'<;>simp only[Q4.kc,Q4.jM,Q4.jg,Q4.jh,Q4.iB,Q4.im,Q4.gO,Q4.gP,toQ,ET,coef,wideL]<;>simp<;>grind
 ·rcases hm.cases (by omega) with rfl|⟨x,rfl⟩|⟨_,x,y,rfl⟩|⟨hh,_⟩
  ·rcases hs.cases (by omega) with rfl|⟨z,rfl⟩|⟨_,z,w,rfl⟩|⟨hh,_⟩
   ·apply Q4.ext'<;>simp only[Q4.kc,Q4.jM,Q4.jg,Q4.jh,Q4.iB,Q4.im,Q4.gO,Q4.gP,toQ,ET,coef,wideL]<;>simp<;>grind
   ·apply Q4.ext'<;>simp only[Q4.kc,Q4.jM,Q4.jg,Q4.jh,Q4.iB,Q4.im,Q4.gO,Q4.gP,toQ,ET,coef,wideL]<;>simp<;>grind
   ·apply Q4.ext'<;>simp only[Q4.kc,Q4.jM,Q4.jg,Q4.jh,Q4.iB,Q4.im,Q4.gO,Q4.gP,toQ,ET,coef,wideL]<;>simp<;>grind
   ·omega
  ·rcases hs.cases (by omega) with rfl|⟨z,rfl⟩|⟨_,z,w,rfl⟩|⟨hh,_⟩
   ·apply Q4.ext'<;>simp only[Q4.kc,Q4.jM,Q4.jg,Q4.jh,Q4.iB,Q4.im,Q4.gO,Q4.gP,toQ,ET,coef,wideL]<;>simp<;>grind
   ·apply Q4.ext'<;>simp only[Q4.kc,Q4.jM,Q4.jg,Q4.jh,Q4.iB,Q4.im,Q4.gO,Q4.gP,toQ,ET,coef,wideL]<;>simp<;>grind
   ·apply Q4.ext'<;>simp only[Q4.kc,Q4.jM,Q4.jg,Q4.jh,Q4.iB,Q4.im,Q4.gO,Q4.gP,toQ,ET,coef,wideL]<;>simp<;>grind
   ·omega
  ·rcases hs.cases (by omega) with rfl|⟨z,rfl⟩|⟨_,z,w,rfl⟩|⟨hh,_⟩
   ·apply Q4.ext'<;>simp only[Q4.kc,Q4.jM,Q4.jg,Q4.jh,Q4.iB,Q4.im,Q4.gO,Q4.gP,toQ,ET,coef,wideL]<;>simp<;>grind
   ·apply Q4.ext'<;>simp only[Q4.kc,Q4.jM,Q4.jg,Q4.jh,Q4.iB,Q4.im,Q4.gO,Q4.gP,toQ,ET,coef,wideL]<;>simp<;>grind
   ·apply Q4.ext'<;>simp only[Q4.kc,Q4.jM,Q4.jg,Q4.jh,Q4.iB,Q4.im,Q4.gO,Q4.gP,toQ,ET,coef,wideL]<;>simp<;>grind
   ·omega
  ·omega
theorem Lh(T:Tw){j:Nat}(hj:j≤1):ET T j*ET T j=toQ T (eV T j):=by
 have:j=0∨j=1:=by omega
 rcases this with rfl|rfl<;>apply Q4.ext'<;>simp only[Q4.iB,Q4.im,Q4.gO,Q4.gP,toQ,ET,eV,coef]<;>simp<;>grind
theorem oB(T:Tw){j:Nat}(hj:j≤1):(eV T j).length=2^j:=by
 have:j=0∨j=1:=by omega
 rcases this with rfl|rfl<;>rfl
theorem xF(q:List Rat)(n i:Nat):coef (wideL q n) i=if i<n then coef q i else 0:=by
 unfold wideL coef;by_cases h:i<min n q.length
 ·rw[ah0 (by rw[afK];omega),agh,afI (by omega),afI (by omega)]
 ·rw[agD (by rw[afK];omega),agL,afK];by_cases h2:i<n
  ·rw[afI h2,afI (by omega),ag3 (by omega)];rfl
  ·rw[afG h2,afG (by omega)];rfl
theorem Li(p q:List Rat)(i:Nat):coef (kx p q) i=coef p i+coef q i:=by
 have e:coef (kx p q) i=coef (wideL p (max p.length q.length)) i+coef (wideL q (max p.length q.length)) i:=by
  have l1:=cP p (max p.length q.length);have l2:=cP q (max p.length q.length);unfold kx;generalize wideL p (max p.length q.length)=A at *;generalize wideL q (max p.length q.length)=B at *;unfold coef;rw[List.getElem?_zipWith];by_cases h:i<max p.length q.length
  ·rw[afp (show i<A.length by omega),afp (show i<B.length by omega)];rfl
  ·rw[ag3 (show A.length≤i by omega),ag3 (show B.length≤i by omega)];show(0:Rat)=0+0;grind
 rw[e,xF,xF];by_cases h:i<max p.length q.length
 ·rw[afI h,afI h]
 ·rw[afG h,afG h];unfold coef;rw[ag3 (by omega),ag3 (by omega)];rfl
theorem NZ(p q:List Rat):(kx p q).length=max p.length q.length:=by unfold kx;rw[List.length_zipWith,cP,cP,Nat.min_self]
theorem nt(T:Tw)(p q:List Rat):toQ T (kx p q)=toQ T p+toQ T q:=by unfold toQ;simp only[Li];rfl
theorem pg{k:Nat}{p q:List Rat}(hp:Lk k p)(hq:Lk k q):Lk k (kx p q):=by
 have hl:=NZ p q;rcases hp with rfl|⟨i,h1,h2⟩
 ·rcases hq with rfl|⟨j,k1,k2⟩
  ·exact .inl (afr (by simpa using hl))
  ·exact .inr ⟨j,k1,by rw[hl,ahN,Nat.zero_max];exact k2⟩
 ·rcases hq with rfl|⟨j,k1,k2⟩
  ·exact .inr ⟨i,h1,by rw[hl,ahN,Nat.max_zero];exact h2⟩
  ·rcases Nat.le_total i j with h|h
   ·exact .inr ⟨j,k1,by rw[hl,h2,k2];exact ajf (afH (by omega) h)⟩
   ·exact .inr ⟨i,h1,by rw[hl,h2,k2];exact ajl (afH (by omega) h)⟩
theorem QQ(q:List Rat)(i:Nat):coef (q.map (- ·)) i = -coef q i:=by
 unfold coef;rw[afu];cases q[i]? with
 |none=>show(0:Rat) = -0;grind
 |some v=>rfl
theorem wP(T:Tw)(q:List Rat):toQ T (q.map (- ·)) = -toQ T q:=by unfold toQ;simp only[QQ];rfl
theorem Ea{k:Nat}{q:List Rat}(hq:Lk k q):Lk k (q.map (- ·)):=by
 rcases hq with rfl|⟨j,k1,k2⟩
 ·exact .inl rfl
 ·exact .inr ⟨j,k1,by rw[afq];exact k2⟩
def fO{T:Tw}(a:Q4 T):List Rat:=if a.z=0∧a.w=0 then (if a.y=0 then (if a.x=0 then [] else [a.x]) else [a.x,a.y]) else [a.x,a.y,a.z,a.w]
def Lv{T:Tw} : Nat→Q4 T→Prop
 |0,a=>a.y=0∧a.z=0∧a.w=0
 |1,a=>a.z=0∧a.w=0
 |_,_=>True
theorem fN{T:Tw}(a:Q4 T):toQ T (fO a)=a:=by
 unfold fO;split
 ·rename_i h;split
  ·rename_i h1;split
   ·rename_i h2;apply Q4.ext'<;>simp[toQ,coef,h.1,h.2,h1,h2]
   ·apply Q4.ext'<;>simp[toQ,coef,h.1,h.2,h1]
  ·apply Q4.ext'<;>simp[toQ,coef,h.1,h.2]
 ·apply Q4.ext'<;>simp[toQ,coef]
theorem qx{T:Tw}{k:Nat}{a:Q4 T}(h:Lv k a):Lk k (fO a):=by
 unfold fO
 match k,h with
 |0,h =>
  obtain⟨h1,h2,h3⟩:=h;rw[afI ⟨h2,h3⟩,afI h1];split
  ·exact .inl rfl
  ·exact .inr ⟨0,afy _,rfl⟩
 |1,h =>
  obtain⟨h2,h3⟩:=h;rw[afI ⟨h2,h3⟩];split
  ·split
   ·exact .inl rfl
   ·exact .inr ⟨0,ag0 _,rfl⟩
  ·exact .inr ⟨1,afy _,rfl⟩
 |k+2,_ =>
  split
  ·split
   ·split
    ·exact .inl rfl
    ·exact .inr ⟨0,ag0 _,rfl⟩
   ·exact .inr ⟨1,by omega,rfl⟩
  ·exact .inr ⟨2,by omega,rfl⟩
theorem JI{T:Tw}{k:Nat}{l:List Rat}(h:Lk k l):Lv k (toQ T l):=by
 match k,h with
 |0,h=>rcases h.cases (by omega) with rfl|⟨x,rfl⟩|⟨hh,_⟩|⟨hh,_⟩<;>first|exact⟨rfl,rfl,rfl⟩|omega
 |1,h=>rcases h.cases (by omega) with rfl|⟨x,rfl⟩|⟨_,x,y,rfl⟩|⟨hh,_⟩<;>first|exact⟨rfl,rfl⟩|omega
 |k+2,_=>exact True.intro
theorem MG(T:Tw){k:Nat}(hk:k≤2){q:List Rat}(hq:Lk k q):qH q=true↔toQ T q=0:=by
 rcases hq.cases hk with rfl|⟨x,rfl⟩|⟨_,x,y,rfl⟩|⟨_,x,y,z,w,rfl⟩
 ·exact⟨fun _=>rfl,fun _=>rfl⟩
 ·constructor
  ·intro h;simp[qH] at h;apply Q4.ext'<;>simp[toQ,coef,h,Q4.qw,Q4.rX,Q4.tE,Q4.tF]
  ·intro h;have:=agK Q4.x h;simp[toQ,coef,Q4.qw] at this;simp[qH,this]
 ·constructor
  ·intro h;simp[qH] at h;apply Q4.ext'<;>simp[toQ,coef,h,Q4.qw,Q4.rX,Q4.tE,Q4.tF]
  ·intro h;have h1:=agK Q4.x h;have h2:=agK Q4.y h;simp[toQ,coef,Q4.qw] at h1;simp[toQ,coef,Q4.rX] at h2;simp[qH,h1,h2]
 ·constructor
  ·intro h;simp[qH] at h;apply Q4.ext'<;>simp[toQ,coef,h,Q4.qw,Q4.rX,Q4.tE,Q4.tF]
  ·intro h;have h1:=agK Q4.x h;have h2:=agK Q4.y h;have h3:=agK Q4.z h;have h4:=agK Q4.w h;simp[toQ,coef,Q4.qw] at h1;simp[toQ,coef,Q4.rX] at h2;simp[toQ,coef,Q4.tE] at h3;simp[toQ,coef,Q4.tF] at h4;simp[qH,h1,h2,h3,h4]
def Tok(T:Tw):Prop:=∃A B a b c:Int,A≠0∧B≠0∧T.d*(A:Rat)=(a:Rat)∧T.e*(B:Rat)=(b:Rat)∧T.f*(B:Rat)=(c:Rat)∧wl A≤1∧wl B≤1∧wl a≤1∧wl b≤1∧wl c≤1
def Hq{T:Tw}(h:Nat)(a:Q4 T):Prop:=∃D i j k l:Int,D≠0∧wl D≤h∧a.x*(D:Rat)=(i:Rat)∧a.y*(D:Rat)=(j:Rat)∧a.z*(D:Rat)=(k:Rat)∧a.w*(D:Rat)=(l:Rat)∧wl i≤h∧wl j≤h∧wl k≤h∧wl l≤h
theorem JJ{i j:Int}{a:Nat}(h:wl i≤a)(k:wl j≤a):wl (i+j)≤a+1:=by have:=Ad i j;omega
theorem SU{i j:Int}{a b:Nat}(h:wl i≤a)(k:wl j≤b):wl (i*j)≤a+b:=by have:=dZ i j;omega
theorem rY(h:Nat):wl 0≤h:=by rw[Qn];exact ag0 _
namespace Hq
variable {T:Tw}
theorem mono{h k:Nat}{a:Q4 T}(ha:Hq h a)(hk:h≤k):Hq k a:=by obtain⟨D,i,j,m,l,h0,h1,h2,h3,h4,h5,h6,h7,h8,h9⟩:=ha;exact⟨D,i,j,m,l,h0,by omega,h2,h3,h4,h5,by omega,by omega,by omega,by omega⟩
theorem tR{q:Rat}{h:Nat}(hq:ht q≤h):Hq h (Q4.tR q:Q4 T):=by
 have h1:=eJ q;have h2:=fC q;have hz:∀D:Int,(0:Rat)*(D:Rat)=((0:Int):Rat):=fun D=>by rw[ago];rfl
 refine⟨(q.den:Int),q.num,0,0,0,by have:=q.den_nz;omega,by omega,?_,hz _,hz _,hz _,by omega,rY _,rY _,rY _⟩;have:q=Rat.divInt q.num q.den:=(ahs q).symm;have LD:(q.den:Int)≠0:=by have:=q.den_nz;omega
 show q*_=_
 conv=>lhs;lhs;rw[this]
 rw[agi,afT (rC LD)]
theorem neg{h:Nat}{a:Q4 T}(ha:Hq h a):Hq h (-a):=by obtain⟨D,i,j,m,l,h0,h1,h2,h3,h4,h5,h6,h7,h8,h9⟩:=ha;refine⟨D, -i, -j, -m, -l,h0,h1,?_,?_,?_,?_,by rw[gn];exact h6,by rw[gn];exact h7,by rw[gn];exact h8,by rw[gn];exact h9⟩<;>simp only[Q4.D8,Q4.zd,Q4.wN,Q4.wO,Rat.intCast_neg]<;>grind
theorem add{h k:Nat}{a b:Q4 T}(ha:Hq h a)(hb:Hq k b):Hq (h+k+1) (a+b):=by
 obtain⟨D,i,j,m,l,h0,h1,h2,h3,h4,h5,h6,h7,h8,h9⟩:=ha;obtain⟨D',i',j',m',l',g0,g1,g2,g3,g4,g5,g6,g7,g8,g9⟩:=hb;have w:∀{u v:Int},wl u≤h→wl v≤k→wl (u*D'+v*D)≤h+k+1:=fun hu hv=>JJ (SU hu g1) (by have:=SU hv h1;omega)
 refine⟨D*D',i*D'+i'*D,j*D'+j'*D,m*D'+m'*D,l*D'+l'*D,aht h0 g0,by have:=SU h1 g1;omega,?_,?_,?_,?_,w h6 g6,w h7 g7,w h8 g8,w h9 g9⟩<;>simp only[Q4.kc,Q4.jM,Q4.jg,Q4.jh,Rat.intCast_add,Rat.intCast_mul]<;>grind
theorem mul{h k:Nat}(ht:Tok T){a b:Q4 T}(ha:Hq h a)(hb:Hq k b):Hq (h+k+8) (a*b):=by
 obtain⟨D,n0,n1,n2,n3,h0,h1,h2,h3,h4,h5,h6,h7,h8,h9⟩:=ha;obtain⟨D',m0,m1,m2,m3,g0,g1,g2,g3,g4,g5,g6,g7,g8,g9⟩:=hb;obtain⟨A,B,d,e,f,t0,t1,t2,t3,t4,t5,t6,t7,t8,t9⟩:=ht;have W:∀{u v p q:Int},wl u≤h→wl v≤k→wl p≤1→wl q≤1→wl (u*v*p*q)≤h+k+2:=fun a b c d=>by have:=SU (SU (SU a b) c) d;omega
 refine⟨D*D'*A*B,
  n0*m0*A*B+n1*m1*d*B+(n2*m2*A*e+n3*m3*d*e+(n2*m3*f*d+n3*m2*f*d)),
  n0*m1*A*B+n1*m0*A*B+(n2*m2*A*f+n3*m3*d*f+(n2*m3*A*e+n3*m2*A*e)),
  n0*m2*A*B+n1*m3*d*B+(n2*m0*A*B+n3*m1*d*B),
  n0*m3*A*B+n1*m2*A*B+(n2*m1*A*B+n3*m0*A*B),
  aht (aht (aht h0 g0) t0) t1,by have:=SU (SU (SU h1 g1) t5) t6;omega,?_,?_,?_,?_,?_,?_,?_,?_⟩
 ·simp only[Q4.iB,Rat.intCast_add,Rat.intCast_mul,←h2,←h3,←h4,←h5,←g2,←g3,←g4,←g5,←t2,←t3,←t4];grind
 ·simp only[Q4.im,Rat.intCast_add,Rat.intCast_mul,←h2,←h3,←h4,←h5,←g2,←g3,←g4,←g5,←t2,←t3,←t4];grind
 ·simp only[Q4.gO,Rat.intCast_add,Rat.intCast_mul,←h2,←h3,←h4,←h5,←g2,←g3,←g4,←g5,←t2];grind
 ·simp only[Q4.gP,Rat.intCast_add,Rat.intCast_mul,←h2,←h3,←h4,←h5,←g2,←g3,←g4,←g5];grind
 ·have:=JJ (Nat.le_succ_of_le (JJ (W h6 g6 t5 t6) (W h7 g7 t7 t6))) (JJ (JJ (W h8 g8 t5 t8) (W h9 g9 t7 t8)) (JJ (W h8 g9 t9 t7) (W h9 g8 t9 t7)));omega
 ·have:=JJ (Nat.le_succ_of_le (JJ (W h6 g7 t5 t6) (W h7 g6 t5 t6))) (JJ (JJ (W h8 g8 t5 t9) (W h9 g9 t7 t9)) (JJ (W h8 g9 t5 t8) (W h9 g8 t5 t8)));omega
 ·have:=JJ (JJ (W h6 g8 t5 t6) (W h7 g9 t7 t6)) (JJ (W h8 g6 t5 t6) (W h9 g7 t7 t6));omega
 ·have:=JJ (JJ (W h6 g9 t5 t6) (W h7 g8 t5 t6)) (JJ (W h8 g7 t5 t6) (W h9 g6 t5 t6));omega
theorem part{h:Nat}{a b:Q4 T}(ha:Hq h a)(hb:∀c∈[b.x,b.y,b.z,b.w],c=0∨c=a.x∨c=a.y∨c=a.z∨c=a.w):Hq h b:=by
 obtain⟨D,i,j,m,l,h0,h1,h2,h3,h4,h5,h6,h7,h8,h9⟩:=ha;have key:∀c∈[b.x,b.y,b.z,b.w],∃n:Int,c*(D:Rat)=(n:Rat)∧wl n≤h:=fun c hc=>by
  rcases hb c hc with e|e|e|e|e
  ·exact⟨0,by rw[e,ago];rfl,rY _⟩
  ·exact⟨i,by rw[e];exact h2,h6⟩
  ·exact⟨j,by rw[e];exact h3,h7⟩
  ·exact⟨m,by rw[e];exact h4,h8⟩
  ·exact⟨l,by rw[e];exact h5,h9⟩
 obtain⟨a1,b1,c1⟩:=key b.x (by simp);obtain⟨a2,b2,c2⟩:=key b.y (by simp);obtain⟨a3,b3,c3⟩:=key b.z (by simp);obtain⟨a4,b4,c4⟩:=key b.w (by simp);exact⟨D,a1,a2,a3,a4,h0,h1,b1,b2,b3,b4,c1,c2,c3,c4⟩
theorem X8{h:Nat}{l:List Rat}(ha:Hq h (toQ T l))(h1:1≤h){i:Nat}(hi:i<4):Sym.ht (coef l i)≤h:=by
 obtain⟨D,i0,j,m,l',h0,tI,h2,h3,h4,h5,h6,h7,h8,h9⟩:=ha;have:i=0∨i=1∨i=2∨i=3:=by omega
 rcases this with rfl|rfl|rfl|rfl
 ·have:=py h0 h2;exact afJ this (by omega)
 ·have:=py h0 h3;exact afJ this (by omega)
 ·have:=py h0 h4;exact afJ this (by omega)
 ·have:=py h0 h5;exact afJ this (by omega)
theorem fl{h:Nat}{l:List Rat}(ha:Hq h (toQ T l))(h1:1≤h)(hl:l.length≤4):Fl h l:=fun x hx=>by obtain⟨i,hi,e⟩:=List.mem_iff_getElem.1 hx;have:=ha.X8 h1 (i:=i) (by omega);unfold coef at this;rw[afp hi] at this;rw[←e];exact this
theorem zero{h:Nat}(h1:1≤h):Hq h (0:Q4 T):=tR (q:=0) (by rw[j9];exact h1)
theorem take{h j:Nat}{a:List Rat}(ha:Hq h (toQ T a)):Hq h (toQ T (a.take j)):=ha.part (fun c hc=>by
 have key:∀i,coef (a.take j) i=0∨coef (a.take j) i=coef a i:=fun i=>by
  unfold coef;rw[agh];split
  ·exact .inr rfl
  ·exact .inl rfl
 simp only[toQ,List.mem_cons,List.not_mem_nil,or_false] at hc ⊢;rcases hc with rfl|rfl|rfl|rfl
 ·rcases key 0 with e|e<;>rw[e]<;>simp
 ·rcases key 1 with e|e<;>rw[e]<;>simp
 ·rcases key 2 with e|e<;>rw[e]<;>simp
 ·rcases key 3 with e|e<;>rw[e]<;>simp)
theorem drop{h j:Nat}{a:List Rat}(hl:a.length≤4)(ha:Hq h (toQ T a)):Hq h (toQ T (a.drop j)):=ha.part (fun c hc=>by
 have key:∀i,coef (a.drop j) i=0∨coef (a.drop j) i=coef a 0∨coef (a.drop j) i=coef a 1∨coef (a.drop j) i=coef a 2∨coef (a.drop j) i=coef a 3:=fun i=>by
  unfold coef;rw[agn];by_cases hh:j+i<4
  ·have:j+i=0∨j+i=1∨j+i=2∨j+i=3:=by omega
   rcases this with e|e|e|e<;>rw[e]<;>simp
  ·left;rw[ag3 (by omega)];rfl
 simp only[toQ,List.mem_cons,List.not_mem_nil,or_false] at hc ⊢;rcases hc with rfl|rfl|rfl|rfl
 ·exact key 0
 ·exact key 1
 ·exact key 2
 ·exact key 3)
end Hq
theorem Tok.root{T:Tw}(h:Tok T)(j:Nat):Hq 1 (toQ T (eV T j)):=by
 obtain⟨A,B,d,e,f,t0,t1,t2,t3,t4,t5,t6,t7,t8,t9⟩:=h;have hz:∀D:Int,(0:Rat)*(D:Rat)=((0:Int):Rat):=fun D=>by rw[ago];rfl
 match j with
 |0=>exact⟨A,d,0,0,0,t0,t5,t2,hz _,hz _,hz _,t7,rY _,rY _,rY _⟩
 |j+1=>exact⟨B,e,f,0,0,t1,t6,t3,t4,hz _,hz _,t8,t9,rY _,rY _⟩
def rv{T:Tw}(K:xE T):Nat→R
 |0=>K.s
 |_+1=>K.u
theorem QS{T:Tw}(K:xE T)(j:Nat):0≤rv K j:=by
 match j with
 |0=>exact K.s0
 |j+1=>exact K.u0
theorem QT{T:Tw}(K:xE T)(j:Nat):(ET T j).v K=rv K j:=by
 match j with
 |0=>show R.ofQ 0+R.ofQ 1*K.s+(R.ofQ 0+R.ofQ 0*K.s)*K.u=K.s;rw[R.gL,R.Cc];grind
 |j+1=>show R.ofQ 0+R.ofQ 0*K.s+(R.ofQ 1+R.ofQ 0*K.s)*K.u=K.u;rw[R.gL,R.Cc];grind
theorem MH{T:Tw}(K:xE T){j:Nat}(hj:j≤1):rv K j*rv K j=(toQ T (eV T j)).v K:=by rw[←Lh T hj,Q4.vg,QT]
def lv{T:Tw}(K:xE T)(l:List Rat):R:=(toQ T l).v K
theorem Wa{T:Tw}(K:xE T){j:Nat}(hj:j≤1){a:List Rat}(h:a.length=2^(j+1)):lv K a=lv K (a.take (2^j))+lv K (a.drop (2^j))*rv K j:=by unfold lv;rw[D9 T hj h,Q4.JG,Q4.vg,QT]
theorem ze(x:R):R.gR x=1∨R.gR x=0∨R.gR x = -1:=by
 rcases R.dW x with h|h|h
 ·exact .inl h.2
 ·exact .inr (.inl h.2)
 ·exact .inr (.inr h.2)
theorem SV{T:Tw}(K:xE T){j:Nat}(hj:j≤1):R.gR (lv K (eV T j))=0∨R.gR (lv K (eV T j))=1:=by
 unfold lv;rw[←MH K hj];have:=R.np (QS K j) (QS K j);rcases R.dW (rv K j*rv K j) with h|h|h
 ·exact .inr h.2
 ·exact .inl h.2
 ·exact absurd this (by have:=h.1;grind)
theorem MI{T:Tw}(K:xE T){j:Nat}(hj:j≤1){a:List Rat}(h:a.length=2^(j+1)){x y d n:R}(hx:lv K (a.take (2^j))=x)(hy:lv K (a.drop (2^j))=y)(hd:lv K (eV T j)=d)(hn:x*x-y*y*d=n) :
  (R.gR d=0→R.gR (lv K a)=R.gR x)∧(R.gR x=R.gR y∨R.gR y=0→R.gR (lv K a)=R.gR x) ∧
  (R.gR d≠0→R.gR x=0→R.gR (lv K a)=R.gR y) ∧
  (R.gR d≠0→R.gR x≠0→R.gR y≠0→R.gR x≠R.gR y→R.gR (lv K a)=R.gR x*R.gR n):=by
 subst hn hd;rw[Wa K hj h,hx,hy];exact R.QO (QS K j) (MH K hj)
theorem X9{T:Tw}(K:xE T)(q:Rat):R.gR (lv K [q])=if q<0 then -1 else if q=0 then 0 else 1:=by
 have e:lv K [q]=R.ofQ q:=Q4.JH K q;rw[e];split
 ·rename_i h;refine R.vV.2 ?_;rw[←R.gL];exact R.Az.2 h
 ·rename_i h;split
  ·rename_i h2;rw[h2];exact R.lJ.2 R.gL
  ·rename_i h2;refine R.vT.2 (R.lL.2 ?_);grind
end Go.Proofs.YtcpnocgollpbhaaGreatDoor.Sym
namespace Go.Proofs.YtcpnocgollpbhaaGreatDoor.Sym
def evR:List Rat→R→R
 |[],_=>0
 |a::r,x=>evR r x*x+R.ofQ a
set_option linter.unusedVariables false
def oC{T:Tw} : Nat→Q4 T→Q4 T
 |0,a=>⟨a.x,0,0,0⟩
 |_+1,a=>⟨a.x,a.y,0,0⟩
def hiQ{T:Tw} : Nat→Q4 T→Q4 T
 |0,a=>⟨a.y,0,0,0⟩
 |_+1,a=>⟨a.z,a.w,0,0⟩
theorem abe{T:Tw}{k:Nat}(hk:k≤1){a:Q4 T}(h:Lv (k+1) a):a=oC k a+hiQ k a*ET T k:=by
 have:k=0∨k=1:=by omega
 rcases this with rfl|rfl
 ·have h:a.z=0∧a.w=0:=h;apply Q4.ext'<;>simp only[Q4.kc,Q4.jM,Q4.jg,Q4.jh,Q4.iB,Q4.im,Q4.gO,Q4.gP,ET,oC,hiQ,h.1,h.2]<;>grind
 ·apply Q4.ext'<;>simp only[Q4.kc,Q4.jM,Q4.jg,Q4.jh,Q4.iB,Q4.im,Q4.gO,Q4.gP,ET,oC,hiQ]<;>grind
theorem Bg{T:Tw}{k:Nat}(hk:k≤1)(a:Q4 T):Lv k (oC k a):=by
 have:k=0∨k=1:=by omega
 rcases this with rfl|rfl
 ·exact⟨rfl,rfl,rfl⟩
 ·exact⟨rfl,rfl⟩
theorem Bh{T:Tw}{k:Nat}(hk:k≤1)(a:Q4 T):Lv k (hiQ k a):=by
 have:k=0∨k=1:=by omega
 rcases this with rfl|rfl
 ·exact⟨rfl,rfl,rfl⟩
 ·exact⟨rfl,rfl⟩
theorem Lv.mul{T:Tw}{k:Nat}{a b:Q4 T}(ha:Lv k a)(hb:Lv k b):Lv k (a*b):=by
 match k,ha,hb with
 |0,ha,hb =>
  obtain⟨h1,h2,h3⟩:=ha;obtain⟨g1,g2,g3⟩:=hb;refine⟨?_,?_,?_⟩
  ·simp only[Q4.im,h1,h2,h3,g1,g2,g3];grind
  ·simp only[Q4.gO,h1,h2,h3,g1,g2,g3];grind
  ·simp only[Q4.gP,h1,h2,h3,g1,g2,g3];grind
 |1,ha,hb =>
  obtain⟨h2,h3⟩:=ha;obtain⟨g2,g3⟩:=hb;refine⟨?_,?_⟩
  ·simp only[Q4.gO,h2,h3,g2,g3];grind
  ·simp only[Q4.gP,h2,h3,g2,g3];grind
 |k+2,_,_=>exact True.intro
theorem Lv.add{T:Tw}{k:Nat}{a b:Q4 T}(ha:Lv k a)(hb:Lv k b):Lv k (a+b):=by
 match k,ha,hb with
 |0,ha,hb =>
  obtain⟨h1,h2,h3⟩:=ha;obtain⟨g1,g2,g3⟩:=hb;refine⟨?_,?_,?_⟩
  ·simp only[Q4.jM,h1,g1];grind
  ·simp only[Q4.jg,h2,g2];grind
  ·simp only[Q4.jh,h3,g3];grind
 |1,ha,hb =>
  obtain⟨h2,h3⟩:=ha;obtain⟨g2,g3⟩:=hb;refine⟨?_,?_⟩
  ·simp only[Q4.jg,h2,g2];grind
  ·simp only[Q4.jh,h3,g3];grind
 |k+2,_,_=>exact True.intro
theorem Lv.neg{T:Tw}{k:Nat}{a:Q4 T}(ha:Lv k a):Lv k (-a):=by
 match k,ha with
 |0,ha =>
  obtain⟨h1,h2,h3⟩:=ha;refine⟨?_,?_,?_⟩
  ·simp only[Q4.zd,h1];grind
  ·simp only[Q4.wN,h2];grind
  ·simp only[Q4.wO,h3];grind
 |1,ha =>
  obtain⟨h2,h3⟩:=ha;refine⟨?_,?_⟩
  ·simp only[Q4.wN,h2];grind
  ·simp only[Q4.wO,h3];grind
 |k+2,_=>exact True.intro
theorem Lv.sub{T:Tw}{k:Nat}{a b:Q4 T}(ha:Lv k a)(hb:Lv k b):Lv k (a-b):=by
 have e:a-b=a + -b:=by grind
 rw[e];exact ha.add hb.neg
theorem Lv.mono{T:Tw}{k:Nat}{a:Q4 T}(ha:Lv k a):Lv (k+1) a:=by
 match k,ha with
 |0,ha=>exact⟨ha.2.1,ha.2.2⟩
 |k+1,_=>exact True.intro
theorem Lv.zero{T:Tw}(k:Nat):Lv k (0:Q4 T):=by
 match k with
 |0=>exact⟨rfl,rfl,rfl⟩
 |1=>exact⟨rfl,rfl⟩
 |k+2=>exact True.intro
theorem Lv.one{T:Tw}(k:Nat):Lv k (1:Q4 T):=by
 match k with
 |0=>exact⟨rfl,rfl,rfl⟩
 |1=>exact⟨rfl,rfl⟩
 |k+2=>exact True.intro
theorem Hs(T:Tw){k:Nat}(hk:k≤1):Lv k (toQ T (eV T k)):=by
 have:k=0∨k=1:=by omega
 rcases this with rfl|rfl
 ·exact⟨rfl,rfl,rfl⟩
 ·exact⟨rfl,rfl⟩
def oN{T:Tw}(p:Nat→Nat→Q4 T)(i:Nat)(base:Nat→Q4 T):Nat→Nat→Q4 T
 |0,m=>base m
 |k+1,m=>if m=i+k then oN p i base k m+p i k else oN p i base k m
def nv{T:Tw}(p:Nat→Nat→Q4 T)(n:Nat):Nat→Nat→Q4 T
 |0,_=>0
 |i+1,m=>oN p i (nv p n i) n m
theorem MJ{T:Tw}{p q:Nat→Nat→Q4 T}{d:Q4 T}(i:Nat){b c:Nat→Q4 T}{e:Nat→Q4 T}(h:∀m,e m=b m-c m*d):∀k m,oN (fun i k=>p i k-q i k*d) i e k m=oN p i b k m-oN q i c k m*d
 |0,m=>h m
 |k+1,m=>by
  rw[oN,oN,oN,MJ i h k m];by_cases hm:m=i+k
  ·rw[afI hm,afI hm,afI hm];grind
  ·rw[afG hm,afG hm,afG hm]
theorem MK{T:Tw}{p q:Nat→Nat→Q4 T}{d:Q4 T}(n:Nat):∀i m,nv (fun i k=>p i k-q i k*d) n i m=nv p n i m-nv q n i m*d
 |0,m=>by rw[nv,nv,nv];grind
 |i+1,m=>MJ i (fun m=>MK n i m) n m
theorem SW{α β:Type}(g:α→β)(F:Nat→α)(N t:Nat)(v:α):((List.range N).map (fun m=>g (F m))).set t (g v)=(List.range N).map (fun m=>g (if m=t then v else F m)):=by
 apply ai3;intro i;rw[List.getElem?_set,afu,afu,afq,agZ];by_cases h:t=i
 ·subst h;rw[afI rfl];by_cases h2:t<N
  ·rw[afI h2,ahk h2];simp
  ·rw[afG h2,ag3 (by rw[agZ];omega)];rfl
 ·rw[afG h];by_cases h2:i<N
  ·rw[ahk h2];simp only[Option.map_some];rw[afG (fun e=>h e.symm)]
  ·rw[ag3 (by rw[agZ];omega)];rfl
def eC{T:Tw}(C:List (Q4 T))(i:Nat):Q4 T:=C[i]?.getD 0
def proQ{T:Tw}(k:Nat)(C:List (Q4 T))(i j:Nat):Q4 T:=oC k (eC C i)*oC k (eC C j)-hiQ k (eC C i)*hiQ k (eC C j)*toQ T (eV T k)
def ir{T:Tw}(k:Nat)(C:List (Q4 T)):List (Q4 T):=(List.range (2*C.length-1)).map (fun m=>nv (proQ k C) C.length C.length m)
def xG{T:Tw}(x:Q4 T):Nat→List (Q4 T)
 |0=>[-x,1]
 |1=>ir 0 [-x,1]
 |_=>ir 0 (ir 1 [-x,1])
theorem zh{T:Tw}(k:Nat)(a b:Q4 T):ir k [a,b]=[0+proQ k [a,b] 0 0,0+proQ k [a,b] 0 1+proQ k [a,b] 1 0,0+proQ k [a,b] 1 1]:=rfl
theorem Eb{T:Tw}(k:Nat)(a b c:Q4 T):ir k [a,b,c]=[0+proQ k [a,b,c] 0 0,0+proQ k [a,b,c] 0 1+proQ k [a,b,c] 1 0,0+proQ k [a,b,c] 0 2+proQ k [a,b,c] 1 1+proQ k [a,b,c] 2 0,0+proQ k [a,b,c] 1 2+proQ k [a,b,c] 2 1,0+proQ k [a,b,c] 2 2]:=rfl
theorem Ht{T:Tw}{k:Nat}(hk:k≤1)(C:List (Q4 T))(i j:Nat):Lv k (proQ k C i j):=((Bg hk _).mul (Bg hk _)).sub (((Bh hk _).mul (Bh hk _)).mul (Hs T hk))
theorem AB{T:Tw}{k:Nat}{p:Nat→Nat→Q4 T}(hp:∀i j,Lv k (p i j))(i:Nat){b:Nat→Q4 T}(hb:∀m,Lv k (b m)):∀n m,Lv k (oN p i b n m)
 |0,m=>hb m
 |n+1,m=>by
  rw[oN];split
  ·exact(AB hp i hb n m).add (hp _ _)
  ·exact AB hp i hb n m
theorem xH{T:Tw}{k:Nat}{p:Nat→Nat→Q4 T}(hp:∀i j,Lv k (p i j))(n:Nat):∀i m,Lv k (nv p n i m)
 |0,m=>Lv.zero k
 |i+1,m=>AB hp i (fun m=>xH hp n i m) n m
theorem Ce{T:Tw}{k:Nat}(hk:k≤1)(C:List (Q4 T)):∀a∈ir k C,Lv k a:=fun a ha=>by obtain⟨m,_,rfl⟩:=agj.1 ha;exact xH (Ht hk C) _ _ _
theorem zi{T:Tw}(k:Nat)(C:List (Q4 T)):(ir k C).length=2*C.length-1:=by unfold ir;rw[afq,agZ]
def N0{T:Tw}(K:xE T):List (Q4 T)→R→R
 |[],_=>0
 |a::r,X=>N0 K r X*X+a.v K
theorem zj{T:Tw}(K:xE T){k:Nat}(hk:k≤1){a:Q4 T}(h:Lv (k+1) a):a.v K=(oC k a).v K+(hiQ k a).v K*rv K k:=by
 conv=>lhs;rw[abe hk h]
 rw[Q4.JG,Q4.vg,QT]
theorem Hu{T:Tw}(K:xE T):(0:Q4 T).v K=0:=by have:=Q4.JH K 0;rw[R.gL] at this;exact this
theorem Ya{T:Tw}(K:xE T):(1:Q4 T).v K=1:=by have:=Q4.JH K 1;rw[R.Cc] at this;exact this
theorem Bi{T:Tw}(K:xE T){k:Nat}(hk:k≤1){a b:Q4 T}(ha:Lv (k+1) a)(hb:Lv (k+1) b){X:R}(h:N0 K [a,b] X=0):N0 K (ir k [a,b]) X=0:=by
 rw[zh];simp only[N0] at h ⊢;rw[zj K hk ha,zj K hk hb] at h;simp only[proQ,eC,Q4.JG,Q4.MF,Q4.vg,Hu,List.getElem?_cons_zero,List.getElem?_cons_succ,Option.getD_some];have hr:=MH K hk;generalize (toQ T (eV T k)).v K=d at *;generalize rv K k=r at *;generalize (oC k a).v K=a0 at *;generalize (hiQ k a).v K=a1 at *;generalize (oC k b).v K=b0 at *;generalize (hiQ k b).v K=b1 at *;have e:((a0+b0*X)-(a1+b1*X)*r)*(((0*X+(b0+b1*r))*X+(a0+a1*r)))=0:=by rw[h];grind
 rw[←hr];grind
theorem EU{T:Tw}(K:xE T){k:Nat}(hk:k≤1){a b c:Q4 T}(ha:Lv (k+1) a)(hb:Lv (k+1) b)(hc:Lv (k+1) c){X:R}(h:N0 K [a,b,c] X=0):N0 K (ir k [a,b,c]) X=0:=by
 rw[Eb];simp only[N0] at h ⊢;rw[zj K hk ha,zj K hk hb,zj K hk hc] at h;simp only[proQ,eC,Q4.JG,Q4.MF,Q4.vg,Hu,List.getElem?_cons_zero,List.getElem?_cons_succ,Option.getD_some];have hr:=MH K hk;generalize (toQ T (eV T k)).v K=d at *;generalize rv K k=r at *;generalize (oC k a).v K=a0 at *;generalize (hiQ k a).v K=a1 at *;generalize (oC k b).v K=b0 at *;generalize (hiQ k b).v K=b1 at *;generalize (oC k c).v K=c0 at *;generalize (hiQ k c).v K=c1 at *;have e:((a0+b0*X+c0*X*X)-(a1+b1*X+c1*X*X)*r)*(((0*X+(c0+c1*r))*X+(b0+b1*r))*X+(a0+a1*r))=0:=by rw[h];grind
 rw[←hr];grind
theorem Wb{T:Tw}(k:Nat):oC k (1:Q4 T)=1:=by
 match k with
 |0=>rfl
 |k+1=>rfl
theorem Wc{T:Tw}(k:Nat):hiQ k (1:Q4 T)=0:=by
 match k with
 |0=>rfl
 |k+1=>rfl
theorem Hv{T:Tw}(k:Nat)(C:List (Q4 T))(i:Nat)(h:eC C i=1):0+proQ k C i i=1:=by unfold proQ;rw[h,Wb,Wc];grind
theorem SX{T:Tw}(K:xE T){L:Nat}(hL:L≤2){x:Q4 T}(hx:Lv L x):N0 K (xG x L) (x.v K)=0:=by
 have e0:N0 K [-x,1] (x.v K)=0:=by simp only[N0,Q4.T6,Ya];grind
 have:L=0∨L=1∨L=2:=by omega
 rcases this with rfl|rfl|rfl
 ·exact e0
 ·exact Bi K (by omega) hx.neg (Lv.one 1) e0
 ·have e1:=Bi K (k:=1) (by omega) hx.neg (Lv.one 2) e0;have hl:=Ce (T:=T) (k:=1) (by omega) [-x,1];show N0 K (ir 0 (ir 1 [-x,1])) _=0;rw[zh] at e1 hl ⊢;exact EU K (by omega) (hl _ (by simp)) (hl _ (by simp)) (hl _ (by simp)) e1
theorem AD{T:Tw}{L:Nat}(hL:L≤2){x:Q4 T}(hx:Lv L x):(xG x L).length=2^L+1∧(∀a∈xG x L,Lv 0 a)∧eC (xG x L) (2^L)=1:=by
 have:L=0∨L=1∨L=2:=by omega
 rcases this with rfl|rfl|rfl
 ·refine⟨rfl,fun a ha => ?_,rfl⟩;simp only[xG,List.mem_cons,List.not_mem_nil,or_false] at ha;rcases ha with rfl|rfl
  ·exact hx.neg
  ·exact Lv.one 0
 ·refine⟨rfl,Ce (by omega) _,?_⟩;show eC (ir 0 [-x,1]) 2=1;rw[zh];exact Hv 0 [-x,1] 1 rfl
 ·refine⟨rfl,Ce (by omega) _,?_⟩;show eC (ir 0 (ir 1 [-x,1])) 4=1;have e:=Hv 1 [-x,1] 1 rfl;rw[zh,Eb];exact Hv 0 _ 2 e
def lZ{T:Tw}(x:Q4 T)(L:Nat):List Rat:=(xG x L).map (fun a=>a.x)
theorem Yb{T:Tw}(K:xE T){a:Q4 T}(h:Lv 0 a):a.v K=R.ofQ a.x:=by obtain⟨h1,h2,h3⟩:=h;unfold Q4.v;rw[h1,h2,h3,R.gL];grind
theorem ML{T:Tw}(K:xE T)(X:R):∀(l:List (Q4 T)),(∀a∈l,Lv 0 a)→evR (l.map (fun a=>a.x)) X=N0 K l X
 |[],_=>rfl
 |a::r,h=>by rw[agk,evR,N0,ML K X r (fun b hb=>h b (ag9 _ hb)),Yb K (h a (agA ..))]
theorem SY{T:Tw}(K:xE T){L:Nat}(hL:L≤2){x:Q4 T}(hx:Lv L x):evR (lZ x L) (x.v K)=0:=by unfold lZ;rw[ML K _ _ (AD hL hx).2.1];exact SX K hL hx
theorem Ec{T:Tw}{L:Nat}(hL:L≤2){x:Q4 T}(hx:Lv L x):(lZ x L).length=2^L+1∧coef (lZ x L) (2^L)=1:=by
 obtain⟨h1,h2,h3⟩:=AD hL hx;refine⟨by unfold lZ;rw[afq];exact h1,?_⟩;unfold eC at h3;unfold lZ coef;rw[afu];cases h:(xG x L)[2^L]? with
 |none=>rw[ahW] at h;omega
 |some v =>rw[h] at h3;have h3:v=1:=h3;rw[h3];rfl
def Dn{T:Tw}(D N:Nat)(a:Q4 T):Prop:=∃i j k l:Int,a.x*(((D:Nat):Int):Rat)=(i:Rat)∧a.y*(((D:Nat):Int):Rat)=(j:Rat)∧a.z*(((D:Nat):Int):Rat)=(k:Rat)∧a.w*(((D:Nat):Int):Rat)=(l:Rat)∧i.natAbs≤N∧j.natAbs≤N∧k.natAbs≤N∧l.natAbs≤N
structure Oi (T:Tw) (A B:Nat):Prop where
 a0:A≠0
 b0:B≠0
 a1:A≤10^3
 b1:B≤10^6
 d:∃n:Int,T.d*(((A:Nat):Int):Rat)=(n:Rat)∧n.natAbs≤10^3
 e:∃n:Int,T.e*(((B:Nat):Int):Rat)=(n:Rat)∧n.natAbs≤10^6
 f:∃n:Int,T.f*(((B:Nat):Int):Rat)=(n:Rat)∧n.natAbs≤10^6
theorem QU{n:Int}(h:n.natAbs≤10^6):wl n≤1:=lE (ah5 h (by decide))
theorem Oi.tok{T:Tw}{A B:Nat}(h:Oi T A B):Tok T:=by obtain⟨a,a1,a2⟩:=h.d;obtain⟨b,b1,b2⟩:=h.e;obtain⟨c,c1,c2⟩:=h.f;have:=h.a0;have:=h.b0;have:=h.a1;have:=h.b1;exact⟨(A:Int),(B:Int),a,b,c,by omega,by omega,a1,b1,c1,QU (by omega),QU (by omega),QU (by omega),QU b2,QU c2⟩
namespace Dn
variable {T:Tw}
theorem mono{D N M:Nat}{a:Q4 T}(h:Dn D N a)(hN:N≤M):Dn D M a:=by obtain⟨i,j,k,l,h1,h2,h3,h4,h5,h6,h7,h8⟩:=h;exact⟨i,j,k,l,h1,h2,h3,h4,by omega,by omega,by omega,by omega⟩
theorem zero(D:Nat):Dn D 0 (0:Q4 T):=by
 have hz:(0:Rat)*(((D:Nat):Int):Rat)=((0:Int):Rat):=by rw[ago];rfl
 exact⟨0,0,0,0,hz,hz,hz,hz,afy _,afy _,afy _,afy _⟩
theorem neg{D N:Nat}{a:Q4 T}(h:Dn D N a):Dn D N (-a):=by obtain⟨i,j,k,l,h1,h2,h3,h4,h5,h6,h7,h8⟩:=h;refine⟨-i, -j, -k, -l,?_,?_,?_,?_,by omega,by omega,by omega,by omega⟩<;>simp only[Q4.D8,Q4.zd,Q4.wN,Q4.wO,Rat.intCast_neg]<;>grind
theorem add{D N M:Nat}{a b:Q4 T}(h:Dn D N a)(g:Dn D M b):Dn D (N+M) (a+b):=by obtain⟨i,j,k,l,h1,h2,h3,h4,h5,h6,h7,h8⟩:=h;obtain⟨i',j',k',l',g1,g2,g3,g4,g5,g6,g7,g8⟩:=g;refine⟨i+i',j+j',k+k',l+l',?_,?_,?_,?_,by omega,by omega,by omega,by omega⟩<;>simp only[Q4.kc,Q4.jM,Q4.jg,Q4.jh,Rat.intCast_add]<;>grind
theorem sub{D N M:Nat}{a b:Q4 T}(h:Dn D N a)(g:Dn D M b):Dn D (N+M) (a-b):=by
 have e:a-b=a + -b:=by grind
 rw[e];exact h.add g.neg
theorem scale{D N:Nat}{a:Q4 T}(h:Dn D N a)(c:Nat):Dn (D*c) (N*c) a:=by
 obtain⟨i,j,k,l,h1,h2,h3,h4,h5,h6,h7,h8⟩:=h;have w:∀{u:Int},u.natAbs≤N→(u*(c:Int)).natAbs≤N*c:=fun hu=>by rw[agw];exact ag7 hu (by omega)
 refine⟨i*c,j*c,k*c,l*c,?_,?_,?_,?_,w h5,w h6,w h7,w h8⟩<;>rw[agf,ag2,ag2]<;>grind
theorem ab4{u v p q:Int}{N M P Q:Nat}(h1:u.natAbs≤N)(h2:v.natAbs≤M)(h3:p.natAbs≤P)(h4:q.natAbs≤Q):(u*v*p*q).natAbs≤N*M*(P*Q):=by rw[agw,agw,agw,afZ (u.natAbs*v.natAbs)];exact ag7 (ag7 h1 h2) (ag7 h3 h4)
theorem mul{D N D' M A B:Nat}(t:Oi T A B){a b:Q4 T}(h:Dn D N a)(g:Dn D' M b):Dn (D*D'*A*B) (6000000000*(N*M)) (a*b):=by
 obtain⟨n0,n1,n2,n3,h2,h3,h4,h5,h6,h7,h8,h9⟩:=h;obtain⟨m0,m1,m2,m3,g2,g3,g4,g5,g6,g7,g8,g9⟩:=g;obtain⟨d,t2,t7⟩:=t.d;obtain⟨e,t3,t8⟩:=t.e;obtain⟨f,t4,t9⟩:=t.f;have t5:((A:Nat):Int).natAbs≤10^3:=by have:=t.a1;omega
 have t6:((B:Nat):Int).natAbs≤10^6:=by have:=t.b1;omega
 generalize hP:N*M=P;have W:∀{u v p q:Int},u.natAbs≤N→v.natAbs≤M→p.natAbs≤10^3→q.natAbs≤10^6→(u*v*p*q).natAbs≤P*1000000000:=fun a b c d=>by have:=ab4 a b c d;rw[hP] at this;exact this
 have W':∀{u v p q:Int},u.natAbs≤N→v.natAbs≤M→p.natAbs≤10^6→q.natAbs≤10^3→(u*v*p*q).natAbs≤P*1000000000:=fun a b c d=>by have:=ab4 a b c d;rw[hP] at this;exact this
 refine⟨
  n0*m0*A*B+n1*m1*d*B+(n2*m2*A*e+n3*m3*d*e+(n2*m3*f*d+n3*m2*f*d)),
  n0*m1*A*B+n1*m0*A*B+(n2*m2*A*f+n3*m3*d*f+(n2*m3*A*e+n3*m2*A*e)),
  n0*m2*A*B+n1*m3*d*B+(n2*m0*A*B+n3*m1*d*B),
  n0*m3*A*B+n1*m2*A*B+(n2*m1*A*B+n3*m0*A*B),?_,?_,?_,?_,?_,?_,?_,?_⟩
 ·simp only[Q4.iB,Int.natCast_mul,Rat.intCast_add,Rat.intCast_mul,←h2,←h3,←h4,←h5,←g2,←g3,←g4,←g5,←t2,←t3,←t4];grind
 ·simp only[Q4.im,Int.natCast_mul,Rat.intCast_add,Rat.intCast_mul,←h2,←h3,←h4,←h5,←g2,←g3,←g4,←g5,←t2,←t3,←t4];grind
 ·simp only[Q4.gO,Int.natCast_mul,Rat.intCast_add,Rat.intCast_mul,←h2,←h3,←h4,←h5,←g2,←g3,←g4,←g5,←t2];grind
 ·simp only[Q4.gP,Int.natCast_mul,Rat.intCast_add,Rat.intCast_mul,←h2,←h3,←h4,←h5,←g2,←g3,←g4,←g5];grind
 ·have a1:=W h6 g6 t5 t6;have a2:=W h7 g7 t7 t6;have a3:=W h8 g8 t5 t8;have a4:=W h9 g9 t7 t8;have a5:=W' h8 g9 t9 t7;have a6:=W' h9 g8 t9 t7;omega
 ·have a1:=W h6 g7 t5 t6;have a2:=W h7 g6 t5 t6;have a3:=W h8 g8 t5 t9;have a4:=W h9 g9 t7 t9;have a5:=W h8 g9 t5 t8;have a6:=W h9 g8 t5 t8;omega
 ·have a1:=W h6 g8 t5 t6;have a2:=W h7 g9 t7 t6;have a3:=W h8 g6 t5 t6;have a4:=W h9 g7 t7 t6;omega
 ·have a1:=W h6 g9 t5 t6;have a2:=W h7 g8 t5 t6;have a3:=W h8 g7 t5 t6;have a4:=W h9 g6 t5 t6;omega
theorem lo{D N:Nat}{a:Q4 T}(h:Dn D N a)(k:Nat):Dn D N (oC k a):=by
 obtain⟨i,j,m,l,h1,h2,h3,h4,h5,h6,h7,h8⟩:=h;have hz:(0:Rat)*(((D:Nat):Int):Rat)=((0:Int):Rat):=by rw[ago];rfl
 match k with
 |0=>exact⟨i,0,0,0,h1,hz,hz,hz,h5,ag0 _,ag0 _,ag0 _⟩
 |k+1=>exact⟨i,j,0,0,h1,h2,hz,hz,h5,h6,ag0 _,ag0 _⟩
theorem hi{D N:Nat}{a:Q4 T}(h:Dn D N a)(k:Nat):Dn D N (hiQ k a):=by
 obtain⟨i,j,m,l,h1,h2,h3,h4,h5,h6,h7,h8⟩:=h;have hz:(0:Rat)*(((D:Nat):Int):Rat)=((0:Int):Rat):=by rw[ago];rfl
 match k with
 |0=>exact⟨j,0,0,0,h2,hz,hz,hz,h6,ag0 _,ag0 _,ag0 _⟩
 |k+1=>exact⟨m,l,0,0,h3,h4,hz,hz,h7,h8,ag0 _,ag0 _⟩
theorem root{A B:Nat}(t:Oi T A B)(k:Nat):∃C,C≠0∧C≤10^6∧Dn C (10^6) (toQ T (eV T k)):=by
 obtain⟨d,t2,t7⟩:=t.d;obtain⟨e,t3,t8⟩:=t.e;obtain⟨f,t4,t9⟩:=t.f;have a1:=t.a1
 match k with
 |0 =>
  have hz:(0:Rat)*(((A:Nat):Int):Rat)=((0:Int):Rat):=by rw[ago];rfl
  exact⟨A,t.a0,by omega,d,0,0,0,t2,hz,hz,hz,by omega,ag0 _,ag0 _,ag0 _⟩
 |k+1 =>
  have hz:(0:Rat)*(((B:Nat):Int):Rat)=((0:Int):Rat):=by rw[ago];rfl
  exact⟨B,t.b0,t.b1,e,f,0,0,t3,t4,hz,hz,t8,t9,ag0 _,ag0 _⟩
end Dn
theorem Lj{T:Tw}{D M N:Nat}{p:Nat→Nat→Q4 T}(hp:∀i j,Dn D N (p i j))(i:Nat){b:Nat→Q4 T}(hb:∀m,Dn D M (b m)):∀n m,Dn D (M+n*N) (oN p i b n m)
 |0,m=>by rw[ait];exact hb m
 |n+1,m=>by
  have e:M+(n+1)*N=M+n*N+N:=by rw[ahb];omega
  rw[oN,e];split
  ·exact(Lj hp i hb n m).add (hp _ _)
  ·exact(Lj hp i hb n m).mono (by omega)
theorem QV{T:Tw}{D N:Nat}{p:Nat→Nat→Q4 T}(hp:∀i j,Dn D N (p i j))(n:Nat):∀i m,Dn D (i*(n*N)) (nv p n i m)
 |0,m=>by rw[ait];exact Dn.zero D
 |i+1,m=>by rw[ahb];exact Lj hp i (fun m=>QV hp n i m) n m
theorem Hw{T:Tw}{A B D N:Nat}(t:Oi T A B)(hD:D≠0)(k:Nat){C:List (Q4 T)}(hC:∀a∈C,Dn D N a):∃E,E≠0∧E≤D*D*10^24∧∀a∈ir k C,Dn E (C.length*(C.length*(N*N*(42*10^24)))) a:=by
 obtain⟨c,c0,c1,hc⟩:=Dn.root t k;have g:∀i,Dn D N (eC C i):=fun i=>by
  unfold eC;cases h:C[i]? with
  |none=>exact(Dn.zero D).mono (ag0 _)
  |some v=>exact hC v (afx h)
 have p:∀i j,Dn (D*D*A*B*c*A*B) (N*N*(42*10^24)) (proQ k C i j):=fun i j=>by
  have h1:=(((g i).lo k).mul t ((g j).lo k)).scale (c*A*B);have h2:=(((g i).hi k).mul t ((g j).hi k)).mul t hc;have e:D*D*A*B*(c*A*B)=D*D*A*B*c*A*B:=by simp only[Nat.mul_assoc]
  rw[e] at h1;have h3:=h1.sub h2;refine h3.mono ?_;generalize N*N=P;have w:c*A*B≤10^6*10^3*10^6:=ag7 (ag7 c1 t.a1) t.b1;have w2:6000000000*P*(c*A*B)≤6000000000*P*(10^6*10^3*10^6):=afO _ w;have w3:6000000000*P*(10^6*10^3*10^6)+6000000000*(6000000000*P*10^6)=P*(42*10^24):=by grind
  rw[←w3];exact Nat.add_le_add_right w2 _
 refine⟨D*D*A*B*c*A*B,?_,?_,fun a ha => ?_⟩
 ·exact ahu (ahu (ahu (ahu (ahu (ahu hD hD) t.a0) t.b0) c0) t.a0) t.b0
 ·have:=ag7 (ag7 (ag7 (ag7 (ag7 (afy (D*D)) t.a1) t.b1) c1) t.a1) t.b1;generalize D*D=P at this ⊢;have e:P*10^3*10^6*10^6*10^3*10^6=P*10^24:=by grind
  rw[e] at this;exact this
 ·obtain⟨m,_,rfl⟩:=agj.1 ha;exact QV p _ _ _
theorem Wd{T:Tw}{A B D:Nat}(t:Oi T A B)(hD:D≠0)(Oj:D≤10^12){x:Q4 T}(hx:Dn D (10^12) x){L:Nat}(hL:L≤2):∃E,E≠0∧E≤10^128∧∀a∈xG x L,Dn E (10^128) a:=by
 have hz:(0:Rat)*(((D:Nat):Int):Rat)=((0:Int):Rat):=by rw[ago];rfl
 have c0:∀a∈([-x,1]:List (Q4 T)),Dn D (10^12) a:=fun a ha=>by
  simp only[List.mem_cons,List.not_mem_nil,or_false] at ha;rcases ha with rfl|rfl
  ·exact hx.neg
  ·exact⟨(D:Int),0,0,0,ahl _,hz,hz,hz,by omega,ag0 _,ag0 _,ag0 _⟩
 have:L=0∨L=1∨L=2:=by omega
 rcases this with rfl|rfl|rfl
 ·exact⟨D,hD,afJ Oj (by decide),fun a ha=>(c0 a ha).mono (by decide)⟩
 ·obtain⟨E,e0,e1,e2⟩:=Hw t hD 0 c0;rw[show ([-x,1]:List (Q4 T)).length=2 from rfl] at e2;refine⟨E,e0,afJ e1 (afJ (afw _ (ag7 Oj Oj)) (by decide)),fun a ha=>(e2 a ha).mono (by decide)⟩
 ·obtain⟨E,e0,e1,e2⟩:=Hw t hD 1 c0;rw[show ([-x,1]:List (Q4 T)).length=2 from rfl] at e2;obtain⟨F,f0,f1,f2⟩:=Hw t e0 0 e2;have e3:E≤10^48:=afJ e1 (afJ (afw _ (ag7 Oj Oj)) (by decide));refine⟨F,f0,afJ f1 (afJ (afw _ (ag7 e3 e3)) (by decide)),fun a ha=>(f2 a ha).mono ?_⟩;rw[zi,show([-x,1]:List (Q4 T)).length=2 from rfl];decide
end Go.Proofs.YtcpnocgollpbhaaGreatDoor.Sym
namespace Go.Proofs.YtcpnocgollpbhaaGreatDoor.Sym
open Go Path cV
set_option linter.unusedVariables false
def Rt(t:aA)(T:Tw)(n:Nat):Prop:=n≤2∧∀j,j<n→t.roots[j]? = some ((eV T j).map aI)
theorem dE(a:List Rat)(k:Nat):(a.map aI).take k=(a.take k).map aI:=by rw[ahh]
theorem dF(a:List Rat)(k:Nat):(a.map aI).drop k=(a.drop k).map aI:=by rw[aiR]
theorem T7(T:Tw){q:List Rat}{k:Nat}(hk:k≤2)(h:q.length=2^k):NV (q.map aI) k=(fO (toQ T q)).map aI:=by
 have:k=0∨k=1∨k=2:=by omega
 rcases this with rfl|rfl|rfl
 ·obtain⟨x,rfl⟩:=lz h;simp only[NV,fO,toQ,coef];by_cases hx:x=0<;>simp[Ho,hx]
 ·obtain⟨x,y,rfl⟩:=QP h;simp only[NV,fO,toQ,coef];by_cases hx:x=0<;>by_cases hy:y=0<;>simp[Ho,hx,hy]
 ·obtain⟨x,y,z,w,rfl⟩:=SS h;simp only[NV,fO,toQ,coef];by_cases hx:x=0<;>by_cases hy:y=0<;>by_cases hz:z=0<;>by_cases hw:w=0<;>simp[Ho,hx,hy,hz,hw]
theorem Ed{T:Tw} : fO (0:Q4 T)=[]:=by simp[fO,Q4.qw,Q4.rX,Q4.tE,Q4.tF]
theorem MM{T:Tw} : fO (toQ T [])=[]:=Ed
theorem We{T:Tw}{p q:List Rat}(hp:p.length≤1)(hq:q.length≤1):Lk 0 (tY.QJ p q)∧toQ T (tY.QJ p q)=toQ T p*toQ T q:=by
 have z:∀{l:List Rat},l.length≤1→Lk 0 l:=fun {l} h=>by
  match l,h with
  |[],_=>exact .inl rfl
  |[x],_=>exact .inr ⟨0,afy _,rfl⟩
 have z0:toQ T []=0:=rfl;unfold tY.QJ;by_cases h1:qH p=true
 ·rw[h1,Bool.true_or,afI rfl];have:=(MG T (by omega) (z hp)).1 h1;refine⟨.inl rfl,?_⟩;rw[this,z0];grind
 ·by_cases h2:qH q=true
  ·rw[h2,Bool.or_true,afI rfl];have:=(MG T (by omega) (z hq)).1 h2;refine⟨.inl rfl,?_⟩;rw[this,z0];grind
  ·rw[agI] at h1 h2;rw[h1,h2];rcases(z hp).zero with rfl|⟨x,rfl⟩
   ·cases h1
   ·rcases(z hq).zero with rfl|⟨y,rfl⟩
    ·cases h2
    ·exact⟨.inr ⟨0,afy _,rfl⟩,Q4.ME x y⟩
namespace tY
variable {T:Tw}
theorem kz{q:List Rat}{h k:Nat}(hk:k≤2)(hl:Lk k q)(hq:Hq h (toQ T q))(h1:1≤h)(h2:h≤1073741824):Cp 59 [pq q] (pq (fO (toQ T q))):=by
 rcases hl with rfl|⟨j,j1,j2⟩
 ·rw[MM];exact Ay
 ·have:=QI (a:=q.map aI) (k:=j) (by omega) (by rw[afq];exact j2) (iT (cb (hq.fl h1 (Lk.len hk (.inr ⟨j,j1,j2⟩))) h2));rwa[T7 T (by omega) j2] at this
theorem T8(m s:List Rat)(n:Nat)(hn:n≤1000):Cp 118 [pq m,pq s,vI (n:Int)] (pq (wideL m n++wideL s n)):=by have:=DB.e0 (m.map aI) (s.map aI) (n:Int) ((wideL m n).map aI) n ((wideL s n).map aI) (Jz m n hn) (wide s n hn) (by rw[afq,cP]) (by rw[afW,afq,afq,cP,cP];omega);unfold pq;rwa[agd]
theorem tG(ht:Tok T){t:aA}{n:Nat}(hr:Rt t T n):∀k,k≤n→∀(a b:List Rat) (h h':Nat),Lk k a→Lk k b→Hq h (toQ T a)→Hq h' (toQ T b)→1≤h→1≤h'→h+h'+32*k+32≤34359738368 →
  ∃r,Cp 60 [t.pv,pq a,pq b] (pq r)∧Lk k r∧toQ T r=toQ T a*toQ T b:=by
 intro k
 induction k with
 |zero =>intro hk a b h h' la lb ha hb h1 tI hs;have l1:a.length≤1:=la.le;have l2:b.length≤1:=lb.le;have fa:Fl 68719476736 a:=cb (ha.fl h1 (by omega)) (by omega);have fb:Fl 68719476736 b:=cb (hb.fl tI (by omega)) (by omega);exact⟨_,V8 t a b l1 l2 fa fb,We l1 l2⟩
 |succ k ih =>
  intro hk a b h h' la lb ha hb h1 tI hs;have hn:=hr.1;have ih:=ih (by omega);have z0:toQ T []=0:=rfl;by_cases yC:a.length≠2^(k+1)∧b.length≠2^(k+1)
  ·obtain⟨r,r1,r2,r3⟩:=ih a b h h' (la.low yC.1) (lb.low yC.2) ha hb h1 tI (by omega);exact⟨r,r1,r2.mono (by omega),r3⟩
  have p2:2^(k+1)=2^k+2^k:=by rw[afM];omega
  have p0:0<2^k:=agm _;have p4:2^(k+1)≤2^2:=afH (by omega) (by omega);have la4:=la.len (by omega);have lb4:=lb.len (by omega);have za:=zero a (by omega) (cb (ha.fl h1 la4) (by omega));have zb:=zero b (by omega) (cb (hb.fl tI lb4) (by omega));have zqa:=MG T (by omega) la;have zqb:=MG T (by omega) lb;have core:∀(A B:List Rat) (g g':Nat),A.length=2^(k+1)→Lk (k+1) B→Hq g (toQ T A)→Hq g' (toQ T B)→1≤g→1≤g'→g+g'+32*k+64≤34359738368 →
    (B.length≤2^k→∃u v,Cp 60 [t.pv,pq (A.take (2^k)),pq B] (pq u)∧Cp 60 [t.pv,pq (A.drop (2^k)),pq B] (pq v)∧Cp 118 [pq u,pq v,vI ((2^k:Nat):Int)] (pq (wideL u (2^k)++wideL v (2^k)))∧(wideL u (2^k)++wideL v (2^k)).length=2^(k+1)∧toQ T (wideL u (2^k)++wideL v (2^k))=toQ T A*toQ T B) ∧
    (B.length=2^(k+1)→∃i j l m n p s,Cp 60 [t.pv,pq (A.take (2^k)),pq (B.take (2^k))] (pq i)∧Cp 60 [t.pv,pq (A.drop (2^k)),pq (B.drop (2^k))] (pq j)∧Cp 60 [t.pv,pq j,pq (eV T k)] (pq l)∧Cp 61 [pq i,pq l] (pq m)∧Cp 60 [t.pv,pq (A.take (2^k)),pq (B.drop (2^k))] (pq n)∧Cp 60 [t.pv,pq (A.drop (2^k)),pq (B.take (2^k))] (pq p)∧Cp 61 [pq n,pq p] (pq s)∧Cp 118 [pq m,pq s,vI ((2^k:Nat):Int)] (pq (wideL m (2^k)++wideL s (2^k)))∧(wideL m (2^k)++wideL s (2^k)).length=2^(k+1)∧toQ T (wideL m (2^k)++wideL s (2^k))=toQ T A*toQ T B):=fun A B g g' hA lB qA qB g1 O0 gs=>by
   obtain⟨hx,hy,_,_⟩:=pf hA;have eA:=D9 T (show k≤1 by omega) hA;have xq:=qA.take (j:=2^k);have yq:=qA.drop (j:=2^k) (by omega);refine⟨fun hB => ?_,fun hB => ?_⟩
   ·have lB':Lk k B:=lB.low (by omega);obtain⟨u,u1,u2,u3⟩:=ih _ B g g' hx lB' xq qB g1 O0 (by omega);obtain⟨v,v1,v2,v3⟩:=ih _ B g g' hy lB' yq qB g1 O0 (by omega);obtain⟨j1,j2⟩:=Lg T (show k≤1 by omega) u2 v2;refine⟨u,v,u1,v1,T8 u v (2^k) (by omega),j2,?_⟩;rw[j1,u3,v3,eA];grind
   ·obtain⟨hu,hv,_,_⟩:=pf hB;have eB:=D9 T (show k≤1 by omega) hB;have uq:=qB.take (j:=2^k);have vq:=qB.drop (j:=2^k) (by omega);obtain⟨i,i1,i2,i3⟩:=ih _ _ g g' hx hu xq uq g1 O0 (by omega);obtain⟨j,j1,j2,j3⟩:=ih _ _ g g' hy hv yq vq g1 O0 (by omega);have jq:Hq (g+g'+8) (toQ T j):=by rw[j3];exact Hq.mul ht yq vq
    have iq:Hq (g+g'+8) (toQ T i):=by rw[i3];exact Hq.mul ht xq uq
    obtain⟨l,l1,l2,l3⟩:=ih _ (eV T k) (g+g'+8) 1 j2 (.nr (oB T (by omega))) jq (ht.root k) (by omega) (by omega) (by omega);have lq:Hq (g+g'+8+1+8) (toQ T l):=by rw[l3];exact Hq.mul (h:=g+g'+8) (k:=1) ht jq (ht.root k)
    obtain⟨n,n1,n2,n3⟩:=ih _ _ g g' hx hv xq vq g1 O0 (by omega);obtain⟨p,w1,w2,w3⟩:=ih _ _ g g' hy hu yq uq g1 O0 (by omega);have nq:Hq (g+g'+8) (toQ T n):=by rw[n3];exact Hq.mul ht xq vq
    have wq:Hq (g+g'+8) (toQ T p):=by rw[w3];exact Hq.mul ht yq uq
    have m1:=plus i l (by have:=i2.len (by omega);omega) (by have:=l2.len (by omega);omega) (cb (iq.fl (by omega) (i2.len (by omega))) (by omega)) (cb (lq.fl (by omega) (l2.len (by omega))) (by omega));have s1:=plus n p (by have:=n2.len (by omega);omega) (by have:=w2.len (by omega);omega) (cb (nq.fl (by omega) (n2.len (by omega))) (by omega)) (cb (wq.fl (by omega) (w2.len (by omega))) (by omega));obtain⟨q1,q2⟩:=Lg T (show k≤1 by omega) (pg i2 l2) (pg n2 w2);refine⟨i,j,l,_,n,p,_,i1,j1,l1,m1,n1,w1,s1,T8 _ _ (2^k) (by omega),q2,?_⟩;rw[q1,nt,nt,i3,l3,j3,n3,w3,eA,eB,←Lh T (show k≤1 by omega)];grind
  have oX:=hr.2 k (by omega);by_cases dI:a.length<b.length
  ·have hB:b.length=2^(k+1):=afE fun e=>yC ⟨fun e2=>by have:=lb.le;omega,e⟩
   have hm:(a.map aI).length<(b.map aI).length:=by rw[bx,bx];exact dI
   by_cases hzb:qH b=true
   ·exact⟨[],et.e0 t _ _ _ hm zb hzb,.inl rfl,by rw[z0,zqb.1 hzb];grind⟩
   rw[agI] at hzb;by_cases hza:qH a=true
   ·exact⟨[],et.e1 t _ _ _ _ hm zb hzb za hza,.inl rfl,by rw[z0,zqa.1 hza];grind⟩
   rw[agI] at hza;have hh:(b.map aI).length/2=2^k:=by rw[bx,hB,p2];omega
   have sE:(b.map aI).length≠1:=by rw[bx];omega
   have Fv:(b.map aI).length=2^(k+1):=by rw[bx];exact hB
   have C9:(a.map aI).length=a.length:=bx _;obtain⟨c1,_⟩:=core b a h' h hB la hb ha tI h1 (by omega);have Yc:a.length≤2^k:=by
    rcases la with rfl|⟨i,i1,i2⟩
    ·exact ag0 _
    ·have:i≤k:=by
      refine Nat.not_lt.1 fun hh => ?_
      have:i=k+1:=by omega
      rw[this] at i2;omega
     rw[i2];exact afH (by omega) this
   obtain⟨u,v,u1,v1,j1,j2,j3⟩:=c1 Yc;refine⟨_,?_,.nr j2,by rw[j3];grind⟩;exact et.e3 t _ _ _ _ (u.map aI) (v.map aI) _ hm zb hzb za hza sE (by omega) (by omega) (by omega) (by rw[hh,C9];exact Yc) (by rw[hh,dE];exact u1) (by rw[hh,dF];exact v1) (by rw[hh];exact j1)
  ·have hA:a.length=2^(k+1):=afE fun e=>yC ⟨e,fun e2=>by
    have:=la.le;omega⟩
   have hm:(b.map aI).length≤(a.map aI).length:=by rw[bx,bx];omega
   by_cases hza:qH a=true
   ·exact⟨[],et.e5 t _ _ _ hm za hza,.inl rfl,by rw[z0,zqa.1 hza];grind⟩
   rw[agI] at hza;by_cases hzb:qH b=true
   ·exact⟨[],et.e6 t _ _ _ _ hm za hza zb hzb,.inl rfl,by rw[z0,zqb.1 hzb];grind⟩
   rw[agI] at hzb;have hh:(a.map aI).length/2=2^k:=by rw[bx,hA,p2];omega
   have ha1:(a.map aI).length≠1:=by rw[bx];omega
   have C9:(a.map aI).length=2^(k+1):=by rw[bx];exact hA
   have Fv:(b.map aI).length=b.length:=bx _;obtain⟨c1,c2⟩:=core a b h h' hA lb ha hb h1 tI (by omega);by_cases PX:b.length≤2^k
   ·obtain⟨u,v,u1,v1,j1,j2,j3⟩:=c1 PX;refine⟨_,?_,.nr j2,j3⟩;exact et.e8 t _ _ _ _ (u.map aI) (v.map aI) _ hm za hza zb hzb ha1 (by omega) (by omega) (by omega) (by rw[hh,Fv];exact PX) (by rw[hh,dE];exact u1) (by rw[hh,dF];exact v1) (by rw[hh];exact j1)
   ·have hB:b.length=2^(k+1):=by
     rcases lb with rfl|⟨i,i1,i2⟩
     ·exact absurd (ag0 _) PX
     ·have:i=k+1:=by
       refine Nat.le_antisymm i1 (ahP fun hh=>PX ?_);rw[i2];exact afH (by omega) hh
      rw[i2,this]
    obtain⟨i,j,l,m,n',p,s,i1,j1,l1,m1,n1,w1,s1,q0,q1,q2⟩:=c2 hB;have lv:=level (a:=a.map aI) (k:=k+1) (by omega) C9;refine⟨_,?_,.nr q1,q2⟩;exact et.e9 t _ _ _ _ _ k _ (i.map aI) (j.map aI) (l.map aI) (m.map aI) (n'.map aI) (p.map aI) (s.map aI) _ hm za hza zb hzb ha1 (by omega) (by omega) (by omega) (by rw[hh,Fv];omega) (by omega) (by omega) lv (by unfold ay;omega) (by omega) oX (by rw[hh,dE,dE];exact i1) (by rw[hh,dF,dF];exact j1) l1 m1 (by rw[hh,dE,dF];exact n1) (by rw[hh,dF,dE];exact w1) s1 (by rw[hh];exact q0)
theorem QW(ht:Tok T){t:aA}{n:Nat}(hr:Rt t T n){k:Nat}(hk:k+1≤n){a:List Rat}{h:Nat}(hA:a.length=2^(k+1))(ha:Hq h (toQ T a))(h1:1≤h)(hs:4*h+200≤34359738368) :
  ∃r,Cp 120 [t.pv,pq a] (pq r)∧Lk k r∧toQ T r=toQ T (a.take (2^k))*toQ T (a.take (2^k))-toQ T (a.drop (2^k))*toQ T (a.drop (2^k))*toQ T (eV T k)∧Hq (4*h+30) (toQ T r):=by
 have hn:=hr.1;have p2:2^(k+1)=2^k+2^k:=by rw[afM];omega
 have p4:2^(k+1)≤2^2:=afH (by omega) (by omega);obtain⟨hx,hy,_,_⟩:=pf hA;have xq:=ha.take (j:=2^k);have yq:=ha.drop (j:=2^k) (by omega);obtain⟨b,b1,b2,b3⟩:=tG ht hr k (by omega) _ _ h h hx hx xq xq h1 h1 (by omega);obtain⟨c,c1,c2,c3⟩:=tG ht hr k (by omega) _ _ h h hy hy yq yq h1 h1 (by omega);have bq:Hq (h+h+8) (toQ T b):=by rw[b3];exact Hq.mul ht xq xq
 have cq:Hq (h+h+8) (toQ T c):=by rw[c3];exact Hq.mul ht yq yq
 obtain⟨g,g1,g2,g3⟩:=tG ht hr k (by omega) c (eV T k) (h+h+8) 1 c2 (.nr (oB T (by omega))) cq (ht.root k) (by omega) (by omega) (by omega);have gq:Hq (h+h+8+1+8) (toQ T g):=by rw[g3];exact Hq.mul (h:=h+h+8) (k:=1) ht cq (ht.root k)
 have i1:=minus g (by have:=g2.len (by omega);omega) (cb (gq.fl (by omega) (g2.len (by omega))) (by omega));have iq:Hq (h+h+8+1+8) (toQ T (g.map (- ·))):=by rw[wP];exact gq.neg
 have il:=Ea g2;have j1:=plus b (g.map (- ·)) (by have:=b2.len (by omega);omega) (by have:=il.len (by omega);omega) (cb (bq.fl (by omega) (b2.len (by omega))) (by omega)) (cb (iq.fl (by omega) (il.len (by omega))) (by omega));have hh:(a.map aI).length/2=2^k:=by rw[bx,hA,p2];omega
 have C9:(a.map aI).length=2^(k+1):=by rw[bx];exact hA
 have lv:=level (a:=a.map aI) (k:=k+1) (by omega) C9;refine⟨_,DC.e0 t _ (b.map aI) (c.map aI) _ k _ (g.map aI) _ _ (by omega) (by omega) (by omega) (by rw[hh,dE];exact b1) (by rw[hh,dF];exact c1) lv (by unfold ay;omega) (by omega) (hr.2 k (by omega)) g1 i1 j1,pg b2 il,?_,?_⟩
 ·rw[nt,wP,b3,g3,c3];grind
 ·rw[nt];exact(bq.add iq).mono (by omega)
end tY
theorem MN{T:Tw}(K:xE T)(x:Rat):ig x 0=R.gR (lv K [x]):=by rw[X9];rfl
theorem T9{T:Tw}(K:xE T)(q:List Rat):lv K (fO (toQ T q))=lv K q:=by unfold lv;rw[fN]
namespace tY
variable {T:Tw}
theorem Ee(ht:Tok T)(K:xE T){t:aA}{n:Nat}(hr:Rt t T n):∀k,k≤n→∀(a:List Rat) (h:Nat),Lk k a→Hq h (toQ T a)→1≤h→4^k*(h+64)≤1073741824→Cp 63 [t.pv,pq a] (vI (R.gR (lv K a))):=by
 intro k
 induction k using Nat.strongRecOn with
 |ind k ih =>
  intro hk a h la ha h1 hs;have hn:=hr.1;have p1:0<4^k:=aiG (by omega);have abf:h+64≤4^k*(h+64):=aiE _ p1;have s1:=kz (T:=T) (show k≤2 by omega) la ha h1 (by omega);have bl:=qx (JI (T:=T) la);have bq:Hq h (toQ T (fO (toQ T a))):=by rw[fN];exact ha
  have bv:=T9 K a;rw[←bv];generalize fO (toQ T a)=b at s1 bl bq;have b4:=bl.len (by omega);rcases bl with rfl|⟨j,j1,j2⟩
  ·have e:R.gR (lv K [])=0:=R.lJ.2 (Hu K);rw[e];exact kp.e0 t _ [] s1 rfl
  ·match j,j1,j2 with
   |0,_,j2 =>obtain⟨x,rfl⟩:=lz j2;have fx:=QF.Sign x (by have:=bq.fl h1 b4 x (by simp);omega);rw[MN K] at fx;exact kp.e1 t _ [aI x] (aI x) _ s1 (by simp) (by simp) (by simp) fx
   |j+1,j1,j2 =>
    have p2:2^(j+1)=2^j+2^j:=by rw[afM];omega
    have p0:0<2^j:=agm _;obtain⟨hx,hy,_,_⟩:=pf j2;have xq:=bq.take (j:=2^j);have yq:=bq.drop (j:=2^j) b4;have Ll:4^(j+1)≤4^k:=afH (by omega) j1;have kX:4^(j+1)=4^j*4:=afM ..;have hle:=afw (h+64) Ll;have abg:4^j*(h+64)*4=4^(j+1)*(h+64):=by rw[kX];grind
    have sE:1+64≤h+64:=by omega
    have abh:=afO (4^j) sE;have cx:=ih j (by omega) (by omega) _ h hx xq h1 (by omega);have cy:=ih j (by omega) (by omega) _ h hy yq h1 (by omega);have cr:=ih j (by omega) (by omega) (eV T j) 1 (.nr (oB T (by omega))) (ht.root j) (by omega) (by omega);have C9:(b.map aI).length=2^(j+1):=by rw[bx];exact j2
    have hh:(b.map aI).length/2=2^j:=by rw[C9,p2];omega
    have Yd:=level (a:=b.map aI) (k:=j+1) (by omega) C9;have oX:=hr.2 j (by omega);have n0:(b.map aI).length≠0:=by omega
    have n1:(b.map aI).length≠1:=by omega
    have q4:2^(j+1)≤2^2:=afH (by omega) (by omega);obtain⟨r,r1,r2,r3,r4⟩:=QW ht hr (show j+1≤n by omega) j2 bq h1 (by omega);have cn:=ih j (by omega) (by omega) r (4*h+30) r2 r4 (by omega) (by
     have:4^j*(4*h+30+64)≤4^j*((h+64)*4):=afO _ (by omega);have e:4^j*((h+64)*4)=4^j*(h+64)*4:=by grind
     omega)
    have hnv:lv K r=lv K (b.take (2^j))*lv K (b.take (2^j))-lv K (b.drop (2^j))*lv K (b.drop (2^j))*lv K (eV T j):=by unfold lv;rw[r3,Q4.MF,Q4.vg,Q4.vg,Q4.vg]
    obtain⟨g1,g2,g3,g4⟩:=MI K (show j≤1 by omega) j2 rfl rfl rfl hnv.symm;have rx:=ze (lv K (b.take (2^j)));have rr:=ze (lv K r);by_cases c0:R.gR (lv K (eV T j))=0
    ·rw[g1 c0];exact kp.e2 t _ (b.map aI) _ _ _ j _ _ s1 n0 n1 (by omega) (by omega) (by rw[hh,dE];exact cx) (by omega) (by rw[hh,dF];exact cy) Yd (by unfold ay;omega) (by omega) oX cr c0
    ·by_cases c1:R.gR (lv K (b.take (2^j)))=R.gR (lv K (b.drop (2^j)))
     ·rw[g2 (.inl c1)];exact kp.e3 t _ (b.map aI) _ _ _ j _ _ s1 n0 n1 (by omega) (by omega) (by rw[hh,dE];exact cx) (by omega) (by rw[hh,dF];exact cy) Yd (by unfold ay;omega) (by omega) oX cr c0 c1
     ·by_cases c2:R.gR (lv K (b.drop (2^j)))=0
      ·rw[g2 (.inr c2)];exact kp.e4 t _ (b.map aI) _ _ _ j _ _ s1 n0 n1 (by omega) (by omega) (by rw[hh,dE];exact cx) (by omega) (by rw[hh,dF];exact cy) Yd (by unfold ay;omega) (by omega) oX cr c0 c1 c2
      ·by_cases c3:R.gR (lv K (b.take (2^j)))=0
       ·rw[g3 c0 c3];exact kp.e5 t _ (b.map aI) _ _ _ j _ _ s1 n0 n1 (by omega) (by omega) (by rw[hh,dE];exact cx) (by omega) (by rw[hh,dF];exact cy) Yd (by unfold ay;omega) (by omega) oX cr c0 c1 c2 c3
       ·rw[g4 c0 c3 c2 c1];exact kp.e6 t _ (b.map aI) _ _ _ j _ _ (r.map aI) _ s1 n0 n1 (by omega) (by omega) (by rw[hh,dE];exact cx) (by omega) (by rw[hh,dF];exact cy) Yd (by unfold ay;omega) (by omega) oX cr c0 c1 c2 c3 r1 cn (by unfold ay;rcases rx with e|e|e<;>rcases rr with e'|e'|e'<;>rw[e,e']<;>decide)
end tY
end Go.Proofs.YtcpnocgollpbhaaGreatDoor.Sym
end
