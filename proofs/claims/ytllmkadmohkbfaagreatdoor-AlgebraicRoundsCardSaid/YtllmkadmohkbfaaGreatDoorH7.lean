/- Lemmas for the statements of this seat. -/
import Derived.Test.YtllmkadmohkbfaaGreatDoorH6
import Derived.Test.YtllmkadmohkbfaaGreatDoorH5
import Derived.Test.YtllmkadmohkbfaaGreatDoorQ4
namespace Go.Proofs.YtllmkadmohkbfaaGreatDoor.Sym
open Go Path cP
set_option linter.unusedVariables false
namespace PQ
theorem so{k:Nat}(p:List Rat)(zp:aK p=false)(lp:p.length≤65)(hp:Fl k p)(hk:k≤68719476736):Cp 80 [pq p] (.aB [pq (ak p),.az]):=by
 have:=Hs.so (p.map aJ) (fj zp lp) (iz (eA hp (by omega)))
 rwa[eS] at this
theorem Eval{k:Nat}(p:List Rat)(x:Rat)(zp:aK p=false)(lp:p.length≤65)(hp:Fl k p)(hx:ht x≤k)(hk:k≤1073741824):Cp 133 [pq p,(aJ x).pv] (.aB [(aJ (evalL p x)).pv,.az]):=by
 have:=Hs.Eval (p.map aJ) (aJ x) (fj zp lp) (iz (eA hp (by omega))) (aZ (Nat.le_trans hx hk))
 rwa[eS,bl] at this
theorem Ck{a b N:Nat}(ha:1≤a)(dF:a≤b)(hN:N≤1000)(hk:4*xB a b (N+2)+10≤68719476736):∀(n i j:Nat) (p q:List Rat),q.length<n→v8 a b N i j p q→p.length≤10000→je.ah (p.map aJ) (q.map aJ) (pq (bP (gB n p q))):=by
 have hx:xB a b (N+2)=xB a b N+2*(xB a b (N+1)+1):=rfl
 have x1:∀j,1≤xB a b j:=fun j=>Nat.le_trans ha (cz a b dF (i:=0) (Nat.zero_le _))
 intro n
 induction n with
 |zero=>intro i j p q hn;omega
 |succ n ih =>
  intro i j p q hn e hl
  have hi:=e.idx
  have xU:=e.lt
  rw[gB]
  by_cases h:q.length=0
  ·rw[beq_iff.2 h,cond_true]
   have:=cz a b dF (i:=i) (j:=N+1) (by omega)
   exact je.cR _ _ _ (by rw[bJ];omega) (Ay.fx p e.zp e.hp (x1 i) hl (by omega))
  ·have di:q≠[]:=fun e=>h (by rw[e];rfl)
   rw[fh.2 h,cond_false]
   obtain⟨r1,r2⟩:=e.rest dF di
   have hz:=cL p q
   have hlen:=e.len
   have SU:=e.bound
   have b1:=cz a b dF (i:=j+(p.length-q.length)) (j:=N+1) (by omega)
   have hd:=Ay.ku p q e.zq di e.hp e.hq (x1 i) (x1 j) hl (by omega) (by
    obtain⟨j',rfl⟩:∃j',j=j'+1:=⟨j-1,by omega⟩
    obtain⟨d,hd⟩:∃d,p.length-q.length=d+1:=⟨p.length-q.length-1,by omega⟩
    have h2:=cz a b dF (i:=i) (j:=j') (by omega)
    have h3:=sv a b dF j' d
    have h4:=cz a b dF (i:=j'+1+(d+1)) (j:=N+1) (by omega)
    have h5:=cz a b dF (i:=j'+1) (j:=N) (by omega)
    rw[show p.length+1-q.length=d+2 from by omega]
    omega)
   have hm:=Ay.fx (bk p q) hz r1 (x1 _) (by omega) (by omega)
   exact je.l10 _ _ _ _ _ (by rw[bJ];omega) hd hm (ih _ _ q _ (by rw[bL hz];omega) (e.next dF di (r1.fx (x1 _) hz) (by rw[bL hz];exact r2) (bW _)) (by omega))
theorem E6{h b c L:Nat}(h1:1≤h)(qO:1≤b)(Ns:b≤c)(hL:L≤65)(hc:h+(L+1)*(b+1)≤c)(hk:4*xB b c (L+2)+10≤68719476736)(p q:List Rat)(zp:aK p=false)(zq:aK q=false)(lp:p.length≤L)(lq:q.length≤L)(hp:Ch h p)(hq:Ch b q) :
  je.ah (p.map aJ) (q.map aJ) (pq (bP (gB (q.length+1) p q))):=by
 have e2:xB b c (L+2)=xB b c L+2*(xB b c (L+1)+1):=rfl
 have e1:=cz b c Ns (i:=1) (j:=L+1) (by omega)
 have e0:xB b c 1=c:=rfl
 have hm:(p.length+1-q.length)*(b+1)≤(L+1)*(b+1):=Nat.mul_le_mul_right _ (by omega)
 rw[gB]
 by_cases h0:q.length=0
 ·rw[beq_iff.2 h0,cond_true]
  exact je.cR _ _ _ (by rw[bJ];omega) (Ay.fx p zp hp h1 (by omega) (by omega))
 ·have di:q≠[]:=fun e=>h0 (by rw[e];rfl)
  rw[fh.2 h0,cond_false]
  have hr:=hp.rest hq zq di
  have JP:(bk p q).length<q.length:=(fZ p zq di).1
  have hz:=cL p q
  have xv:Ch c (bk p q):=hr.mono (by omega)
  have hd:=Ay.ku p q zq di hp hq h1 qO (by omega) (by omega) (by omega)
  have hm:=Ay.fx (bk p q) hz xv (by omega) (by omega) (by omega)
  have hE:v8 b c L 0 1 q (bP (bk p q)):=⟨hq,xv.fx (by omega) hz,by omega,by rw[bL hz];exact JP,by omega,zq,bW _⟩
  exact je.l10 _ _ _ _ _ (by rw[bJ];omega) hd hm (Ck qO Ns (by omega) hk q.length 0 1 q _ (by rw[bL hz];exact JP) hE (by omega))
theorem Gcd{h b c L:Nat}(h1:1≤h)(qO:1≤b)(Ns:b≤c)(hL:L≤65)(hc:h+(L+1)*(b+1)≤c)(hk:4*xB b c (L+2)+10≤68719476736)(p q:List Rat)(zp:aK p=false)(zq:aK q=false)(lp:p.length≤L)(lq:q.length≤L)(hp:Ch h p)(hq:Ch b q):Cp 81 [pq p,pq q] (.aB [pq (bE p q),.az]):=by
 have e2:xB b c (L+2)=xB b c L+2*(xB b c (L+1)+1):=rfl
 have e1:=cz b c Ns (i:=1) (j:=L+1) (by omega)
 have e0:xB b c 1=c:=rfl
 have sM:=Ay.ux (p.map aJ) (q.map aJ) (sS (hp.fl h1) (by omega)) (sS (hq.fl qO) (by omega))
 rw[uy (fj zp (by omega)) (fj zq (by omega))] at sM
 exact Gd.e0 _ _ _ sM (je.e0 _ _ (E6 h1 qO Ns hL hc hk p q zp zq lp lq hp hq))
end PQ
namespace RQ
theorem so{k:Nat}(p:List Rat)(zp:aK p=false)(lp:p.length≤65)(hp:Fl k p)(hk:k≤68719476736):Cp 84 [pq p] (.aB [pq (ak p),vI 0]):=by
 have:=Iv.so (p.map aJ) (fj zp lp) (iz (eA hp (by omega)))
 rwa[eS] at this
theorem Ck{a b N:Nat}(ha:1≤a)(dF:a≤b)(hN:N≤1000)(hk:4*xB a b (N+2)+10≤68719476736):∀(n i j:Nat) (p q:List Rat),q.length<n→v8 a b N i j p q→p.length≤10000→b8.ah (p.map aJ) (q.map aJ) (pq (gB n p q)):=by
 have hx:xB a b (N+2)=xB a b N+2*(xB a b (N+1)+1):=rfl
 have x1:∀j,1≤xB a b j:=fun j=>Nat.le_trans ha (cz a b dF (i:=0) (Nat.zero_le _))
 intro n
 induction n with
 |zero=>intro i j p q hn;omega
 |succ n ih =>
  intro i j p q hn e hl
  have hi:=e.idx
  have xU:=e.lt
  rw[gB]
  by_cases h:q.length=0
  ·rw[beq_iff.2 h,cond_true]
   have:=cz a b dF (i:=i) (j:=N+1) (by omega)
   exact b8.cR _ _ (by rw[bJ];omega)
  ·have di:q≠[]:=fun e=>h (by rw[e];rfl)
   rw[fh.2 h,cond_false]
   obtain⟨r1,r2⟩:=e.rest dF di
   have hz:=cL p q
   have hlen:=e.len
   have SU:=e.bound
   have b1:=cz a b dF (i:=j+(p.length-q.length)) (j:=N+1) (by omega)
   have hd:=CU.ku p q e.zq di e.hp e.hq (x1 i) (x1 j) hl (by omega) (by
    obtain⟨j',rfl⟩:∃j',j=j'+1:=⟨j-1,by omega⟩
    obtain⟨d,hd⟩:∃d,p.length-q.length=d+1:=⟨p.length-q.length-1,by omega⟩
    have h2:=cz a b dF (i:=i) (j:=j') (by omega)
    have h3:=sv a b dF j' d
    have h4:=cz a b dF (i:=j'+1+(d+1)) (j:=N+1) (by omega)
    have h5:=cz a b dF (i:=j'+1) (j:=N) (by omega)
    rw[show p.length+1-q.length=d+2 from by omega]
    omega)
   have hm:=CU.fx (bk p q) hz r1 (x1 _) (by omega) (by omega)
   exact b8.l10 _ _ _ _ _ (by rw[bJ];omega) hd hm (ih _ _ q _ (by rw[bL hz];omega) (e.next dF di (r1.fx (x1 _) hz) (by rw[bL hz];exact r2) (bW _)) (by omega))
theorem E6{h b c L:Nat}(h1:1≤h)(qO:1≤b)(Ns:b≤c)(hL:L≤65)(hc:h+(L+1)*(b+1)≤c)(hk:4*xB b c (L+2)+10≤68719476736)(p q:List Rat)(zp:aK p=false)(zq:aK q=false)(lp:p.length≤L)(lq:q.length≤L)(hp:Ch h p)(hq:Ch b q) :
  b8.ah (p.map aJ) (q.map aJ) (pq (gB (q.length+1) p q)):=by
 have e2:xB b c (L+2)=xB b c L+2*(xB b c (L+1)+1):=rfl
 have e1:=cz b c Ns (i:=1) (j:=L+1) (by omega)
 have e0:xB b c 1=c:=rfl
 have hm:(p.length+1-q.length)*(b+1)≤(L+1)*(b+1):=Nat.mul_le_mul_right _ (by omega)
 rw[gB]
 by_cases h0:q.length=0
 ·rw[beq_iff.2 h0,cond_true]
  exact b8.cR _ _ (by rw[bJ];omega)
 ·have di:q≠[]:=fun e=>h0 (by rw[e];rfl)
  rw[fh.2 h0,cond_false]
  have hr:=hp.rest hq zq di
  have JP:(bk p q).length<q.length:=(fZ p zq di).1
  have hz:=cL p q
  have xv:Ch c (bk p q):=hr.mono (by omega)
  have hd:=CU.ku p q zq di hp hq h1 qO (by omega) (by omega) (by omega)
  have hm:=CU.fx (bk p q) hz xv (by omega) (by omega) (by omega)
  have hE:v8 b c L 0 1 q (bP (bk p q)):=⟨hq,xv.fx (by omega) hz,by omega,by rw[bL hz];exact JP,by omega,zq,bW _⟩
  exact b8.l10 _ _ _ _ _ (by rw[bJ];omega) hd hm (Ck qO Ns (by omega) hk q.length 0 1 q _ (by rw[bL hz];exact JP) hE (by omega))
theorem Gcd{h b c L:Nat}(h1:1≤h)(qO:1≤b)(Ns:b≤c)(hL:L≤65)(hc:h+(L+1)*(b+1)≤c)(hk:4*xB b c (L+2)+10≤68719476736)(p q:List Rat)(zp:aK p=false)(zq:aK q=false)(lp:p.length≤L)(lq:q.length≤L)(hp:Ch h p)(hq:Ch b q):Cp 85 [pq p,pq q] (.aB [pq (bE p q),vI 0]):=by
 have e2:xB b c (L+2)=xB b c L+2*(xB b c (L+1)+1):=rfl
 have e1:=cz b c Ns (i:=1) (j:=L+1) (by omega)
 have e0:xB b c 1=c:=rfl
 have sM:=CU.both (p.map aJ) (q.map aJ) (sS (hp.fl h1) (by omega)) (sS (hq.fl qO) (by omega))
 rw[uy (fj zp (by omega)) (fj zq (by omega))] at sM
 have m1:=CU.fx p zp hp h1 (by omega) (by omega)
 have m2:=CU.fx q zq hq qO (by omega) (by omega)
 have:=E6 h1 qO Ns hL hc hk (bP p) (bP q) (bW _) (bW _) (by rw[bL zp];exact lp) (by rw[bL zq];exact lq) (hp.fx h1 zp) (hq.fx qO zq)
 rw[bL zq,JJ p q zp zq] at this
 exact qf.e1 _ _ _ _ sM rfl (b8.e0 _ _ _ _ m1 m2 this)
end RQ
def dN(f:List Rat)(lo hi:Rat):aH:=⟨f.map aJ,gI lo hi⟩
structure XC (f:List Rat) (lo hi:Rat):Prop where
 zf:aK f=false
 fl:Fl 1073741824 f
 ln:f.length≤10
 h1:ht lo≤1073741824
 h2:ht hi≤1073741824
theorem dV{p q:Rat}(h:p≠q):eh p q≠0:=fun e=>h (ew.1 e)
theorem Cl{a b N:Nat}(ha:1≤a)(dF:a≤b):∀(n i j:Nat) (p q:List Rat),v8 a b N i j p q→Ch (xB a b (N-(gB n p q).length)) (gB n p q)
 |0,i,j,p,q,e=>e.hp.mono (cz a b dF (by show i≤N-p.length;have:=e.bound;have:=e.lt;omega))
 |n+1,i,j,p,q,e=>by
  rw[gB]
  by_cases h:q.length=0
  ·rw[beq_iff.2 h,cond_true];exact e.hp.mono (cz a b dF (by have:=e.bound;have:=e.lt;omega))
  ·have di:q≠[]:=fun e=>h (by rw[e];rfl)
   rw[fh.2 h,cond_false]
   obtain⟨h1,h2⟩:=e.rest dF di
   have hz:=cL p q
   exact Cl ha dF n _ _ q _ (e.next dF di (h1.fx (Nat.le_trans ha (cz a b dF (i:=0) (Nat.zero_le _))) hz) (by rw[bL hz];exact h2) (bW _))
theorem Nt:∀l,l<7→sB (xB 7 63 (6-l)) l≤1073741824:=by decide +kernel
theorem tR{p q:List Rat}(zp:aK p=false)(zq:aK q=false)(lp:p.length≤6)(lq:q.length≤6)(hp:Ch 7 p)(hq:Ch 7 q)(q0:q≠[]):dG (xB 7 63 (6-(bE p q).length)) (bE p q).length (bE p q):=by
 have Cw:=List.length_pos_iff.2 q0
 have zg:=eu p q
 have zF:=ke (q.length+1) p q zp zq
 have g0:bE p q≠[]:=ox zF (xc _ _ _ (Or.inr ⟨q0,by omega⟩))
 have hl:(bE p q).length≤6:=by have:=((gT p q zp zq).2.len zg zq q0).2;omega
 have Sk:(bE p q).length=(gB (q.length+1) p q).length:=bL zF
 have hr:Ch 63 (bk p q):=(hp.rest hq zq q0).mono (by
  have:(p.length+1-q.length)*(7+1)≤6*(7+1):=Nat.mul_le_mul_right _ (by omega)
  omega)
 have JP:(bk p q).length<q.length:=(fZ p zq q0).1
 have hE:v8 7 63 6 0 1 q (bP (bk p q)):=⟨hq,hr.fx (by omega) (cL p q),by omega,by rw[bL (cL p q)];exact JP,by omega,zq,bW _⟩
 have e1:gB (q.length+1) p q=gB q.length q (bP (bk p q)):=by
  rw[gB,fh.2 (by omega),cond_false]
 have hc:=Cl (a:=7) (b:=63) (N:=6) (by omega) (by omega) q.length 0 1 q (bP (bk p q)) hE
 rw[←e1,←Sk] at hc
 have h1:1≤xB 7 63 (6-(bE p q).length):=sw (by omega) (by omega) _
 exact⟨zg,g0,Nat.le_refl _,hc.fx h1 zF,h1,by omega,Nt _ (by omega)⟩
structure Sm (p:List Rat):Prop where
 z:aK p=false
 l:p.length≤6
 f:Fl 1 p
theorem Sm.ch{p:List Rat}(h:Sm p):Ch 7 p:=(Ch.DP h.f).mono (by have:=h.l;omega)
theorem Sm.ok{f:List Rat}(h:Sm f){lo hi:Rat}(h1:ht lo≤1073741824)(h2:ht hi≤1073741824):XC f lo hi:=⟨h.z,eA h.f (by omega),by have:=h.l;omega,h1,h2⟩
namespace rp
theorem compare{f:List Rat}{lo hi:Rat}(O:XC f lo hi)(hle:lo≤hi){x:Rat}(hx:ht x≤1073741824):Cp 64 [(dN f lo hi).pv,(aJ x).pv] (.aB [vI (aP f lo hi x),.az]):=by
 have h1:=O.h1
 have h2:=O.h2
 have c1:=QF.o9 lo hi (by omega) (by omega)
 have c2:=QF.o9 lo x (by omega) (by omega)
 have c3:=QF.o9 x lo (by omega) (by omega)
 have c4:=QF.o9 x hi (by omega) (by omega)
 unfold aP
 by_cases he:lo=hi
 ·rw[if_pos he]
  exact gN.e0 (dN f lo hi) (aJ x) _ _ c1 (ew.2 he) c2
 ·rw[if_neg he]
  by_cases k1:x≤lo
  ·rw[if_pos k1]
   exact gN.e1 (dN f lo hi) (aJ x) _ _ c1 (dV he) c3 (by rcases eM x lo with k|k|k<;>first|omega|(exfalso;grind))
  ·rw[if_neg k1]
   have Y3:0<eh x lo:=by rw[mo (by grind)];omega
   by_cases k2:hi≤x
   ·rw[if_pos k2]
    exact gN.e2 (dN f lo hi) (aJ x) _ _ _ c1 (dV he) c3 Y3 c4 (by rcases eM x hi with k|k|k<;>first|omega|(exfalso;grind))
   ·rw[if_neg k2]
    have hl:=O.ln
    have e1:=PQ.Eval f x O.zf (by omega) O.fl hx (by omega)
    have e2:=PQ.Eval f lo O.zf (by omega) O.fl O.h1 (by omega)
    have w1:=nh f x _ O.fl hx
    have w2:=nh f lo _ O.fl O.h1
    have hm:f.length*(2*1073741824+1)≤10*(2*1073741824+1):=Nat.mul_le_mul_right _ hl
    exact gN.e3 (dN f lo hi) (aJ x) _ _ _ _ _ _ _ c1 (dV he) c3 Y3 c4 (by rw[kI (by grind)];omega) e1 e2 (QF.Sign _ (by omega)) (QF.Sign _ (by omega)) (pn _ _)
theorem MR{f:List Rat}{lo hi:Rat}(O:XC f lo hi)(hle:lo≤hi)(h3:ht (midQ lo hi)≤1073741824):Cp 204 [(dN f lo hi).pv] (.aB [(dN f (dY f lo hi).1 (dY f lo hi).2).pv,.az]):=by
 have h1:=O.h1
 have h2:=O.h2
 have c1:=QF.o9 lo hi (by omega) (by omega)
 unfold dY
 by_cases he:lo=hi
 ·rw[if_pos he]
  exact gE.e0 (dN f lo hi) _ c1 (ew.2 he)
 ·rw[if_neg he]
  have cm:=J0.SY lo hi h1 h2 hle
  have cc:=compare O hle h3
  change Cp 176 [(gI lo hi).pv] (aJ (midQ lo hi)).pv at cm
  by_cases k0:aP f lo hi (midQ lo hi)=0
  ·rw[if_pos k0]
   exact gE.e1 (dN f lo hi) _ _ _ (gI (midQ lo hi) (midQ lo hi)) c1 (dV he) cm cc k0 (Sc.GS _ (by omega))
  ·rw[if_neg k0]
   by_cases k1:aP f lo hi (midQ lo hi)=1
   ·rw[if_pos k1]
    exact gE.e2 (dN f lo hi) _ _ _ c1 (dV he) cm cc k0 k1
   ·rw[if_neg k1]
    exact gE.e3 (dN f lo hi) _ _ _ c1 (dV he) cm cc k0 k1
theorem Nu{p f:List Rat}{lo hi:Rat}(P:Sm p)(F:Sm f)(f0:f≠[])(hle:lo≤hi)(h1:ht lo≤1073741824)(h2:ht hi≤1073741824):Cp 201 [pq p,(dN f lo hi).pv] (.aB [vB (KV p f lo hi),.az]):=by
 unfold KV
 by_cases h0:p.length=0
 ·rw[if_pos h0]
  exact gw.e0 _ (dN f lo hi) (by rw[bJ];exact h0)
 ·rw[if_neg h0]
  have fi:=tR P.z F.z P.l F.l P.ch F.ch f0
  have lg:(bE p f).length≤6:=by have:=((gT p f P.z F.z).2.len fi.zp F.z f0).2;have:=F.l;omega
  have hg:=PQ.Gcd (h:=7) (b:=7) (c:=63) (L:=6) (by omega) (by omega) (by omega) (by omega) (by omega) (by decide) p f P.z F.z P.l F.l P.ch F.ch
  have c1:=QF.o9 lo hi (by omega) (by omega)
  by_cases hl:(bE p f).length<2
  ·rw[if_pos hl]
   exact gw.e1 _ (dN f lo hi) _ (by rw[bJ];exact h0) hg (by rw[bJ];exact hl)
  ·rw[if_neg hl]
   by_cases he:lo=hi
   ·rw[if_pos he]
    have fl:=fi.Nq
    have e1:=PQ.Eval (bE p f) lo fi.zp (by omega) fl h1 (by omega)
    have w1:=nh (bE p f) lo _ fl h1
    have hm:(bE p f).length*(2*1073741824+1)≤6*(2*1073741824+1):=Nat.mul_le_mul_right _ lg
    have:=gw.e2 _ (dN f lo hi) _ _ _ none _ (by rw[bJ];exact h0) hg (by rw[bJ];omega) c1 (ew.2 he) e1 (QF.Sign _ (by omega))
    rw[uB (q:=evalL (bE p f) lo=0) ew] at this
    exact this
   ·rw[if_neg he]
    have cn:=J0.Count fi lo hi hle h1 h2
    exact gw.e3 _ (dN f lo hi) _ _ _ none (by rw[bJ];exact h0) hg (by rw[bJ];omega) c1 (dV he) cn
def Qq(f:List Rat)(lo hi:Rat)(g:List Rat)(lo' hi':Rat):Bool:=KV g f lo hi&&(decide (0≤aP f lo hi lo')&&decide (aP f lo hi hi'≤0))
theorem equal{f g:List Rat}{lo hi lo' hi':Rat}(F:Sm f)(G:Sm g)(f0:f≠[])(hle:lo≤hi)(h1:ht lo≤1073741824)(h2:ht hi≤1073741824)(h3:ht lo'≤1073741824)(h4:ht hi'≤1073741824):Cp 174 [(dN f lo hi).pv,(dN g lo' hi').pv] (.aB [vB (Qq f lo hi g lo' hi'),.az]):=by
 have hv:=Nu G F f0 hle h1 h2
 have k1:=compare (F.ok h1 h2) hle h3
 have k2:=compare (F.ok h1 h2) hle h4
 unfold Qq
 cases hb:KV g f lo hi with
 |false =>
  rw[hb] at hv
  exact kO.e0 (dN f lo hi) (dN g lo' hi') _ hv rfl
 |true =>
  rw[hb] at hv
  rw[Bool.true_and]
  by_cases h0:0≤aP f lo hi lo'
  ·rw[decide_eq_true h0,Bool.true_and]
   exact kO.e1 (dN f lo hi) (dN g lo' hi') _ _ _ none hv rfl k1 k2 h0
  ·rw[decide_eq_false h0,Bool.false_and]
   exact kO.e2 (dN f lo hi) (dN g lo' hi') _ _ _ none hv rfl k1 k2 (by omega)
theorem E7{f g:List Rat}{lo hi lo' hi':Rat}(A:dW f lo hi)(B:dW g lo' hi'):Qq f lo hi g lo' hi'=true↔Fk f lo hi g lo' hi':=by
 rw[E1 A B]
 unfold Qq
 rw[Bool.and_eq_true,Bool.and_eq_true,Nk A B.zf,decide_eq_true_iff,decide_eq_true_iff]
end rp
def Dy(a w:Rat)(k:Nat)(lo hi:Rat):Prop:=(∃j,j<2^k∧lo=ptQ a w k j∧hi=ptQ a w k (j+1))∨(lo=hi∧∃j,j≤2^k∧lo=ptQ a w k j)
theorem Dy.start(lo hi:Rat):Dy lo (hi-lo) 0 lo hi:=Or.inl ⟨0,by decide,(uz _ _).1.symm,by have:=(uz lo (hi-lo)).2;rw[this];grind⟩
theorem Dy.ht{a w lo hi:Rat}{k:Nat}(h:Dy a w k lo hi):Sym.ht lo≤Sym.ht a+Sym.ht w+k/32+4∧Sym.ht hi≤Sym.ht a+Sym.ht w+k/32+4:=by
 rcases h with ⟨j,h1,rfl,rfl⟩|⟨rfl,j,h1,rfl⟩
 ·exact⟨vV a w (by omega),vV a w (by omega)⟩
 ·exact⟨vV a w h1,vV a w h1⟩
theorem Dy.kt{a w lo hi:Rat}{k:Nat}(h:Dy a w k lo hi)(di:lo≠hi):Sym.ht (midQ lo hi)≤Sym.ht a+Sym.ht w+(k+1)/32+4:=by
 rcases h with ⟨j,h1,rfl,rfl⟩|⟨e,_⟩
 ·unfold midQ
  rw[IH]
  exact vV a w (by rw[Nat.pow_succ];omega)
 ·exact absurd e di
theorem Dy.half{a w lo hi:Rat}{k:Nat}(f:List Rat)(h:Dy a w k lo hi):Dy a w (k+1) (dY f lo hi).1 (dY f lo hi).2:=by
 unfold dY
 by_cases he:lo=hi
 ·rw[if_pos he]
  right
  refine⟨he,?_⟩
  rcases h with ⟨j,h1,h2,h3⟩|⟨_,j,h1,h2⟩
  ·exact⟨2*j,by rw[Nat.pow_succ];omega,by rw[nk];exact h2⟩
  ·exact⟨2*j,by rw[Nat.pow_succ];omega,by rw[nk];exact h2⟩
 ·rw[if_neg he]
  rcases h with ⟨j,h1,rfl,rfl⟩|⟨e,_⟩
  ·have hm:midQ (ptQ a w k j) (ptQ a w k (j+1))=ptQ a w (k+1) (2*j+1):=by unfold midQ;rw[IH]
   have hp:2^(k+1)=2^k*2:=Nat.pow_succ ..
   rw[hm]
   split
   ·exact Or.inr ⟨rfl,2*j+1,by omega,rfl⟩
   ·split
    ·exact Or.inl ⟨2*j+1,by omega,rfl,by rw[show 2*j+1+1=2*(j+1) by omega,nk]⟩
    ·exact Or.inl ⟨2*j,by omega,by rw[nk],rfl⟩
  ·exact absurd e he
def mX(f g:List Rat):Nat→Rat→Rat→Rat→Rat→Option ((Rat×Rat)×(Rat×Rat))
 |0,_,_,_,_=>none
 |n+1,lo,hi,lo',hi'=>if lo'<hi∧lo<hi' then mX f g n (dY f lo hi).1 (dY f lo hi).2 (dY g lo' hi').1 (dY g lo' hi').2 else some ((lo,hi),(lo',hi'))
theorem apart_spec{f g:List Rat} : ∀(n:Nat) (lo hi lo' hi':Rat) (r:(Rat×Rat)×(Rat×Rat)),dW f lo hi→dW g lo' hi'→mX f g n lo hi lo' hi'=some r →
  dW f r.1.1 r.1.2∧dW g r.2.1 r.2.2∧(∀x,aP f r.1.1 r.1.2 x=aP f lo hi x)∧(∀x,aP g r.2.1 r.2.2 x=aP g lo' hi' x)∧(r.1.2≤r.2.1∨r.2.2≤r.1.1)
 |0,_,_,_,_,_,_,_,h=>by cases h
 |n+1,lo,hi,lo',hi',r,A,B,h=>by
  rw[mX] at h
  split at h
  ·obtain⟨a1,a2, -⟩:=fy A
   obtain⟨b1,b2, -⟩:=fy B
   obtain⟨k1,k2,k3,k4,k5⟩:=apart_spec n _ _ _ _ r a1 b1 h
   exact⟨k1,k2,fun x=>by rw[k3,a2],fun x=>by rw[k4,b2],k5⟩
  ·rename_i hn
   injection h with h
   subst h
   refine⟨A,B,fun _=>rfl,fun _=>rfl,?_⟩
   by_cases h1:lo'<hi
   ·right
    show hi'≤lo
    grind
   ·left
    show hi≤lo'
    grind
def KZ(f g:List Rat)(n:Nat)(lo hi lo' hi':Rat):Option Int :=
 bif rp.Qq f lo hi g lo' hi' then some 0 else match mX f g n lo hi lo' hi' with
  |some r=>some (if midQ r.1.1 r.1.2<midQ r.2.1 r.2.2 then -1 else 1)
  |none=>none
theorem K0{f g:List Rat}{n:Nat}{lo hi lo' hi':Rat}{s:Int}(A:dW f lo hi)(B:dW g lo' hi')(h:KZ f g n lo hi lo' hi'=some s) :
  (s=0∧Fk f lo hi g lo' hi')∨(s = -1∧GN f lo hi g lo' hi')∨(s=1∧GN g lo' hi' f lo hi):=by
 unfold KZ at h
 cases he:rp.Qq f lo hi g lo' hi' with
 |true =>
  rw[he,cond_true] at h
  injection h with h
  exact Or.inl ⟨h.symm,(rp.E7 A B).1 he⟩
 |false =>
  rw[he,cond_false] at h
  have di:¬Fk f lo hi g lo' hi':=fun e=>by rw[(rp.E7 A B).2 e] at he;cases he
  cases hr:mX f g n lo hi lo' hi' with
  |none=>rw[hr] at h;cases h
  |some r =>
   rw[hr] at h
   injection h with h
   obtain⟨k1,k2,k3,k4,k5⟩:=apart_spec n lo hi lo' hi' r A B hr
   have l1:=k1.le
   have l2:=k2.le
   have m1:=xh r.1.1 r.1.2
   have m2:=xh r.2.1 r.2.2
   have PJ:¬(r.1.1=r.1.2∧r.2.1=r.2.2∧r.1.1=r.2.1):=fun ⟨e1,e2,e3⟩=>di (fun x=>by
    rw[←k3,←k4]
    unfold aP
    rw[if_pos e1,if_pos e2,e3])
   rcases k5 with k5|k5
   ·have ba:midQ r.1.1 r.1.2<midQ r.2.1 r.2.2:=by
     refine Rat.not_le.1 fun hc=>PJ ⟨by grind,by grind,by grind⟩
    rw[if_pos ba] at h
    refine Or.inr (Or.inl ⟨h.symm,?_⟩)
    rcases SW A B with t|t|t
    ·exact t
    ·exact absurd t di
    ·obtain⟨x,x1,x2⟩:=t
     rw[←k4] at x1
     rw[←k3] at x2
     exfalso
     have a1:r.2.1≤x:=by
      refine Rat.not_lt.1 fun hh => ?_
      have:=k2.kJ hh k2.rk;omega
     have a2:x≤r.1.2:=by
      refine Rat.not_lt.1 fun hh => ?_
      have:=k1.mono hh k1.tN;omega
     have ex:x=r.2.1:=by grind
     have GZ:x=r.1.2:=by grind
     have b1:0≤aP g r.2.1 r.2.2 x:=by rw[ex];exact k2.rk
     omega
   ·have ba:¬midQ r.1.1 r.1.2<midQ r.2.1 r.2.2:=by grind
    rw[if_neg ba] at h
    refine Or.inr (Or.inr ⟨h.symm,?_⟩)
    rcases SW A B with t|t|t
    ·obtain⟨x,x1,x2⟩:=t
     rw[←k3] at x1
     rw[←k4] at x2
     exfalso
     have a1:r.1.1≤x:=by
      refine Rat.not_lt.1 fun hh => ?_
      have:=k1.kJ hh k1.rk;omega
     have a2:x≤r.2.2:=by
      refine Rat.not_lt.1 fun hh => ?_
      have:=k2.mono hh k2.tN;omega
     have ex:x=r.1.1:=by grind
     have b1:0≤aP f r.1.1 r.1.2 x:=by rw[ex];exact k1.rk
     omega
    ·exact absurd t di
    ·exact t
namespace rp
theorem Nv{f:List Rat}{lo hi a w:Rat}{k:Nat}(F:Sm f)(A:dW f lo hi)(D:Dy a w k lo hi)(hh:ht a+ht w+(k+1)/32+4≤1073741824):Cp 204 [(dN f lo hi).pv] (.aB [(dN f (dY f lo hi).1 (dY f lo hi).2).pv,.az]):=by
 obtain⟨h1,h2⟩:=D.ht
 have O:=F.ok (lo:=lo) (hi:=hi) (by omega) (by omega)
 by_cases he:lo=hi
 ·have c1:=QF.o9 lo hi (by omega) (by omega)
  have e:dY f lo hi=(lo,hi):=by unfold dY;rw[if_pos he]
  rw[e]
  exact gE.e0 (dN f lo hi) _ c1 (ew.2 he)
 ·exact MR O A.le (by have:=D.kt he;omega)
theorem apart{f g:List Rat}{a w a' w':Rat}{K:Nat}(F:Sm f)(G:Sm g)(h1:ht a+ht w+K/32+4≤1073741824)(h2:ht a'+ht w'+K/32+4≤1073741824):∀(n k:Nat) (lo hi lo' hi':Rat) (r:(Rat×Rat)×(Rat×Rat)),n+k≤K+1→dW f lo hi→dW g lo' hi'→Dy a w k lo hi→Dy a' w' k lo' hi'→mX f g n lo hi lo' hi'=some r →
  gF.ah (dN f lo hi) (dN g lo' hi') (.aB [(dN f r.1.1 r.1.2).pv,(dN g r.2.1 r.2.2).pv,.az])∧ht (midQ r.1.1 r.1.2)≤4294967296∧ht (midQ r.2.1 r.2.2)≤4294967296∧ht r.1.1≤1073741824∧ht r.1.2≤1073741824∧ht r.2.1≤1073741824∧ht r.2.2≤1073741824
 |0,_,_,_,_,_,_,_,_,_,_,_,h=>by cases h
 |n+1,k,lo,hi,lo',hi',r,hn,A,B,D,E,h=>by
  obtain⟨d1,d2⟩:=D.ht
  obtain⟨e1,e2⟩:=E.ht
  have c1:=QF.o9 hi lo' (by omega) (by omega)
  have c2:=QF.o9 hi' lo (by omega) (by omega)
  rw[mX] at h
  split at h
  ·rename_i ba
   match n,h with
   |0,h=>cases h
   |n+1,h =>
    have a1:=fy A
    have b1:=fy B
    obtain⟨g1,g2⟩:=apart F G h1 h2 (n+1) (k+1) _ _ _ _ r (by omega) a1.1 b1.1 (D.half f) (E.half g) h
    exact⟨gF.l10 (dN f lo hi) (dN g lo' hi') _ _ _ _ c1 (by rw[mo ba.1];omega) c2 (by rw[mo ba.2];omega) (Nv F A D (by omega)) (Nv G B E (by omega)) g1,g2⟩
  ·rename_i KA
   injection h with h
   subst h
   have mh:∀x y:Rat,ht x≤1073741824→ht y≤1073741824→ht (midQ x y)≤4294967296:=fun x y hx hy=>by
    unfold midQ
    have s1:=mT x y
    have s2:=fw (Rat.divInt 1 2) (x+y)
    have s3:ht (Rat.divInt 1 2)=1:=by decide +kernel
    omega
   refine⟨?_,mh lo hi (by omega) (by omega),mh lo' hi' (by omega) (by omega),(show ht lo≤1073741824 by omega),(show ht hi≤1073741824 by omega),(show ht lo'≤1073741824 by omega),(show ht hi'≤1073741824 by omega)⟩
   by_cases k1:lo'<hi
   ·exact gF.tq (dN f lo hi) (dN g lo' hi') _ _ c1 (by rw[mo k1];omega) c2 (by rcases eM hi' lo with k|k|k<;>first|omega|(exfalso;exact KA ⟨k1,k.1⟩))
   ·exact gF.Ew (dN f lo hi) (dN g lo' hi') _ c1 (by rcases eM hi lo' with k|k|k<;>first|omega|(exfalso;exact k1 k.1))
theorem cmp{f g:List Rat}{lo hi lo' hi':Rat}{K:Nat}{s:Int}(F:Sm f)(G:Sm g)(A:dW f lo hi)(B:dW g lo' hi')(h1:ht lo+ht (hi-lo)+K/32+4≤1073741824)(h2:ht lo'+ht (hi'-lo')+K/32+4≤1073741824)(h:KZ f g (K+1) lo hi lo' hi'=some s) :
  Cp 96 [(dN f lo hi).pv,(dN g lo' hi').pv] (.aB [vI s,.az]):=by
 obtain⟨d1,d2⟩:=(Dy.start lo hi).ht
 obtain⟨e1,e2⟩:=(Dy.start lo' hi').ht
 have he:=equal F G A.f0 A.le (lo:=lo) (hi:=hi) (lo':=lo') (hi':=hi') (by omega) (by omega) (by omega) (by omega)
 unfold KZ at h
 cases hb:Qq f lo hi g lo' hi' with
 |true =>
  rw[hb] at he h
  have hs:s=0:=(Option.some.inj h).symm
  rw[hs]
  exact na.e0 (dN f lo hi) (dN g lo' hi') _ he rfl
 |false =>
  rw[hb] at he h
  rw[cond_false] at h
  cases hr:mX f g (K+1) lo hi lo' hi' with
  |none=>rw[hr] at h;cases h
  |some r =>
   rw[hr] at h
   have h:=Option.some.inj h
   obtain⟨k1,k2, -⟩:=apart_spec _ lo hi lo' hi' r A B hr
   obtain⟨g1,g2,g3,g4,g5,g6,g7⟩:=apart F G h1 h2 (K+1) 0 lo hi lo' hi' r (by omega) A B (Dy.start lo hi) (Dy.start lo' hi') hr
   have ga:=gF.e0 (dN f lo hi) (dN g lo' hi') g1
   have m1:=J0.SY r.1.1 r.1.2 g4 g5 k1.le
   have m2:=J0.SY r.2.1 r.2.2 g6 g7 k2.le
   have c:=QF.o9 (midQ r.1.1 r.1.2) (midQ r.2.1 r.2.2) (by omega) (by omega)
   by_cases ba:midQ r.1.1 r.1.2<midQ r.2.1 r.2.2
   ·rw[if_pos ba] at h
    subst h
    exact na.e1 (dN f lo hi) (dN g lo' hi') _ (dN f r.1.1 r.1.2) (dN g r.2.1 r.2.2) _ _ _ he rfl ga m1 m2 c (by rw[kI ba];omega)
   ·rw[if_neg ba] at h
    subst h
    exact na.e2 (dN f lo hi) (dN g lo' hi') _ (dN f r.1.1 r.1.2) (dN g r.2.1 r.2.2) _ _ _ he rfl ga m1 m2 c (by rcases eM (midQ r.1.1 r.1.2) (midQ r.2.1 r.2.2) with k|k|k<;>first|omega|(exfalso;exact ba k.1))
end rp
end Go.Proofs.YtllmkadmohkbfaaGreatDoor.Sym
namespace Go.Proofs.YtllmkadmohkbfaaGreatDoor.Sym
open Go cP
set_option linter.unusedVariables false
theorem Cn{P q:List Rat}(hz:aK q=false)(nP:q≠[])(x:Rat):evalL (cX P q).1 x*evalL q x+evalL (bk P q) x=evalL P x:=(fZ P hz nP).2 x
theorem K3{f g:List Rat}{u v:Rat}(A:dW f u v)(zg:aK g=false)(g0:g≠[])(hd:Dv g f)(hn:¬Zr f u v g):lL g u v:=by
 have hle:=A.le
 by_cases he:u=v
 ·subst he
  have h0:evalL g u≠0:=fun e=>hn ((A.qJ (rm rfl)).2 e)
  obtain⟨δ,d0,hδ⟩:=rl h0
  exact hδ.sub (by grind) (by grind)
 ·have ba:u<v:=by grind
  obtain⟨G1,G2,G3,G4,k, -,G5⟩:=free_spec zg g0
  have hc:¬0<fG (bA g) u-fG (bA g) v:=fun h=>hn ((A.ID ba zg g0 hd).1 h)
  have hm:=nJ G1 G2 G3 hle
  have di:evalL (bH g) u≠0:=fun e=>by
   obtain⟨c,hc⟩:=G4.trans hd
   exact(A.ends ba).1 (by rw[hc u,e];grind)
  have Cx:¬0<cS (bH g) u-cS (bH g) v:=hc
  have ha:=rj G1 G2 G3 hle (by unfold cS at Cx;omega) di
  exact Av (B6 ha k) G5
theorem G0{f g f1:List Rat}{u v:Rat}(A:dW f u v)(zg:aK g=false)(g0:g≠[])(hd:∀x,evalL f x=evalL f1 x*evalL g x)(hn:¬Zr f u v g):evalL f1 u=0∨evalL f1 v=0∨sg (evalL f1 u) = - sg (evalL f1 v):=by
 have ha:=K3 A zg g0 ⟨f1,hd⟩ hn
 have hle:=A.le
 by_cases he:u=v
 ·subst he
  left
  have hz:evalL f u=0:=by
   rcases A.Jv with ⟨_,k⟩|⟨k,_⟩
   ·exact k
   ·exact absurd k Rat.lt_irrefl
  rw[hd] at hz
  rcases Rat.mul_eq_zero.1 hz with h|h
  ·exact h
  ·exact absurd h (ha.ne Rat.le_refl Rat.le_refl)
 ·have ba:u<v:=by grind
  right;right
  have hs:=A.GM (u:=u) (v:=v) (A.low ba Rat.le_refl) (A.high ba Rat.le_refl) (Or.inl Rat.le_refl) (Or.inl Rat.le_refl) ba
  have hg:=xe hle ha
  have n1:=vd (ha.ne Rat.le_refl hle)
  rw[hd,hd] at hs
  have sm:∀x y:Rat,sg (x*y)=sg x*sg y:=fun x y=>by
   rcases bF x with ⟨a,b⟩|⟨a,b⟩|⟨a,b⟩<;>rcases bF y with ⟨c,d⟩|⟨c,d⟩|⟨c,d⟩<;>rw[b,d]
   ·have:=Rat.mul_pos (show 0 < -x by grind) (show 0 < -y by grind)
    rcases bF (x*y) with k|k|k<;>first|(rw [k.2];decide)|(exfalso;grind)
   ·rw[c,Rat.mul_zero];rfl
   ·have:=Rat.mul_pos (show 0 < -x by grind) c
    rcases bF (x*y) with k|k|k<;>first|(rw [k.2];decide)|(exfalso;grind)
   ·rw[a,Rat.zero_mul];rfl
   ·rw[a,Rat.zero_mul];rfl
   ·rw[a,Rat.zero_mul];rfl
   ·have:=Rat.mul_pos a (show 0 < -y by grind)
    rcases bF (x*y) with k|k|k<;>first|(rw [k.2];decide)|(exfalso;grind)
   ·rw[c,Rat.mul_zero];rfl
   ·have:=Rat.mul_pos a c
    rcases bF (x*y) with k|k|k<;>first|(rw [k.2];decide)|(exfalso;grind)
  rw[sm,sm,hg] at hs
  rcases n1 with n|n<;>rw[hg] at n<;>rw[n] at hs<;>omega
theorem Xn{P1 V1 U1 K F1 w:Rat}{S K1 L1 N:Nat}(h:V1*P1+(U1-V1*K)*F1=1)(hU:ab U1≤twP S)(hV:ab V1≤twP S)(hK:ab K≤twP K1)(hF:ab F1≤twP L1*w)(Hm:0≤w)(hw:w*twP N≤1)(hN:S+K1+L1+2≤N):1≤ab P1*twP N:=by
 have pS:=bU S
 have pK:=bU K1
 have pL:=bU L1
 have e1:ab (U1-V1*K)≤twP (S+K1+1):=by
  have a1:=ml U1 (-(V1*K))
  rw[ET,fS] at a1
  have a2:=cG hV hK (bn V1) (Rat.le_of_lt pK)
  have a3:=bx (show S≤S+K1 by omega)
  rw[cF,fT]
  rw[fT] at a3
  have a4:U1-V1*K=U1 + -(V1*K):=by grind
  rw[a4]
  grind
 have e2:ab ((U1-V1*K)*F1)≤twP (S+K1+1)*(twP L1*w):=by
  rw[fS]
  exact cG e1 hF (bn _) (Rat.mul_nonneg (Rat.le_of_lt pL) Hm)
 have e3:twP (S+K1+1)*(twP L1*w)+twP (S+K1+1)*(twP L1*w)≤1:=by
  have b1:=Rat.mul_le_mul_of_nonneg_left (bx hN) Hm
  have b2:twP (S+K1+L1+2)=twP (S+K1+1)*twP L1+twP (S+K1+1)*twP L1:=by
   rw[←fT,←cF]
   congr 1;omega
  rw[b2] at b1
  grind
 have e4:=ml (V1*P1) ((U1-V1*K)*F1)
 rw[h,show ab 1=1 from rfl,fS] at e4
 have e5:=Rat.mul_le_mul_of_nonneg_right hV (bn P1)
 have e6:=Rat.mul_le_mul_of_nonneg_left (bx (show S+1≤N by omega)) (bn P1)
 rw[cF] at e6
 grind
theorem Pp{f p g f1:List Rat}{u v:Rat}(A:dW f u v)(zp:aK p=false)(lp:p.length≤6)(cp:Ch 7 p)(zg:aK g=false)(g0:g≠[])(hd:∀x,evalL f x=evalL f1 x*evalL g x)(hb:∃U V,∀x,evalL g x=evalL U x*evalL p x+evalL V x*evalL f x)(Lf:¬Zr f u v g)
  (z1:aK f1=false) (l1:f1.length≤6) (c1:Ch 82021 f1) (S0:Fl 13670 f1) (hu:ab u≤twP 32) (hv:ab v≤twP 32) {N:Nat} (hN:1952809344+18373318+437644+2≤N) (hw:(v-u)*twP N≤1):∀x,u≤x→x≤v→1≤ab (evalL p x)*twP N:=by
 have S1:=G0 A zg g0 hd Lf
 have hle:=A.le
 have f10:f1≠[]:=fun e=>by
  have h4:aL f=aL []:=GA (fun z=>by rw[hd z,e];show(0:Rat)*_=0;grind)
  rw[show aL f=f from kG (bh f) A.zf (dC f)] at h4
  exact A.f0 h4
 obtain⟨a,b,dF⟩:=A.Au
 obtain⟨U0,V0,R9⟩:=hb
 have XD:oq f1 p:=by
  refine⟨cY (cY (mulL a g) (mulL b (ak g))) (mulL (mulL (mulL b (ak f1)) V0) g),mulL (mulL b (ak f1)) U0,fun x => ?_⟩
  have h1:=dF x
  have h2:=R9 x
  have h3:=hd x
  have h4:dEv f x=dEv f1 x*evalL g x+evalL f1 x*dEv g x:=by
   rw[mV (q:=mulL f1 g) (fun x=>by rw[aE];exact hd x) x,qu]
  rw[ck,h4] at h1
  simp only[bD,aE,ck]
  generalize evalL a x=A' at *
  generalize evalL b x=B' at *
  generalize evalL g x=G' at *
  generalize evalL f1 x=F' at *
  generalize dEv f1 x=DF at *
  generalize dEv g x=DG at *
  generalize evalL U0 x=U' at *
  generalize evalL V0 x=V' at *
  generalize evalL p x=P' at *
  rw[h3] at h1 h2
  grind
 obtain⟨al,be,Mg⟩:=XD
 have he:=fun x=>Cn (P:=p) z1 f10 x
 have Kx:oq f1 (bk p f1):=⟨cY al (mulL be (cX p f1).1),be,fun x=>by
  have h1:=Mg x
  have h2:=he x
  rw[bD,aE]
  grind⟩
 have r0:bk p f1≠[]:=fun e=>by
  obtain⟨x1,x2,hx⟩:=Kx
  have M6:Dv f1 [1]:=⟨x1,fun x=>by
   have:=hx x
   rw[e] at this
   rw[dL]
   change _+_*(0:Rat)=1 at this
   grind⟩
  have hl:=(M6.len z1 (show aK [(1:Rat)]=false by decide) (by simp)).2
  have ki:=List.length_pos_iff.2 f10
  obtain⟨c,rfl⟩:∃c,f1=[c]:=List.length_eq_one_iff.1 (by simp at hl;omega)
  have hc:c≠0:=cE z1 f10
  rw[dL,dL] at S1
  rcases S1 with k|k|k
  ·exact hc k
  ·exact hc k
  ·rcases vd hc with m|m<;>omega
 have JP:=(fZ p z1 f10).1
 have I1:=List.length_pos_iff.2 f10
 have hm:(p.length+1-f1.length)*(82021+1)≤6*(82021+1):=Nat.mul_le_mul_right _ (by omega)
 have Q4:Ch 492139 (bk p f1):=(cp.rest c1 z1 f10).mono (by omega)
 have hE:v8 82021 492139 6 0 1 f1 (bk p f1):=⟨c1,Q4,by omega,JP,by omega,z1,cL p f1⟩
 have hR:(0:Rat)≤twP 32:=Rat.le_of_lt (bU 32)
 obtain⟨U,V,XE,SV,Qj⟩:=Ni (a:=82021) (b:=492139) (N:=6) (r:=32) (R:=twP 32) (by omega) (by omega) hR Rat.le_refl (by omega) 6 0 1 f1 (bk p f1) hE r0 Kx (by unfold bk at *;omega)
 have hx5:xB 82021 492139 (6-1)=15256323:=by decide
 have hS:32*(4*xB 82021 492139 (6-1)-3*xB 82021 492139 1)≤1952809344:=by rw[hx5];omega
 have SV:=Rat.le_trans SV (bx hS)
 have Qj:=Rat.le_trans Qj (bx hS)
 have hkf:Fl 574160 (cX p f1).1:=eA (Aw cp c1 (by omega) (by omega) z1 f10) (by omega)
 have hkl:=xf (p:=p) z1 f10
 have XF:=EY hR Rat.le_refl (cX p f1).1 (zu hkf)
 have XF:=Rat.le_trans XF (bx (show 32*574160+(32+1)*(cX p f1).1.length≤18373318 from
  Nat.le_trans (Nat.add_le_add_left (Nat.mul_le_mul_left (32+1) (show (cX p f1).1.length≤6 by omega)) _) (by decide)))
 have Rb:=vT hR Rat.le_refl f1 (zu S0)
 have Rb:=Rat.le_trans Rb (bx (show 32*13670+(32+2)*f1.length≤437644 from
  Nat.le_trans (Nat.add_le_add_left (Nat.mul_le_mul_left (32+2) l1) _) (by decide)))
 intro x h1 h2
 have hx:=aY h1 h2 hu hv
 have CF:=mq hu hv S1 h1 h2
 have Hm:0≤v-u:=by grind
 refine Xn (P1:=evalL p x) (V1:=evalL V x) (U1:=evalL U x) (K:=evalL (cX p f1).1 x) (F1:=evalL f1 x) (w:=v-u) ?_ (Rat.le_trans (kP hx U) SV) (Rat.le_trans (kP hx V) Qj) (Rat.le_trans (kP hx _) XF) (Rat.le_trans CF (Rat.mul_le_mul_of_nonneg_right Rb Hm)) Hm hw hN
 have q1:=XE x
 have q2:=he x
 grind
theorem Y4:xB 7 63 5=1951:=by decide
theorem DT{f p:List Rat}(F:Sm f)(P:Sm p){u v:Rat}(A:dW f u v)(hn:¬Zr f u v p)(hu:ab u≤twP 32)(hv:ab v≤twP 32){N:Nat}(hN:1952809344+18373318+437644+2≤N)(hw:(v-u)*twP N≤1):∀x,u≤x→x≤v→1≤ab (evalL p x)*twP N:=by
 have f0:=A.f0
 have Rb:=F.l
 have fi:=tR P.z F.z P.l F.l P.ch F.ch f0
 have zg:=fi.zp
 have g0:=fi.ne
 obtain⟨d1,d2⟩:=gT p f P.z F.z
 have Ao:=List.length_pos_iff.2 g0
 have Lf:¬Zr f u v (bE p f):=fun h=>hn (h.dv d1)
 obtain⟨c,hc⟩:=d2
 have VN:=xb (p:=f) zg g0 (bh c) (show aK []=false from rfl) (by simpa using Ao) (fun x=>by
  rw[bN]
  show _+(0:Rat)=_
  rw[Rat.add_zero]
  exact(hc x).symm)
 have hd:∀x,evalL f x=evalL (cX f (bE p f)).1 x*evalL (bE p f) x:=fun x=>by
  have:=Cn (P:=f) zg g0 x
  rw[show bk f (bE p f)=[] from by unfold bk;rw[VN]] at this
  change _+(0:Rat)=_ at this
  grind
 have hx:xB 7 63 (6-(bE p f).length)≤1951:=by
  rw[←Y4]
  exact cz 7 63 (by omega) (by omega)
 have cg:=fi.ch.mono hx
 have hm:(f.length+1-(bE p f).length)*(1951+1)≤6*(1951+1):=Nat.mul_le_mul_right _ (by omega)
 have S0:Fl 13670 (cX f (bE p f)).1:=eA (Aw F.ch cg (by omega) (by omega) zg g0) (by omega)
 have yI:=xf (p:=f) zg g0
 have l1:(cX f (bE p f)).1.length≤6:=by omega
 have c1:Ch 82021 (cX f (bE p f)).1:=(Ch.DP S0).mono (Nat.le_trans (Nat.add_le_add_right (Nat.mul_le_mul_right 13670 l1) 1) (by decide))
 exact Pp A P.z P.l P.ch zg g0 hd (tJ p f P.z F.z) Lf (kd _ _).1 l1 c1 S0 hu hv hN hw
theorem Co{f g:List Rat} : ∀(n:Nat) (lo hi lo' hi':Rat),dW f lo hi→dW g lo' hi'→mX f g (n+1) lo hi lo' hi'=none →
  ∃u v u' v',dW f u v∧dW g u' v'∧(∀x,aP f u v x=aP f lo hi x)∧(∀x,aP g u' v' x=aP g lo' hi' x)∧lo≤u∧v≤hi∧lo'≤u'∧v'≤hi'∧(v-u)*twP n≤hi-lo∧(v'-u')*twP n≤hi'-lo'∧u'<v∧u<v'
 |0,lo,hi,lo',hi',A,B,h=>by
  rw[mX] at h
  split at h
  ·rename_i ba
   exact⟨lo,hi,lo',hi',A,B,fun _=>rfl,fun _=>rfl,Rat.le_refl,Rat.le_refl,Rat.le_refl,Rat.le_refl,by rw[mn];grind,by rw[mn];grind,ba.1,ba.2⟩
  ·cases h
 |n+1,lo,hi,lo',hi',A,B,h=>by
  rw[mX] at h
  split at h
  ·obtain⟨a1,a2,a3,a4,a5⟩:=fy A
   obtain⟨b1,b2,b3,b4,b5⟩:=fy B
   obtain⟨u,v,u',v',k1,k2,k3,k4,k5,k6,k7,k8,k9,Ut,S3,Vl⟩:=Co n _ _ _ _ a1 b1 h
   refine⟨u,v,u',v',k1,k2,fun x=>by rw[k3,a2],fun x=>by rw[k4,b2],by grind,by grind,by grind,by grind,?_,?_,S3,Vl⟩
   ·rw[cF];grind
   ·rw[cF];grind
  ·cases h
theorem E8{f g:List Rat}{lo hi s t:Rat}(A:dW f lo hi)(zg:aK g=false)(g0:g≠[])(cg:oq g (ak g))(hz:Zr f lo hi g)(aI:s≤t)(h1:aP f lo hi s=1)(h2:aP f lo hi t≤0)(hs:evalL g s≠0):1≤cS g s-cS g t:=by
 have hm:=nJ zg g0 cg aI
 by_cases he:cS g s=cS g t
 ·exfalso
  have ha:=rj zg g0 cg aI he hs
  rcases A.three t with k|k|k
  ·omega
  ·exact ha.ne aI Rat.le_refl ((A.qJ k).1 hz)
  ·exact hz s t h1 k ha
 ·unfold cS at *
  omega
theorem oz{f1 f2 g:List Rat}{S4 La Nx uP s t:Rat}(A:dW f1 S4 La)(B:dW f2 Nx uP)(zg:aK g=false)(g0:g≠[])(cg:oq g (ak g))(hA:Zr f1 S4 La g)(hB:Zr f2 Nx uP g)(ba:GN f1 S4 La f2 Nx uP)(hs:0≤aP f1 S4 La s)(ht:aP f2 Nx uP t≤0) :
  s≤t∧(evalL g s≠0→2≤cS g s-cS g t)∧(evalL g s=0→1≤cS g s-cS g t):=by
 obtain⟨x0,x1,x2⟩:=ba
 obtain⟨x,y1,y2,hx⟩:∃x,aP f1 S4 La x = -1∧aP f2 Nx uP x=1∧evalL g x≠0:=by
  by_cases h:evalL g x0=0
  ·obtain⟨y,h1,h2⟩:=B.E0 x2
   obtain⟨d,d1,d2,d3⟩:=DR cg h (δ:=y-x0) (by grind) 1 (Or.inl rfl)
   have e:x0+1*d=x0+d:=by grind
   rw[e] at d3
   refine⟨x0+d,A.mono (x:=x0) (by grind) (by omega),?_,d3⟩
   by_cases hy:x0+d=y
   ·rw[hy];exact h2
   ·exact B.kJ (y:=y) (by grind) (by omega)
  ·exact⟨x0,x1,x2,h⟩
 have Vi:s<x:=by
  by_cases h:x<s
  ·have:=A.kJ h hs;omega
  ·by_cases e:s=x
   ·rw[e] at hs;omega
   ·grind
 have TB:x<t:=by
  by_cases h:t<x
  ·have:=B.mono h ht;omega
  ·by_cases e:x=t
   ·rw[←e] at ht;omega
   ·grind
 have c2:=E8 B zg g0 cg hB (Rat.le_of_lt TB) y2 ht hx
 refine⟨by grind,fun di => ?_,fun _ => ?_⟩
 ·have h1:aP f1 S4 La s=1:=by
   rcases A.three s with k|k|k
   ·exact k
   ·exact absurd ((A.qJ k).1 hA) di
   ·omega
  have c1:=E8 A zg g0 cg hA (Rat.le_of_lt Vi) h1 (by omega) di
  omega
 ·have hm:=nJ zg g0 cg (Rat.le_of_lt Vi)
  unfold cS at *
  omega
theorem Az{p:List Rat}(P:Sm p)(p0:p≠[]):dG 7 6 p:=⟨P.z,p0,P.l,P.ch,by omega,by omega,by decide +kernel⟩
theorem Qr:32*(4*xB 7 (7+1) (6-1))+32*(7+1)+(32+2)*6+3≤46031:=by decide
theorem nL{f:List Rat}{lo hi s:Rat}(A:dW f lo hi)(h:s≤lo):0≤aP f lo hi s:=by
 by_cases e:s=lo
 ·rw[e];exact A.rk
 ·rw[A.kJ (y:=lo) (by grind) A.rk];omega
theorem po{f:List Rat}{lo hi t:Rat}(A:dW f lo hi)(h:hi≤t):aP f lo hi t≤0:=by
 by_cases e:t=hi
 ·rw[e];exact A.tN
 ·rw[A.mono (x:=hi) (by grind) A.tN];omega
theorem tS{w c:Rat}{M:Nat}(h0:0≤w)(hc:c≤twP 33)(h:w*twP (M+33)≤c):w*twP M≤1:=by
 have p:=bU 33
 rw[fT] at h
 refine Rat.not_lt.1 fun ba => ?_
 have:=Rat.mul_lt_mul_of_pos_right ba p
 grind
theorem IJ{f g:List Rat}(F:Sm f)(G:Sm g){lo hi lo' hi':Rat}(A:dW f lo hi)(B:dW g lo' hi')(di:¬Fk f lo hi g lo' hi')(h1:ab lo≤twP 32)(h2:ab hi≤twP 32)(h3:ab lo'≤twP 32)(h4:ab hi'≤twP 32){N:Nat}(hN:1952809344+18373318+437644+2≤N) :
  ∃r,mX f g (N+237+33+1) lo hi lo' hi'=some r:=by
 cases hr:mX f g (N+237+33+1) lo hi lo' hi' with
 |some r=>exact⟨r,rfl⟩
 |none =>
  exfalso
  obtain⟨u,v,u',v',A1,B1,k3,k4,k5,k6,k7,k8,k9,Ut,S3,Vl⟩:=Co (N+237+33) lo hi lo' hi' A B hr
  have CM:twP 32+twP 32=twP 33:=(cF 32).symm
  have w1:hi-lo≤twP 33:=by have:=lF hi;have:=dO lo;grind
  have w2:hi'-lo'≤twP 33:=by have:=lF hi';have:=dO lo';grind
  have l1:=A1.le
  have l2:=B1.le
  have z1:0≤v-u:=by grind
  have z2:0≤v'-u':=by grind
  have m1:=tS z1 w1 k9
  have m2:=tS z2 w2 Ut
  have bu:=aY k5 (show u≤hi by grind) h1 h2
  have bv:=aY (show lo≤v by grind) k6 h1 h2
  have Uu:=aY k7 (show u'≤hi' by grind) h3 h4
  have Uv:=aY (show lo'≤v' by grind) k8 h3 h4
  have KD:¬Fk f u v g u' v':=fun e=>di (fun x=>by rw[←k3,←k4];exact e x)
  by_cases hz:Zr f u v g
  ·
   have fi:=Az G B.f0
   have he:=fi.SX
   obtain⟨s,Sl,N4,Pq⟩:∃s,s≤u∧s≤u'∧(s=u∨s=u'):=by
    by_cases h:u≤u'
    ·exact⟨u,Rat.le_refl,h,Or.inl rfl⟩
    ·exact⟨u',by grind,Rat.le_refl,Or.inr rfl⟩
   obtain⟨t,SZ,Ur,Qs⟩:∃t,v≤t∧v'≤t∧(t=v∨t=v'):=by
    by_cases h:v≤v'
    ·exact⟨v',h,Rat.le_refl,Or.inr rfl⟩
    ·exact⟨v,Rat.le_refl,by grind,Or.inl rfl⟩
   have bs:ab s≤twP 32:=by rcases Pq with e|e<;>rw[e]<;>assumption
   have bt:ab t≤twP 32:=by rcases Qs with e|e<;>rw[e]<;>assumption
   have hw:(t-s)*twP 46031≤1:=by
    have q1:t-s≤(v-u)+(v'-u'):=by rcases Pq with e|e<;>rcases Qs with e2|e2<;>rw[e,e2]<;>grind
    have q2:twP 46031+twP 46031≤twP (N+237):=by rw[←cF];exact bx (by omega)
    have q3:=Rat.mul_le_mul_of_nonneg_left q2 z1
    have q4:=Rat.mul_le_mul_of_nonneg_left q2 z2
    have q5:=Rat.mul_le_mul_of_nonneg_right q1 (Rat.le_of_lt (bU 46031))
    grind
   have Ny:s≤t→cS g s-cS g t≤1∧(evalL g s=0→cS g s-cS g t≤0):=fun aI =>
    uw (a:=7) (N:=6) (r:=32) (m:=46031) (R:=twP 32) (by omega) he B.f0 B.Au (Rat.le_of_lt (bU 32)) Rat.le_refl (by omega) bs bt aI (Nat.le_trans (Nat.add_le_add_right (Nat.add_le_add_left (Nat.mul_le_mul_left (32+2) G.l) _) 3) Qr) hw
   have fin:∀(P:s≤t∧(evalL g s≠0→2≤cS g s-cS g t)∧(evalL g s=0→1≤cS g s-cS g t)),False:=fun ⟨p1,p2,p3⟩=>by
    obtain⟨q1,q2⟩:=Ny p1
    by_cases h:evalL g s=0
    ·have:=p3 h;have:=q2 h;omega
    ·have:=p2 h;omega
   rcases SW A1 B1 with h|h|h
   ·exact fin (oz A1 B1 B.zf B.f0 B.Au hz B1.own h (nL A1 Sl) (po B1 Ur))
   ·exact KD h
   ·exact fin (oz B1 A1 B.zf B.f0 B.Au B1.own hz h (nL B1 N4) (po A1 SZ))
  ·
   obtain⟨x,x1,x2,x3,x4⟩:∃x,u≤x∧x≤v∧u'≤x∧x≤v':=by
    by_cases h:u≤u'
    ·exact⟨u',h,by grind,Rat.le_refl,l2⟩
    ·exact⟨u,Rat.le_refl,l1,by grind,by grind⟩
   have Lh:(v-u)*twP N≤1:=by
    have:=Rat.mul_le_mul_of_nonneg_left (bx (show N≤N+237 by omega)) z1
    grind
   have zR:=DT F G A1 hz bu bv hN Lh x x1 x2
   have Pc:evalL g u'=0∨evalL g v'=0∨sg (evalL g u') = - sg (evalL g v'):=by
    by_cases he:u'=v'
    ·left
     rcases B1.Jv with ⟨_,k⟩|⟨k,_⟩
     ·exact k
     ·grind
    ·have ba:u'<v':=by grind
     exact Or.inr (Or.inr (B1.GM (B1.low ba Rat.le_refl) (B1.high ba Rat.le_refl) (Or.inl Rat.le_refl) (Or.inl Rat.le_refl) ba))
   have CF:=mq Uu Uv Pc x3 x4
   have IE:=vT (Rat.le_of_lt (bU 32)) Rat.le_refl g (zu G.f)
   have IE:=Rat.le_trans IE (bx (show 32*1+(32+2)*g.length≤236 by have:=G.l;omega))
   have h5:=Rat.le_trans CF (Rat.mul_le_mul_of_nonneg_right IE z2)
   have h6:=Rat.mul_le_mul_of_nonneg_right h5 (Rat.le_of_lt (bU N))
   have e7:twP (N+237)=twP 236*twP N+twP 236*twP N:=by
    rw[←fT,←cF]
    congr 1;omega
   rw[e7] at m2
   grind
theorem yw:∀(l:List Int) (s:Int),varS (-s) (l.map (fun a => -a))=varS s l
 |[],s=>rfl
 |a::r,s=>by
  rw[List.map_cons,varS,varS]
  by_cases h:a=0
  ·rw[if_pos h,if_pos (by omega)]
   exact yw r s
  ·rw[if_neg h,if_neg (by omega),yw r a]
   by_cases h2:a = -s
   ·rw[if_pos h2,if_pos (by omega)]
   ·rw[if_neg h2,if_neg (by omega)]
theorem J5(x y:Rat):sg (x*y)=sg x*sg y:=by
 rcases bF x with ⟨a,b⟩|⟨a,b⟩|⟨a,b⟩<;>rcases bF y with ⟨c,d⟩|⟨c,d⟩|⟨c,d⟩<;>rw[b,d]
 ·have:=Rat.mul_pos (show 0 < -x by grind) (show 0 < -y by grind)
  rcases bF (x*y) with k|k|k<;>first|(rw [k.2];decide)|(exfalso;grind)
 ·rw[c,Rat.mul_zero];rfl
 ·have:=Rat.mul_pos (show 0 < -x by grind) c
  rcases bF (x*y) with k|k|k<;>first|(rw [k.2];decide)|(exfalso;grind)
 ·rw[a,Rat.zero_mul];rfl
 ·rw[a,Rat.zero_mul];rfl
 ·rw[a,Rat.zero_mul];rfl
 ·have:=Rat.mul_pos a (show 0 < -y by grind)
  rcases bF (x*y) with k|k|k<;>first|(rw [k.2];decide)|(exfalso;grind)
 ·rw[c,Rat.mul_zero];rfl
 ·have:=Rat.mul_pos a c
  rcases bF (x*y) with k|k|k<;>first|(rw [k.2];decide)|(exfalso;grind)
theorem Cq{c:Rat}(hc:c≠0):∀(n:Nat) (p d:List Rat),aK d=false→chainF n (a6 c p) (a6 c d)=(chainF n p d).map (a6 c)
 |0,p,d,_=>rfl
 |n+1,p,d,hd=>by
  by_cases h:d=[]
  ·rw[h]
   show chainF (n+1) (a6 c p) []=_
   rw[iV,iV];rfl
  ·have h2:a6 c d≠[]:=fun e=>h (List.eq_nil_of_length_eq_zero (by have:=congrArg List.length e;rwa[jr] at this))
   rw[fV h2,fV h,List.map_cons,yh hd h hc hc]
   have e:aL (a6 (-1) (a6 c (bk p d)))=a6 c (aL (a6 (-1) (bk p d))):=by
    refine kG (bh _) (iB (bh _) c hc) (fun i => ?_)
    rw[dC,ct,ct,ct,dC,ct]
    grind
   rw[e,Cq hc n d _ (bh _)]
theorem xr(p:List Rat)(j:Nat):coef (ak p) j=((1+j:Nat):Int)*coef p (j+1):=by
 have Cx:∀(q:List Rat) (i j:Nat),coef (gz i q) j=((i+j:Nat):Int)*coef q j:=by
  intro q
  induction q with
  |nil=>intro i j;show(0:Rat)=_*0;grind
  |cons a q ih =>
   intro i j
   cases j with
   |zero=>show((i:Int):Rat)*a=_;rfl
   |succ j=>exact(ih (i+1) j).trans (by rw[show i+1+j=i+(j+1) by omega];rfl)
 unfold ak
 rw[dC,Cx]
 congr 1
 cases p with
 |nil=>rfl
 |cons a p=>rfl
theorem G6{c:Rat}(hc:c≠0)(p:List Rat):ak (a6 c p)=a6 c (ak p):=by
 refine kG (bj _) (iB (bj _) c hc) (fun i => ?_)
 rw[xr,ct,ct,xr]
 grind
theorem J6{c:Rat}(hc:c≠0)(f:List Rat)(x:Rat):cS (a6 c f) x=cS f x:=by
 unfold cS
 rw[jr,G6 hc,Cq hc _ _ _ (bj f)]
 unfold fG
 rw[List.map_map]
 rcases vd hc with k|k
 ·congr 1
  refine List.map_congr_left (fun g _ => ?_)
  show sg (evalL (a6 c g) x)=_
  rw[aU,J5,k];omega
 ·have e:(chainF f.length f (ak f)).map ((fun g=>sg (evalL g x)) ∘ a6 c)=((chainF f.length f (ak f)).map (fun g=>sg (evalL g x))).map (fun a => -a):=by
   rw[List.map_map]
   refine List.map_congr_left (fun g _ => ?_)
   show sg (evalL (a6 c g) x) = - sg (evalL g x)
   rw[aU,J5,k];omega
  rw[e]
  exact yw _ 0
theorem G7{p:List Rat}(hz:aK p=false)(h0:p≠[])(hc:oq p (ak p)):bH p=a6 (1/bX p) p:=by
 have hg:=Iz hz (bj p) hc
 unfold bH
 rw[hg]
 have hd:=xb (p:=p) (q:=[1]) (a:=p) (r:=[]) (by decide) (by simp) hz rfl (by simp) (fun x=>by
  rw[dL]
  show _+(0:Rat)=_
  grind)
 rw[hd]
 exact mU hz h0
theorem IK{p:List Rat}(hz:aK p=false)(h0:p≠[])(hc:oq p (ak p)){lo hi:Rat}(hle:lo≤hi)(h:II p lo hi=true):dW p lo hi:=by
 have hf:=G7 hz h0 hc
 have ht:=cE hz h0
 have La:(1:Rat)/bX p≠0:=fun e=>by
  have:=Rat.div_mul_cancel (a:=1) ht
  rw[e] at this
  grind
 have S1:∀x,fG (bA p) x=cS p x:=fun x=>by
  show cS (bH p) x=cS p x
  rw[hf];exact J6 La p x
 have sO:∀x,evalL (bH p) x=1/bX p*evalL p x:=fun x=>by rw[hf,aU]
 unfold II at h
 refine⟨hz,h0,hc,?_⟩
 by_cases he:lo=hi
 ·rw[decide_eq_true he,cond_true,decide_eq_true_iff,sO] at h
  rcases Rat.mul_eq_zero.1 h with k|k
  ·exact absurd k La
  ·exact Or.inl ⟨he,k⟩
 ·rw[decide_eq_false he,cond_false,Bool.and_eq_true,decide_eq_true_iff,decide_eq_true_iff,S1,S1] at h
  have nz:∀x,sg (evalL (bH p) x)≠0→evalL p x≠0:=fun x hx e=>hx (by rw[sO,e,Rat.mul_zero];rfl)
  refine Or.inr ⟨by grind,nz lo (fun e => ?_),nz hi (fun e => ?_),h.2⟩
  ·rw[e] at h;have:=h.1;omega
  ·rw[e] at h;have:=h.1;omega
namespace Ov
theorem IL{a c d x:Rat}(h1:c≤x)(h2:x≤d):fa (a*c) (a*d)≤a*x:=by
 rcases Rat.le_total (a:=0) (b:=a) with h|h
 ·have:=Rat.mul_nonneg h (show 0≤x-c by grind)
  have:=jo (a*c) (a*d)
  grind
 ·have:=Rat.mul_nonneg (show 0 ≤ -a by grind) (show 0≤d-x by grind)
  have:=jq (a*c) (a*d)
  grind
theorem IM{a c d x:Rat}(h1:c≤x)(h2:x≤d):a*x≤fR (a*c) (a*d):=by
 rcases Rat.le_total (a:=0) (b:=a) with h|h
 ·have:=Rat.mul_nonneg h (show 0≤d-x by grind)
  have:=ka (a*c) (a*d)
  grind
 ·have:=Rat.mul_nonneg (show 0 ≤ -a by grind) (show 0≤x-c by grind)
  have:=iA (a*c) (a*d)
  grind
theorem Sn{a b c d x y:Rat}(h1:a≤y)(h2:y≤b)(h3:c≤x)(h4:x≤d):mr a b c d≤y*x∧y*x≤mu a b c d:=by
 unfold mr mu
 have l1:=IL (a:=a) h3 h4
 have l2:=IL (a:=b) h3 h4
 have l3:=IL (a:=x) h1 h2
 have u1:=IM (a:=a) h3 h4
 have u2:=IM (a:=b) h3 h4
 have u3:=IM (a:=x) h1 h2
 constructor
 ·refine Rat.le_trans (JH (a:=fa (fa (fa (a*c) (a*d)) (b*c)) (b*d)) (p:=x*a) (q:=x*b) ?_ ?_) (by grind)
  ·exact Rat.le_trans (jo _ _) (Rat.le_trans (jo _ _) (by grind))
  ·refine Rat.le_trans (JH (p:=b*c) (q:=b*d) ?_ (jq _ _)) (by grind)
   exact Rat.le_trans (jo _ _) (jq _ _)
 ·refine Rat.le_trans (show y*x≤fR (x*a) (x*b) by grind) (w8 ?_ ?_)
  ·exact Rat.le_trans (show x*a≤fR (a*c) (a*d) by grind) (Rat.le_trans (iA _ _) (iA _ _))
  ·refine Rat.le_trans (show x*b≤fR (b*c) (b*d) by grind) (w8 ?_ (ka _ _))
   exact Rat.le_trans (ka _ _) (iA _ _)
theorem val{c d x:Rat}(h1:c≤x)(h2:x≤d):∀q:List Rat,(cu q c d).1≤evalL q x∧evalL q x≤(cu q c d).2
 |[]=>⟨Rat.le_refl,Rat.le_refl⟩
 |a::r=>by
  obtain⟨g1,g2⟩:=val h1 h2 r
  obtain⟨m1,m2⟩:=Sn g1 g2 h1 h2
  show mr _ _ _ _+a≤evalL r x*x+a∧evalL r x*x+a≤mu _ _ _ _+a
  constructor<;>grind
theorem min_mem(p q:Rat):fa p q=p∨fa p q=q:=by unfold fa;split<;>simp
theorem max_mem(p q:Rat):fR p q=p∨fR p q=q:=by unfold fR;split<;>simp
theorem XG{x0 u v:Rat}(h:u≤v):cu [-x0,1] u v=(u-x0,v-x0):=by
 have e:cu [-x0,1] u v=(mr (cu [1] u v).1 (cu [1] u v).2 u v + -x0,mu (cu [1] u v).1 (cu [1] u v).2 u v + -x0):=rfl
 rw[e,KY]
 have h1:mr 1 1 u v=u:=by
  unfold mr
  rw[Rat.one_mul,Rat.one_mul,pd h,yf,pd h]
 have h2:mu 1 1 u v=v:=by
  unfold mu
  rw[Rat.one_mul,Rat.one_mul,vP h]
  have hv:fR v u=v:=by
   rcases max_mem v u with k|k
   ·exact k
   ·have:=iA v u
    rw[k] at this ⊢
    grind
  rw[hv,yg]
 show(mr 1 1 u v + -x0,mu 1 1 u v + -x0)=_
 rw[h1,h2,Rat.sub_eq_add_neg,Rat.sub_eq_add_neg]
end Ov
def Nz(p f:List Rat):Nat→Rat→Rat→Option Int
 |0,_,_=>none
 |n+1,lo,hi=>if 0<(cu p lo hi).1 then some 1 else if (cu p lo hi).2<0 then some (-1) else Nz p f n (dY f lo hi).1 (dY f lo hi).2
theorem rq{f:List Rat}{lo hi:Rat}(A:dW f lo hi):aP f (dY f lo hi).1 (dY f lo hi).2=aP f lo hi:=funext (fy A).2.1
theorem G8{f p:List Rat}{lo hi:Rat}(A:dW f lo hi){s:Int}(hs:s=1∨s = -1){c:Rat}(hc:0<c)(h:∀x,lo≤x→x≤hi→sg (evalL p x)=s∧c≤ab (evalL p x)):Ql f lo hi p s:=by
 by_cases he:lo=hi
 ·subst he
  obtain⟨h1,h2⟩:=h lo Rat.le_refl Rat.le_refl
  have di:evalL p lo≠0:=fun e=>by rw[e,ot] at h2;grind
  obtain⟨δ,d0,hδ⟩:=rl di
  refine Or.inr ⟨hs,lo-δ,lo+δ,?_,?_,hδ,?_⟩
  ·unfold aP;rw[if_pos rfl];exact mo (by grind)
  ·unfold aP;rw[if_pos rfl];exact kI (by grind)
  ·rw[xe (show lo-δ≤lo by grind) (hδ.sub Rat.le_refl (by grind)),h1]
 ·have ba:lo<hi:=by have:=A.le;grind
  exact Or.inr ⟨hs,lo,hi,A.low ba Rat.le_refl,A.high ba Rat.le_refl,⟨c,hc,fun x a b=>(h x a b).2⟩,(h lo Rat.le_refl A.le).1⟩
theorem G9{f p:List Rat} : ∀(n:Nat) (lo hi:Rat) (s:Int),dW f lo hi→Nz p f n lo hi=some s→Ql f lo hi p s∧(s=1∨s = -1)
 |0,_,_,_,_,h=>by cases h
 |n+1,lo,hi,s,A,h=>by
  rw[Nz] at h
  by_cases h1:0<(cu p lo hi).1
  ·rw[if_pos h1] at h
   injection h with h
   subst h
   refine⟨G8 A (Or.inl rfl) h1 (fun x a b => ?_),Or.inl rfl⟩
   obtain⟨o1,o2⟩:=Ov.val a b p
   have:=lF (evalL p x)
   refine⟨?_,by grind⟩
   rcases bF (evalL p x) with k|k|k<;>first|exact k.2|(exfalso;grind)
  ·rw[if_neg h1] at h
   by_cases h2:(cu p lo hi).2<0
   ·rw[if_pos h2] at h
    injection h with h
    subst h
    refine⟨G8 A (Or.inr rfl) (c := -(cu p lo hi).2) (by grind) (fun x a b => ?_),Or.inr rfl⟩
    obtain⟨o1,o2⟩:=Ov.val a b p
    have:=dO (evalL p x)
    refine⟨?_,by grind⟩
    rcases bF (evalL p x) with k|k|k<;>first|exact k.2|(exfalso;grind)
   ·rw[if_neg h2] at h
    obtain⟨k1,k2⟩:=G9 n _ _ s (fy A).1 h
    refine⟨?_,k2⟩
    unfold Ql at k1 ⊢
    rw[rq A] at k1
    exact k1
theorem Ha{f p:List Rat} : ∀(n:Nat) (lo hi:Rat),dW f lo hi→Nz p f (n+1) lo hi=none →
  ∃u v,dW f u v∧aP f u v=aP f lo hi∧lo≤u∧v≤hi∧(v-u)*twP n≤hi-lo∧(cu p u v).1≤0∧0≤(cu p u v).2
 |0,lo,hi,A,h=>by
  rw[Nz] at h
  split at h
  ·cases h
  ·split at h
   ·cases h
   ·exact⟨lo,hi,A,rfl,Rat.le_refl,Rat.le_refl,by rw[mn];grind,by grind,by grind⟩
 |n+1,lo,hi,A,h=>by
  rw[Nz] at h
  split at h
  ·cases h
  ·split at h
   ·cases h
   ·obtain⟨a1, -,a3,a4,a5⟩:=fy A
    obtain⟨u,v,k1,k2,k3,k4,k5,k6,k7⟩:=Ha n _ _ a1 h
    exact⟨u,v,k1,by rw[k2,rq A],by grind,by grind,by rw[cF];grind,k6,k7⟩
theorem NA{w:Rat}{m n:Nat}(h0:0≤w)(Vm:m≤n)(h:w*twP n≤1):w*twP m≤1:=by
 have:=Rat.mul_le_mul_of_nonneg_left (bx Vm) h0
 grind
theorem dW.Uw{f:List Rat}{u v:Rat}(A:dW f u v):evalL f u=0∨evalL f v=0∨sg (evalL f u) = - sg (evalL f v):=by
 by_cases he:u=v
 ·left
  rcases A.Jv with ⟨_,k⟩|⟨k,_⟩
  ·exact k
  ·grind
 ·have ba:u<v:=by have:=A.le;grind
  exact Or.inr (Or.inr (A.GM (A.low ba Rat.le_refl) (A.high ba Rat.le_refl) (Or.inl Rat.le_refl) (Or.inl Rat.le_refl) ba))
theorem Pr{f:List Rat}{lo hi x0:Rat}(F:Sm f)(A:dW f lo hi)(hx:aP f lo hi x0≠0){k:Nat}(hk:1≤k)(Qh:ht x0≤k)(h1:ab lo≤twP 32)(h2:ab hi≤twP 32){N:Nat}(hN:32*(6*(2*k+1)+1)+237≤N):∃s,Nz [-x0,1] f (N+33+1) lo hi=some s:=by
 cases hr:Nz [-x0,1] f (N+33+1) lo hi with
 |some s=>exact⟨s,rfl⟩
 |none =>
  exfalso
  obtain⟨u,v,k1,k2,k3,k4,k5,k6,k7⟩:=Ha (N+33) lo hi A hr
  have hle:=k1.le
  have w0:0≤v-u:=by grind
  have bu:=aY k3 (show u≤hi by grind) h1 h2
  have bv:=aY (show lo≤v by grind) k4 h1 h2
  have w1:hi-lo≤twP 33:=by
   have CM:twP 32+twP 32=twP 33:=(cF 32).symm
   have:=lF hi;have:=dO lo;grind
  have m1:=tS w0 w1 k5
  rw[Ov.XG hle] at k6 k7
  have x1:u≤x0:=by have:u-x0≤0:=k6;grind
  have x2:x0≤v:=by have:0≤v-x0:=k7;grind
  have di:evalL f x0≠0:=fun e=>by
   by_cases mw:u=v
   ·exact hx (by rw[←k2];unfold aP;rw[if_pos mw];exact ew.2 (by grind))
   ·have ba:u<v:=by grind
    have en:=k1.ends ba
    have a1:u<x0:=by
     by_cases q:u=x0
     ·exact absurd (by rw[q];exact e) en.1
     ·grind
    have a2:x0<v:=by
     by_cases q:x0=v
     ·exact absurd (by rw[←q];exact e) en.2.1
     ·grind
    rcases k1.kt ba a1 a2 with m|m|m
    ·exact m.2.1 e
    ·exact hx (by rw[←k2];exact m.1)
    ·exact m.2.1 e
  have hh:=nh f x0 k (eA F.f hk) Qh
  have hm:f.length*(2*k+1)≤6*(2*k+1):=Nat.mul_le_mul_right _ F.l
  have zR:=R7 di
  have Y5:=Rat.mul_le_mul_of_nonneg_left (bx (show 32*ht (evalL f x0)≤32*(6*(2*k+1)+1) by omega)) (bn (evalL f x0))
  have CF:=mq bu bv k1.Uw x1 x2
  have IE:=vT (Rat.le_of_lt (bU 32)) Rat.le_refl f (zu F.f)
  have IE:=Rat.le_trans IE (bx (show 32*1+(32+2)*f.length≤236 by have:=F.l;omega))
  have h5:=Rat.le_trans CF (Rat.mul_le_mul_of_nonneg_right IE w0)
  have m2:=NA w0 hN m1
  generalize 32*(6*(2*k+1)+1)=H at *
  have h6:=Rat.mul_le_mul_of_nonneg_right h5 (Rat.le_of_lt (bU H))
  have e7:twP (H+237)=twP 236*twP H+twP 236*twP H:=by
   rw[←fT,←cF]
   congr 1;omega
  rw[e7] at m2
  grind
theorem Ps{f:List Rat}{lo hi x0:Rat}(A:dW f lo hi){s:Int}(h:Ql f lo hi [-x0,1] s):s=aP f lo hi x0:=by
 have ev:∀x,evalL [-x0,1] x=x-x0:=fun x=>by show(0*x+1)*x + -x0=_;grind
 refine h.uniq A ?_
 rcases A.three x0 with k|k|k
 ·obtain⟨y,y1,y2⟩:=A.E0 k
  obtain⟨n1,n2⟩:=A.Vh
  have hl:=A.nK y2 n2
  refine Or.inr ⟨Or.inl k,y,hi+1,y2,n2,⟨y-x0,by grind,fun x a b => ?_⟩,?_⟩
  ·rw[ev];have:=lF (x-x0);grind
  ·rw[ev,k];rcases bF (y-x0) with q|q|q<;>first|exact q.2|(exfalso;grind)
 ·refine Or.inl ⟨k,?_⟩
  have:Zr f lo hi [-x0,1]:=(A.qJ k).2 (by rw[ev];grind)
  exact this
 ·obtain⟨y,y1,y2⟩:=A.JX k
  obtain⟨n1,n2⟩:=A.Vh
  have hl:=A.nK n1 y2
  refine Or.inr ⟨Or.inr k,lo-1,y,n1,y2,⟨x0-y,by grind,fun x a b => ?_⟩,?_⟩
  ·rw[ev];have:=dO (x-x0);grind
  ·rw[ev,k];rcases bF (lo-1-x0) with q|q|q<;>first|exact q.2|(exfalso;grind)
theorem dW.meet{f:List Rat}{lo hi u v u' v':Rat}(A:dW f lo hi)(h1:aP f lo hi u=1)(h2:aP f lo hi v = -1)(k1:aP f lo hi u'=1)(k2:aP f lo hi v' = -1):∃a b,aP f lo hi a=1∧aP f lo hi b = -1∧u≤a∧u'≤a∧b≤v∧b≤v':=by
 obtain⟨a,a1,a2,a3⟩:∃a,aP f lo hi a=1∧u≤a∧u'≤a:=by
  by_cases h:u≤u'
  ·exact⟨u',k1,h,Rat.le_refl⟩
  ·exact⟨u,h1,Rat.le_refl,by grind⟩
 obtain⟨b,b1,b2,b3⟩:∃b,aP f lo hi b = -1∧b≤v∧b≤v':=by
  by_cases h:v≤v'
  ·exact⟨v,h2,Rat.le_refl,h⟩
  ·exact⟨v',k2,by grind,Rat.le_refl⟩
 exact⟨a,b,a1,b1,a2,a3,b2,b3⟩
structure Wd (p:List Rat):Prop where
 z:aK p=false
 l:p.length≤9
 ch:Ch 2000 p
theorem Wd.XG{x0:Rat}(h:ht x0≤900):Wd [-x0,1]:=by
 have hf:Fl 900 [-x0,1]:=fun x hx=>by
  simp at hx
  rcases hx with rfl|rfl
  ·rw[vN];exact h
  ·decide
 exact⟨decide_eq_false (show ¬(1:Rat)=0 by decide),by simp,(Ch.DP hf).mono (by simp)⟩
theorem Wd.fl{p:List Rat}(h:Wd p):Fl 2000 p:=h.ch.fl (by omega)
theorem Pu:∀l,l<7→sB (xB 7 2080 (6-l)) l≤1073741824:=by decide +kernel
theorem K4{p q:List Rat}(P:Wd p)(Q:Sm q)(q0:q≠[]):dG (xB 7 2080 (6-(bE p q).length)) (bE p q).length (bE p q):=by
 have zp:=P.z
 have zq:=Q.z
 have hp:=P.ch
 have hq:=Q.ch
 have lp:=P.l
 have lq:=Q.l
 have Cw:=List.length_pos_iff.2 q0
 have zg:=eu p q
 have zF:=ke (q.length+1) p q zp zq
 have g0:bE p q≠[]:=ox zF (xc _ _ _ (Or.inr ⟨q0,by omega⟩))
 have hl:(bE p q).length≤6:=by have:=((gT p q zp zq).2.len zg zq q0).2;omega
 have Sk:(bE p q).length=(gB (q.length+1) p q).length:=bL zF
 have hr:Ch 2080 (bk p q):=(hp.rest hq zq q0).mono (by
  have:(p.length+1-q.length)*(7+1)≤9*(7+1):=Nat.mul_le_mul_right _ (by omega)
  omega)
 have JP:(bk p q).length<q.length:=(fZ p zq q0).1
 have hE:v8 7 2080 6 0 1 q (bP (bk p q)):=⟨hq,hr.fx (by omega) (cL p q),by omega,by rw[bL (cL p q)];exact JP,by omega,zq,bW _⟩
 have e1:gB (q.length+1) p q=gB q.length q (bP (bk p q)):=by
  rw[gB,fh.2 (by omega),cond_false]
 have hc:=Cl (a:=7) (b:=2080) (N:=6) (by omega) (by omega) q.length 0 1 q (bP (bk p q)) hE
 rw[←e1,←Sk] at hc
 have h1:1≤xB 7 2080 (6-(bE p q).length):=sw (by omega) (by omega) _
 exact⟨zg,g0,Nat.le_refl _,hc.fx h1 zF,h1,by omega,Pu _ (by omega)⟩
theorem Y6:4*xB 7 2080 (9+2)+10≤68719476736:=by decide
theorem val_mod{D:Int}(x:Rat):∀(p:List Rat),p≠[]→(∀i,∃n:Int,coef p i*(D:Rat)=(n:Rat))→∃m t:Int,bX p*(D:Rat)=(t:Rat)∧evalL p x*(D:Rat)*((((x.den:Int)^(p.length-1):Int)):Rat)=((t*x.num^(p.length-1)+m*(x.den:Int):Int):Rat)
 |[],h,_=>absurd rfl h
 |[c],_,h=>by
  obtain⟨n,hn⟩:=h 0
  have hn:c*(D:Rat)=(n:Rat):=hn
  refine⟨0,n,hn,?_⟩
  rw[dL]
  show c*(D:Rat)*(((x.den:Int)^0:Int):Rat)=((n*x.num^0+0*(x.den:Int):Int):Rat)
  rw[Int.pow_zero,Int.pow_zero,Int.mul_one,Int.zero_mul,Int.add_zero,hn]
  show(n:Rat)*1=_
  rw[Rat.mul_one]
 |c::b::r,_,h=>by
  obtain⟨m,t,h1,h2⟩:=val_mod x (b::r) (by simp) (fun i=>h (i+1))
  obtain⟨n,hn⟩:=h 0
  have hn:c*(D:Rat)=(n:Rat):=hn
  refine⟨m*x.num+n*(x.den:Int)^(b::r).length.pred,t,h1,?_⟩
  have e1:(c::b::r).length-1=(b::r).length.pred+1:=by simp
  have e2:(b::r).length-1=(b::r).length.pred:=rfl
  rw[e2] at h2
  rw[e1]
  generalize (b::r).length.pred=k at *
  have hx:=GK x
  have ev:evalL (c::b::r) x=evalL (b::r) x*x+c:=rfl
  rw[ev,Int.pow_succ,Int.pow_succ]
  have e3:(((x.den:Int)^k*(x.den:Int):Int):Rat)=(((x.den:Int)^k:Int):Rat)*((x.den:Int):Rat):=Rat.intCast_mul _ _
  rw[e3]
  have e4:((t*(x.num^k*x.num)+(m*x.num+n*(x.den:Int)^k)*(x.den:Int):Int):Rat)=((t*x.num^k+m*(x.den:Int):Int):Rat)*(x.num:Rat)+(n:Rat)*(((x.den:Int)^k:Int):Rat)*((x.den:Int):Rat):=by
   rw[←Rat.intCast_mul,←Rat.intCast_mul,←Rat.intCast_mul,←Rat.intCast_add]
   congr 1
   grind
  rw[e4,←h2,←hx,←hn]
  grind
theorem J7{f:List Rat}(F:Sm f)(f0:f≠[]){x:Rat}(h:evalL f x=0)(hb:ab x≤twP 32):ht x≤8:=by
 obtain⟨D,d1,d2,d3⟩:=F.ch
 obtain⟨m,t,h1,h2⟩:=val_mod x f f0 (fun i=>by obtain⟨n,a,_⟩:=d3 i;exact⟨n,a⟩)
 have Qh:t≠0:=fun e=>by
  rw[e] at h1
  rcases Rat.mul_eq_zero.1 h1 with k|k
  ·exact cE F.z f0 k
  ·exact su d1 k
 have hw:wl t≤7:=by
  obtain⟨n,a,b⟩:=d3 (f.length-1)
  have e:bX f*(D:Rat)=(n:Rat):=a
  have:t=n:=Rat.intCast_inj.1 (by rw[←h1,e])
  rw[this];exact b
 rw[h,Rat.zero_mul,Rat.zero_mul] at h2
 have h3:t*x.num^(f.length-1)+m*(x.den:Int)=0:=(Rat.intCast_inj.1 h2).symm
 have hd:x.den∣t.natAbs*x.num.natAbs^(f.length-1):=by
  have:(x.den:Int)∣t*x.num^(f.length-1):=⟨-m,by grind⟩
  have:=Int.natAbs_dvd_natAbs.2 this
  rwa[Int.natAbs_natCast,Int.natAbs_mul,Int.natAbs_pow] at this
 have hc:Nat.Coprime x.den (x.num.natAbs^(f.length-1)):=Nat.Coprime.pow_right _ x.reduced.symm
 have QN:x.den∣t.natAbs:=hc.dvd_of_dvd_mul_right hd
 have hle:x.den≤t.natAbs:=Nat.le_of_dvd (by omega) QN
 have ba:=BO t
 have hp:4294967296^wl t≤4294967296^7:=Nat.pow_le_pow_right (by omega) hw
 have Pg:x.den<4294967296^7:=by omega
 have Ux:x.num.natAbs<4294967296^8:=by
  have e1:=GK x
  have e2:ab (x.num:Rat)=ab x*ab ((x.den:Int):Rat):=by rw[←e1,fS]
  rw[yk,yk] at e2
  have e3:=Rat.mul_le_mul_of_nonneg_right hb (show (0:Rat)≤((((x.den:Int).natAbs:Nat):Int):Rat) by
   have:(0:Int)≤(((x.den:Int).natAbs:Nat):Int):=by omega
   exact Rat.intCast_le_intCast.2 this)
  rw[←e2] at e3
  unfold twP at e3
  rw[←Rat.intCast_mul] at e3
  have e4:=Rat.intCast_le_intCast.1 e3
  have e5:4294967296^8=4294967296^7*4294967296:=Nat.pow_succ ..
  have e6:2^32=4294967296:=by decide
  rw[Int.natAbs_natCast,e6] at e4
  generalize 4294967296^7=B at *
  omega
 have w1:wl x.num≤8:=mC Ux
 have w2:wl (x.den:Int)≤7:=mC (by rw[Int.natAbs_natCast];exact Pg)
 unfold ht
 omega
theorem NB{f g:List Rat}(hd:Dv g f)(hc:oq f (ak f)):oq g (ak g):=by
 obtain⟨c,zk⟩:=hd
 obtain⟨a,b,dF⟩:=hc
 refine⟨cY (mulL a c) (mulL b (ak c)),mulL b c,fun x => ?_⟩
 have h1:=dF x
 have h3:=zk x
 have h4:dEv f x=dEv c x*evalL g x+evalL c x*dEv g x:=by
  rw[mV (q:=mulL c g) (fun x=>by rw[aE];exact zk x) x,qu]
 rw[ck,h4] at h1
 simp only[bD,aE,ck]
 rw[h3] at h1
 grind
theorem Vn{p:List Rat}(hz:aK p=false)(h0:p≠[])(hc:oq p (ak p))(x:Rat):fG (bA p) x=cS p x:=by
 have hf:=G7 hz h0 hc
 have ht:=cE hz h0
 have La:(1:Rat)/bX p≠0:=fun e=>by
  have:=Rat.div_mul_cancel (a:=1) ht
  rw[e] at this
  grind
 show cS (bH p) x=cS p x
 rw[hf];exact J6 La p x
theorem Pv{f g:List Rat}(F:Sm f)(G:Sm g){u v u' v':Rat}(A1:dW f u v)(B1:dW g u' v')(bu:ab u≤twP 32)(bv:ab v≤twP 32)(Uu:ab u'≤twP 32)(Uv:ab v'≤twP 32){N:Nat}(hN:1952809344+18373318+437644+2≤N)
  (m1:(v-u)*twP (N+237)≤1) (m2:(v'-u')*twP (N+237)≤1) (o1:u'≤v) (o2:u≤v'):Fk f u v g u' v':=by
 refine Classical.byContradiction fun KD => ?_
 have l1:=A1.le
 have l2:=B1.le
 have z1:0≤v-u:=by grind
 have z2:0≤v'-u':=by grind
 by_cases hz:Zr f u v g
 ·
  have fi:=Az G B1.f0
  have he:=fi.SX
  obtain⟨s,Sl,N4,Pq⟩:∃s,s≤u∧s≤u'∧(s=u∨s=u'):=by
   by_cases h:u≤u'
   ·exact⟨u,Rat.le_refl,h,Or.inl rfl⟩
   ·exact⟨u',by grind,Rat.le_refl,Or.inr rfl⟩
  obtain⟨t,SZ,Ur,Qs⟩:∃t,v≤t∧v'≤t∧(t=v∨t=v'):=by
   by_cases h:v≤v'
   ·exact⟨v',h,Rat.le_refl,Or.inr rfl⟩
   ·exact⟨v,Rat.le_refl,by grind,Or.inl rfl⟩
  have bs:ab s≤twP 32:=by rcases Pq with e|e<;>rw[e]<;>assumption
  have bt:ab t≤twP 32:=by rcases Qs with e|e<;>rw[e]<;>assumption
  have hw:(t-s)*twP 46031≤1:=by
   have q1:t-s≤(v-u)+(v'-u'):=by rcases Pq with e|e<;>rcases Qs with e2|e2<;>rw[e,e2]<;>grind
   have q2:twP 46031+twP 46031≤twP (N+237):=by rw[←cF];exact bx (by omega)
   have q3:=Rat.mul_le_mul_of_nonneg_left q2 z1
   have q4:=Rat.mul_le_mul_of_nonneg_left q2 z2
   have q5:=Rat.mul_le_mul_of_nonneg_right q1 (Rat.le_of_lt (bU 46031))
   grind
  have Ny:s≤t→cS g s-cS g t≤1∧(evalL g s=0→cS g s-cS g t≤0):=fun aI =>
   uw (a:=7) (N:=6) (r:=32) (m:=46031) (R:=twP 32) (by omega) he B1.f0 B1.Au (Rat.le_of_lt (bU 32)) Rat.le_refl (by omega) bs bt aI (Nat.le_trans (Nat.add_le_add_right (Nat.add_le_add_left (Nat.mul_le_mul_left (32+2) G.l) _) 3) Qr) hw
  have fin:∀(P:s≤t∧(evalL g s≠0→2≤cS g s-cS g t)∧(evalL g s=0→1≤cS g s-cS g t)),False:=fun ⟨p1,p2,p3⟩=>by
   obtain⟨q1,q2⟩:=Ny p1
   by_cases h:evalL g s=0
   ·have:=p3 h;have:=q2 h;omega
   ·have:=p2 h;omega
  rcases SW A1 B1 with h|h|h
  ·exact fin (oz A1 B1 B1.zf B1.f0 B1.Au hz B1.own h (nL A1 Sl) (po B1 Ur))
  ·exact KD h
  ·exact fin (oz B1 A1 B1.zf B1.f0 B1.Au B1.own hz h (nL B1 N4) (po A1 SZ))
 ·
  obtain⟨x,x1,x2,x3,x4⟩:∃x,u≤x∧x≤v∧u'≤x∧x≤v':=by
   by_cases h:u≤u'
   ·exact⟨u',h,o1,Rat.le_refl,l2⟩
   ·exact⟨u,Rat.le_refl,l1,by grind,o2⟩
  have zR:=DT F G A1 hz bu bv hN (NA z1 (by omega) m1) x x1 x2
  have CF:=mq Uu Uv B1.Uw x3 x4
  have IE:=vT (Rat.le_of_lt (bU 32)) Rat.le_refl g (zu G.f)
  have IE:=Rat.le_trans IE (bx (show 32*1+(32+2)*g.length≤236 by have:=G.l;omega))
  have h5:=Rat.le_trans CF (Rat.mul_le_mul_of_nonneg_right IE z2)
  have h6:=Rat.mul_le_mul_of_nonneg_right h5 (Rat.le_of_lt (bU N))
  have e7:twP (N+237)=twP 236*twP N+twP 236*twP N:=by
   rw[←fT,←cF]
   congr 1;omega
  rw[e7] at m2
  grind
def Hb(f k g:List Rat)(lo hi lo' hi':Rat):Bool :=
 CT g f lo hi&&(CT g k lo' hi'&&(decide (fG (bA g) (fa lo lo')-fG (bA g) (fR hi hi')=1)&&decide (evalL g (fa lo lo')≠0)))
def ve(f k g:List Rat):Nat→Rat→Rat→Rat→Rat→Option Int
 |0,_,_,_,_=>none
 |n+1,lo,hi,lo',hi' =>
  if hi<lo' then some (-1) else if hi'<lo then some 1 else if lo'=hi' then some (aP f lo hi lo') else if lo=hi then some (-(aP k lo' hi' lo)) else
  if Hb f k g lo hi lo' hi'=true then some 0 else ve f k g n (dY f lo hi).1 (dY f lo hi).2 (dY k lo' hi').1 (dY k lo' hi').2
theorem dW.So{f:List Rat}{lo hi x0:Rat}(A:dW f lo hi)(h:aP f lo hi x0=0)(x:Rat):aP f lo hi x=eh x0 x:=by
 rcases eM x0 x with k|k|k
 ·rw[k.2];exact A.mono k.1 (by omega)
 ·rw[k.2,←k.1];exact h
 ·rw[k.2];exact A.kJ k.1 (by omega)
def Cm(s:Int)(f:List Rat)(lo hi:Rat)(k:List Rat)(lo' hi':Rat):Prop:=(s=0∧Fk f lo hi k lo' hi')∨(s = -1∧GN f lo hi k lo' hi')∨(s=1∧GN k lo' hi' f lo hi)
theorem Cm.uniq{s t:Int}{f k:List Rat}{lo hi lo' hi':Rat}(A:dW f lo hi)(B:dW k lo' hi')(h:Cm s f lo hi k lo' hi')(m:Cm t f lo hi k lo' hi'):s=t:=by
 have sy:Fk f lo hi k lo' hi'→Fk k lo' hi' f lo hi:=fun e x=>(e x).symm
 rcases h with ⟨a,b⟩|⟨a,b⟩|⟨a,b⟩<;>rcases m with ⟨c,d⟩|⟨c,d⟩|⟨c,d⟩
 ·omega
 ·exact absurd b (xg A B d)
 ·exact absurd (sy b) (xg B A d)
 ·exact absurd d (xg A B b)
 ·omega
 ·exact absurd d (Cb A B b)
 ·exact absurd (sy d) (xg B A b)
 ·exact absurd d (Cb B A b)
 ·omega
theorem Hc{f k:List Rat}{lo hi lo' hi':Rat}(A:dW f lo hi)(B:dW k lo' hi')(he:lo'=hi'):Cm (aP f lo hi lo') f lo hi k lo' hi':=by
 have e:∀x,aP k lo' hi' x=eh lo' x:=fun x=>by unfold aP;rw[if_pos he]
 have e0:aP k lo' hi' lo'=0:=by rw[e,gY]
 rcases A.three lo' with h|h|h
 ·exact Or.inr (Or.inr ⟨h,ym B A (x:=lo') (by omega)⟩)
 ·exact Or.inl ⟨h,fun x=>by rw[e,A.So h]⟩
 ·exact Or.inr (Or.inl ⟨h,ym A B (x:=lo') (by omega)⟩)
theorem Cm.swap{s:Int}{f k:List Rat}{lo hi lo' hi':Rat}(h:Cm s f lo hi k lo' hi'):Cm (-s) k lo' hi' f lo hi:=by
 rcases h with ⟨a,b⟩|⟨a,b⟩|⟨a,b⟩
 ·exact Or.inl ⟨by omega,fun x=>(b x).symm⟩
 ·exact Or.inr (Or.inr ⟨by omega,b⟩)
 ·exact Or.inr (Or.inl ⟨by omega,b⟩)
theorem Pw{f k g:List Rat}{lo hi lo' hi':Rat}(A:dW f lo hi)(B:dW k lo' hi')(zg:aK g=false)(g0:g≠[])(cg:oq g (ak g))(h:Hb f k g lo hi lo' hi'=true):Fk f lo hi k lo' hi':=by
 unfold Hb at h
 rw[Bool.and_eq_true,Bool.and_eq_true,Bool.and_eq_true,rn A zg,rn B zg,decide_eq_true_iff,decide_eq_true_iff,Vn zg g0 cg,Vn zg g0 cg] at h
 obtain⟨h1,h2,h3,h4⟩:=h
 rcases SW A B with m|m|m
 ·have:=(oz A B zg g0 cg h1 h2 m (nL A (jo lo lo')) (po B (ka hi hi'))).2.1 h4
  omega
 ·exact m
 ·have:=(oz B A zg g0 cg h2 h1 m (nL B (jq lo lo')) (po A (iA hi hi'))).2.1 h4
  omega
theorem Cr{f k g:List Rat}(zg:aK g=false)(g0:g≠[])(cg:oq g (ak g)):∀(n:Nat) (lo hi lo' hi':Rat) (s:Int),dW f lo hi→dW k lo' hi'→ve f k g n lo hi lo' hi'=some s→Cm s f lo hi k lo' hi'
 |0,_,_,_,_,_,_,_,h=>by cases h
 |n+1,lo,hi,lo',hi',s,A,B,h=>by
  rw[ve] at h
  split at h
  ·rename_i h1
   injection h with h
   subst h
   refine Or.inr (Or.inl ⟨rfl,ym A B (x:=hi) ?_⟩)
   have:=A.tN
   have:=B.kJ h1 B.rk
   omega
  ·split at h
   ·rename_i h1
    injection h with h
    subst h
    refine Or.inr (Or.inr ⟨rfl,ym B A (x:=hi') ?_⟩)
    have:=B.tN
    have:=A.kJ h1 A.rk
    omega
   ·split at h
    ·rename_i he
     injection h with h
     subst h
     exact Hc A B he
    ·split at h
     ·rename_i he
      injection h with h
      subst h
      exact(Hc B A he).swap
     ·split at h
      ·rename_i he
       injection h with h
       subst h
       exact Or.inl ⟨rfl,Pw A B zg g0 cg he⟩
      ·have ih:=Cr zg g0 cg n _ _ _ _ s (fy A).1 (fy B).1 h
       unfold Cm Fk GN at ih ⊢
       rw[rq A,rq B] at ih
       exact ih
theorem Cs{f k g:List Rat} : ∀(n:Nat) (lo hi lo' hi':Rat),dW f lo hi→dW k lo' hi'→ve f k g (n+1) lo hi lo' hi'=none →
  ∃u v u' v',dW f u v∧dW k u' v'∧lo≤u∧v≤hi∧lo'≤u'∧v'≤hi'∧(v-u)*twP n≤hi-lo∧(v'-u')*twP n≤hi'-lo'∧u'≤v∧u≤v'∧u≠v∧u'≠v'∧¬Hb f k g u v u' v'=true
 |0,lo,hi,lo',hi',A,B,h=>by
  rw[ve] at h
  split at h
  ·cases h
  ·split at h
   ·cases h
   ·split at h
    ·cases h
    ·split at h
     ·cases h
     ·split at h
      ·cases h
      ·exact⟨lo,hi,lo',hi',A,B,Rat.le_refl,Rat.le_refl,Rat.le_refl,Rat.le_refl,by rw[mn];grind,by rw[mn];grind,by grind,by grind,by assumption,by assumption,by assumption⟩
 |n+1,lo,hi,lo',hi',A,B,h=>by
  rw[ve] at h
  split at h
  ·cases h
  ·split at h
   ·cases h
   ·split at h
    ·cases h
    ·split at h
     ·cases h
     ·split at h
      ·cases h
      ·obtain⟨a1,a2,a3,a4,a5⟩:=fy A
       obtain⟨b1,b2,b3,b4,b5⟩:=fy B
       obtain⟨u,v,u',v',k1,k2,k5,k6,k7,k8,k9,Ut,S3⟩:=Cs n _ _ _ _ a1 b1 h
       refine⟨u,v,u',v',k1,k2,by grind,by grind,by grind,by grind,?_,?_,S3⟩
       ·rw[cF];grind
       ·rw[cF];grind
theorem Sp:∀l,l<7→1≤l→(32*(4*xB (xB 7 63 (6-l)) (xB 7 63 (6-l)+1) (l-1))+32*(xB 7 63 (6-l)+1)+(32+2)*l+3≤400000∧(32+1)*(l+2)+1≤64*xB 7 63 (6-l)):=by decide +kernel
theorem IN{f k:List Rat}(F:Sm f)(G:Sm k){lo hi lo' hi':Rat}(A:dW f lo hi)(B:dW k lo' hi')(h1:ab lo≤twP 32)(h2:ab hi≤twP 32)(h3:ab lo'≤twP 32)(h4:ab hi'≤twP 32){N:Nat}(hN:1952809344+18373318+437644+2≤N) :
  ∃s,ve f k (bE f k) (N+237+33+1) lo hi lo' hi'=some s:=by
 cases hr:ve f k (bE f k) (N+237+33+1) lo hi lo' hi' with
 |some s=>exact⟨s,rfl⟩
 |none =>
  exfalso
  obtain⟨u,v,u',v',A1,B1,k5,k6,k7,k8,k9,Ut,S3,Vl,n1,n2,Ul⟩:=Cs (N+237+33) lo hi lo' hi' A B hr
  have CM:twP 32+twP 32=twP 33:=(cF 32).symm
  have w1:hi-lo≤twP 33:=by have:=lF hi;have:=dO lo;grind
  have w2:hi'-lo'≤twP 33:=by have:=lF hi';have:=dO lo';grind
  have l1:u<v:=by have:=A1.le;grind
  have l2:u'<v':=by have:=B1.le;grind
  have z1:0≤v-u:=by grind
  have z2:0≤v'-u':=by grind
  have m1:=tS z1 w1 k9
  have m2:=tS z2 w2 Ut
  have bu:=aY k5 (show u≤hi by grind) h1 h2
  have bv:=aY (show lo≤v by grind) k6 h1 h2
  have Uu:=aY k7 (show u'≤hi' by grind) h3 h4
  have Uv:=aY (show lo'≤v' by grind) k8 h3 h4
  have he:=Pv F G A1 B1 bu bv Uu Uv hN m1 m2 S3 Vl
  obtain⟨d1,d2⟩:=gT f k F.z G.z
  have fi:=tR F.z G.z F.l G.l F.ch G.ch B.f0
  have zg:=fi.zp
  have g0:=fi.ne
  have cg:=NB d1 A.Au
  obtain⟨U,V,hb⟩:=tJ f k F.z G.z
  have zA:Zr f u v (bE f k):=A1.comb (U:=V) (V:=U) (p:=k) (fun x=>by rw[hb x];grind) ((E1 A1 B1).1 he).1
  have zB:Zr k u' v' (bE f k):=B1.comb hb ((E1 B1 A1).1 (fun x=>(he x).symm)).1
  have nz:∀x,evalL f x≠0∨evalL k x≠0→evalL (bE f k) x≠0:=fun x hx e=>by
   obtain⟨c,hc⟩:=d1
   obtain⟨d,hd⟩:=d2
   rcases hx with hx|hx
   ·exact hx (by rw[hc,e,Rat.mul_zero])
   ·exact hx (by rw[hd,e,Rat.mul_zero])
  refine Ul ?_
  obtain⟨Sl,N4,Pq⟩:fa u u'≤u∧fa u u'≤u'∧(fa u u'=u∨fa u u'=u'):=⟨jo _ _,jq _ _,Ov.min_mem _ _⟩
  obtain⟨SZ,Ur,Qs⟩:v≤fR v v'∧v'≤fR v v'∧(fR v v'=v∨fR v v'=v'):=⟨iA _ _,ka _ _,Ov.max_mem _ _⟩
  unfold Hb
  generalize fa u u'=s at *
  generalize fR v v'=t at *
  have bs:ab s≤twP 32:=by rcases Pq with e|e<;>rw[e]<;>assumption
  have bt:ab t≤twP 32:=by rcases Qs with e|e<;>rw[e]<;>assumption
  have HP:evalL (bE f k) s≠0:=by
   rcases Pq with e|e
   ·rw[e];exact nz u (Or.inl (A1.ends l1).1)
   ·rw[e];exact nz u' (Or.inr (B1.ends l2).1)
  have aI:s≤t:=by grind
  have hw:(t-s)*twP 400000≤1:=by
   have q1:t-s≤(v-u)+(v'-u'):=by rcases Pq with e|e<;>rcases Qs with e2|e2<;>rw[e,e2]<;>grind
   have q2:twP 400000+twP 400000≤twP (N+237):=by rw[←cF];exact bx (by omega)
   have q3:=Rat.mul_le_mul_of_nonneg_left q2 z1
   have q4:=Rat.mul_le_mul_of_nonneg_left q2 z2
   have q5:=Rat.mul_le_mul_of_nonneg_right q1 (Rat.le_of_lt (bU 400000))
   grind
  have gl:=(d2.len zg G.z B.f0).2
  have gp:=List.length_pos_iff.2 g0
  have gk:=G.l
  obtain⟨wm,ws⟩:=Sp (bE f k).length (by omega) gp
  have Ny:=uw (a:=xB 7 63 (6-(bE f k).length)) (N:=(bE f k).length) (r:=32) (m:=400000) (R:=twP 32) fi.h1 fi.SX g0 cg (Rat.le_of_lt (bU 32)) Rat.le_refl ws bs bt aI wm hw
  have R3:=E8 A1 zg g0 cg zA aI (by
   by_cases e:s=u
   ·rw[e];exact A1.low l1 Rat.le_refl
   ·exact A1.low l1 Sl) (po A1 SZ) HP
  rw[Bool.and_eq_true,Bool.and_eq_true,Bool.and_eq_true,rn A1 zg,rn B1 zg,decide_eq_true_iff,decide_eq_true_iff,Vn zg g0 cg,Vn zg g0 cg]
  refine⟨zA,zB,?_,HP⟩
  have:=Ny.1
  unfold cS at *
  omega
end Go.Proofs.YtllmkadmohkbfaaGreatDoor.Sym
