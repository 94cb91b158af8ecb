/- Lemmas for the statements of this seat. -/
import Derived.Test.YtcpnocgollpbhaaGreatDoorG5
import Derived.Test.YtcpnocgollpbhaaGreatDoorG4
import Derived.Test.YtcpnocgollpbhaaGreatDoorG3
import Derived.Test.YtcpnocgollpbhaaGreatDoorG2
import Derived.Test.YtcpnocgollpbhaaGreatDoorP4
namespace Go.Proofs.YtcpnocgollpbhaaGreatDoor.Sym
open Go Path cF
set_option linter.unusedVariables false
theorem Dk{T:Tw}{L:Nat}(hL:L≤2){x:Q4 T}(hx:Lv L x):(nD x L)[(nD x L).length-1]? = some 1:=by obtain⟨h1,h2⟩:=uj hL hx;rw[h1,aik];rw[mH (by rw[h1];omega),h2]
theorem E8{T:Tw}{L:Nat}(hL:L≤2){x:Q4 T}(hx:Lv L x):aQ (nD x L)=false:=by unfold aQ;rw[ahX,Dk hL hx];rfl
theorem No{T:Tw}{L:Nat}(hL:L≤2){x:Q4 T}(hx:Lv L x):bx (nD x L)=1:=by unfold bx;exact qz (Dk hL hx)
theorem SE{T:Tw}{L:Nat}(hL:L≤2){x:Q4 T}(hx:Lv L x):nD x L≠[]:=fun e=>by have:=(uj hL hx).1;rw[e,aih] at this;exact Nat.succ_ne_zero _ this.symm
theorem Mn{n:Int}(h:n.natAbs≤10^128):wl n≤14:=mU (ahg h (by decide))
theorem SF{T:Tw}{A B D:Nat}(t:Nk T A B)(hD:D≠0)(DW:D≤10^12){x:Q4 T}(hx:Dn D (10^12) x){L:Nat}(hL:L≤2):Ch 14 (nD x L)∧∀c∈nD x L,ab c≤(((10^128:Nat):Int):Rat):=by
 obtain⟨E,e0,e1,e2⟩:=VP t hD DW hx hL;refine⟨⟨(E:Int),by omega,Mn (by omega),fun i => ?_⟩,fun c hc => ?_⟩
 ·unfold nD coef;rw[afT];cases h:(uZ x L)[i]? with
  |none=>exact⟨0,by show(0:Rat)*_=_;rw[agJ];rfl,qW _⟩
  |some a =>obtain⟨n,_,_,_,h1,_,_,_,h5,_⟩:=e2 a (ag4 h);exact⟨n,h1,Mn h5⟩
 ·obtain⟨a,ha,rfl⟩:=agI.1 hc;obtain⟨n,_,_,_,h1,_,_,_,h5,_⟩:=e2 a ha;have hE:(1:Rat)≤(((E:Nat):Int):Rat):=agw.2 (show (1:Int)≤_ by omega);have hn:(n:Rat)≤(((10^128:Nat):Int):Rat):=agw.2 (by omega);have Ej:((-((10^128:Nat):Int):Int):Rat)≤(n:Rat):=agw.2 (by omega);rw[ahl] at Ej;generalize (((10^128:Nat):Int):Rat)=W at hn Ej ⊢;generalize (((E:Nat):Int):Rat)=F at h1 hE;generalize (n:Rat)=N at h1 hn Ej;show ab a.x≤W;rcases bf a.x with k|k
  ·have:=ag5 hE (show 0≤a.x from k.1);grind
  ·have:=ag5 hE (show 0 ≤ -a.x by grind);grind
theorem VY:(((10^128:Nat):Int):Rat)+1≤twP 440:=by
 have e:twP 440=twP 220*twP 220:=by rw[←oI]
 have e2:(((10^128:Nat):Int):Rat)=(((10^64:Nat):Int):Rat)*(((10^64:Nat):Int):Rat):=by rw[←agt,←agz,←ahG]
 have h:(((10^64:Nat):Int):Rat)+1≤twP 220:=by
  have h1:(((10^64:Nat):Int)+1)≤(((2^220:Nat)):Int):=by decide
  have h3:=agw.2 h1;rw[ah7] at h3;exact h3
 have h0:(0:Rat)≤(((10^64:Nat):Int):Rat):=agw.2 (show (0:Int)≤_ by omega);rw[e,e2];generalize (((10^64:Nat):Int):Rat)=P at h h0 ⊢;generalize twP 220=W at h ⊢;have:=ee h h (by grind) (by grind);grind
theorem G0{T:Tw}{A B D:Nat}(t:Nk T A B)(hD:D≠0)(DW:D≤10^12){x:Q4 T}(hx:Dn D (10^12) x){L:Nat}(hL:L≤2)(hv:Lv L x):dN 14 5 (nD x L)∧Bd (nD x L):=by
 obtain⟨h1,h2⟩:=SF t hD DW hx hL;have hl:=(uj hL hv).1;have p4:2^L≤2^2:=ag6 (by omega) hL;refine⟨⟨E8 hL hv,SE hL hv,by omega,h1,by omega,by omega,by decide⟩,h1.fl (by omega),fun c hc => ?_⟩;rw[No hL hv];have e:c/1=c:=by grind
 rw[e];have:=h2 c hc;have tb:=VY;generalize (((10^128:Nat):Int):Rat)=W at *;generalize twP 440=V at *;grind
namespace eh
variable {t:aA} {T:Tw}
theorem VZ{C:List (Q4 T)}{H:Nat}(hq:∀a∈C,Hq H a)(h1:1≤H):Fl H (C.map (fun a=>a.x)):=fun x hx=>by obtain⟨a,ha,rfl⟩:=agI.1 hx;obtain⟨D,i,_,_,_,h0,hD,h2,_,_,_,h6,_⟩:=hq a ha;have:=oQ h0 h2;exact ag3 this (by omega)
theorem SG{C:List (Q4 T)}{g:Nat}(hg:g<C.length):∃a,C[g]? = some a∧(Dr C)[g]? = some ((gX a).map aI)∧a∈C:=by refine⟨C[g],afO hg,?_,List.getElem_mem hg⟩;unfold Dr;rw[afT,afO hg];rfl
theorem Yd(G:eh t T){C:List (Q4 T)}{H:Nat}(hl:C.length≤5)(hv:∀a∈C,Lv 0 a)(hq:∀a∈C,Hq H a)(h1:1≤H)(hs:H≤1000000)(hz:aQ (C.map (fun a=>a.x))=false) :
  ∀d g,g+d=C.length→bI.mT (((C.take g).map (fun a=>a.x)).map aI) (Dr C) C.length g t (.aF [pq (C.map (fun a=>a.x)),.ay]):=by
 have t1:=As.Trim (C.map (fun a=>a.x)) (by rw[afW];omega) (VZ hq h1) (by omega);rw[show aO (C.map (fun a=>a.x))=C.map (fun a=>a.x) from kV (bj _) hz (dW _)] at t1;intro d
 induction d with
 |zero =>intro g hg;rw[show C.take g=C from agd (by omega)];exact bI.l32 _ _ _ g t _ (by omega) t1
 |succ d ih =>intro g hg;obtain⟨a,a1,a2,a3⟩:=SG (C:=C) (g:=g) (by omega);have ih:=ih (g+1) (by omega);rw[agH,a1,agU,agU] at ih;exact bI.l31 _ _ _ g t _ _ true (by omega) a2 (G.abg (hv a a3) (hq a a3) h1 (by omega)) rfl (by simp;omega) (by omega) ih
theorem SH(wJ:Tok T){x:Q4 T}(hq:Hq 2 x):(∀k,rG x=k+1→Cf [-x,1] k 2)∧∀a∈uZ x (rG x),Hq 1000000 a:=by
 obtain⟨v1,v2,v3,v4,_⟩:=wI x;obtain⟨u1,_⟩:=wI (-x);rw[SD] at u1;have cf:∀k,rG x=k+1→Cf [-x,1] k 2:=fun k hk=>⟨by simp,by simp,fun a ha=>by
  simp only[List.mem_cons,List.not_mem_nil,or_false] at ha;rcases ha with rfl|rfl
  ·rw[←hk];exact u1
  ·exact Lv.one _,fun a ha=>by
  simp only[List.mem_cons,List.not_mem_nil,or_false] at ha;rcases ha with rfl|rfl
  ·exact hq.neg
  ·exact(Hq.rL (q:=1) (by decide:ht 1≤1)).mono (by omega),by omega,by omega⟩
 refine⟨cf,?_⟩;have hlen:([-x,1]:List (Q4 T)).length=2:=rfl;have:rG x=0∨rG x=1∨rG x=2:=by omega
 rcases this with e|e|e
 ·rw[e];intro a ha;simp only[uZ,List.mem_cons,List.not_mem_nil,or_false] at ha;rcases ha with rfl|rfl
  ·exact hq.neg.mono (by omega)
  ·exact(Hq.rL (q:=1) (by decide:ht 1≤1)).mono (by omega)
 ·rw[e];exact fun a ha=>((cf 0 e).out wJ a ha).mono (by rw[hlen];decide)
 ·rw[e];have c1:=(cf 1 e).next wJ (by omega) (by rw[hlen];decide) (by rw[hlen];decide);exact fun a ha=>(c1.out wJ a ha).mono (by rw[x4,hlen];decide)
theorem V0(G:eh t T){q:List Rat}(lq:Lk t.roots.length q)(hq:Hq 2 (toQ T q)) :
  Cp 7 [t.pv,pq q] (.aF [pq (nD (toQ T q) (rG (toQ T q))),.ay]):=by
 have I9:=G.GK;have wJ:=G.tok;have xv:=E5 (T:=T) lq;generalize hx:toQ T q=x at *;obtain⟨v1,v2,v3,v4,_⟩:=wI x;have hLn:=VX xv;have KO:=zi v2 v1;have hz:=E8 v2 v1;obtain⟨cf,bq⟩:=SH wJ hq;have s1:=tc.nE (T:=T) I9 lq (h:=2) (by rw[hx];exact hq) (by omega) (by omega);rw[hx] at s1;have ng2:=G.abe (a:=gX x) (h:=2) (mV xv) (by rw[dA];exact hq) (by omega) (by omega);rw[dA] at ng2;have o1:=tf.Of 1 ⟨by decide,by decide⟩;have oo:=Y4 T (x:=((1:Int):Rat)) (h:=1) (by decide) (by omega);have lf:=G.X7 (a:=q) (h:=2) lq (by rw[hx];exact hq) (by omega) (by omega);have e1:(Q4.rL ((1:Int):Rat):Q4 T)=1:=rfl;rw[e1] at oo;have zS:[(gX (-x)).map aI,(gX (1:Q4 T)).map aI]=Dr [-x,1]:=rfl;have KH:∀c,c≤2→2^c≤4:=fun c hc=>ag6 (n:=2) (by omega) hc
 have hlen:([-x,1]:List (Q4 T)).length=2:=rfl;have l1:=G.Yd (C:=uZ x (rG x)) (H:=1000000) (by rw[KO.1];have:=KH _ v2;omega) KO.2.1 bq (by omega) (by omega) hz _ 0 (agQ _);have TJ:bI.bD (Dr [-x,1]) ((rG x:Nat):Int) t (.aF [pq (nD x (rG x)),.ay]):=by
  have last:∀(C:List (Q4 T)),C=uZ x (rG x)→bI.bD (Dr C) 0 t (.aF [pq (nD x (rG x)),.ay]):=fun C hC=>by
   subst hC;refine bI.RC _ _ t (by omega) ?_;have ql:(Dr (uZ x (rG x))).length=(uZ x (rG x)).length:=by unfold Dr;rw[afW]
   rw[ql];exact l1
  have:rG x=0∨rG x=1∨rG x=2:=by omega
  rcases this with e|e|e
  ·have:=last [-x,1] (by rw[e];rfl);rw[e] at this ⊢;exact this
  ·have a1:=last (iN 0 [-x,1]) (by rw[e];rfl);rw[e] at a1 ⊢;exact bI.BZ _ _ t _ (by omega) (G.Qs (cf 0 e) (by omega)) (by unfold az;omega) a1
  ·have a1:=last (iN 0 (iN 1 [-x,1])) (by rw[e];rfl);have c1:=(cf 1 e).next wJ (by omega) (by rw[hlen];decide) (by rw[hlen];decide);rw[e] at a1 ⊢;exact bI.BZ _ _ t _ (by omega) (G.Qs (cf 1 e) (by omega)) (by unfold az;omega) (bI.BZ _ _ t _ (by omega) (G.Qs c1 (by omega)) (by unfold az;omega) a1)
 rw[←zS] at TJ;have Ye:∀d c,c+d=rG x→bI.ai ((gX x).map aI) c t (.aF [pq (nD x (rG x)),.ay]):=by
  intro d
  induction d with
  |zero =>
   intro c hc;have:c=rG x:=by omega
   subst this;have:=KH _ v2;exact bI.c9 _ _ t _ _ _ (by omega) (by omega) (by rw[bM];omega) ng2 o1 oo TJ
  |succ d ih =>intro c hc;have:=KH c (by omega);have w1:=v4 c (by omega);exact bI.l10 _ _ t (by omega) (by omega) (by rw[bM];omega) (by omega) (ih (c+1) (by omega))
 exact qv.e0 t _ _ _ none lf (bI.e0 t _ _ s1 (Ye _ 0 (agQ _)))
end eh
end Go.Proofs.YtcpnocgollpbhaaGreatDoor.Sym
namespace Go.Proofs.YtcpnocgollpbhaaGreatDoor.Sym
open Go Path cF
set_option linter.unusedVariables false
theorem wM.V1{h L:Nat}{p:List Rat}(f:dN h L p)(h1:Bd p)(ok:sZ h L):Cp 26 [pq p] (.aF [dp bk.cells ((kY h L p).map (fun r=>fv (aY p) r.1 r.2)),.ay]):=by
 have hi:=Ha.LV f h1 ok;have hF:=As.PR f;have hlen:=Ha.xS f h1 ok;have loop:∀d t:Nat,t+d=(kY h L p).length→dP.ai (p.map aI) (((kY h L p).take t).map (fun r=>fv (aY p) r.1 r.2)) (mkGs (kY h L p)) t (.aF [dp bk.cells ((kY h L p).map (fun r=>fv (aY p) r.1 r.2)),.ay]):=by
  intro d
  induction d with
  |zero =>intro t h;rw[agd (by omega)];exact dP.kA _ _ _ t (by rw[ue];omega)
  |succ d ih =>
   intro t h';obtain⟨v,hv⟩:∃v,(kY h L p)[t]? = some v:=⟨_,afO (by omega)⟩;have EC:(mkGs (kY h L p))[t]? = some (sY v.1 v.2):=by unfold mkGs;rw[afT,hv];rfl
   have ih:=ih (t+1) (by omega);rw[agH,hv,agU] at ih;exact dP.l10 _ _ _ t (sY v.1 v.2) _ (by rw[ue];omega) EC hF (by rw[agB,afW,agh,ahj];omega) (by omega) ih
 exact dP.e0 _ _ hi (loop (kY h L p).length 0 (agQ _))
theorem Qt:sZ 14 5:=by decide +kernel
theorem V2:isoK 14 5/32≤5000000:=by decide +kernel
theorem Np{h L:Nat}{p:List Rat}(f:dN h L p)(h1:Bd p)(ok:sZ h L){x:R}(hx:evR p x=0):∃r∈kY h L p,QT x r:=by
 have hb:=AU p;have hs:=uf f h1 ok;obtain⟨c1,c2⟩:=XS f.zp f.ne (R9 f.zp f.ne h1) (age hb) hx;have x6:=IV f.zp f.ne hx;refine wD f.zp f.ne (show 0≤bndP p+bndP p by grind) x6 _ _ _ _ hs ?_ ?_
 ·rw[(nK _ _).1];exact c1
 ·rw[(nK _ _).2,show -bndP p+(bndP p+bndP p)=bndP p from by grind];exact c2
theorem E9{p:List Rat}(f:dN 14 5 p)(h1:Bd p):∀r∈kY 14 5 p,ht r.1≤6000000∧ht r.2≤6000000:=by intro r hr;have a:=GG (K:=isoK 14 5) _ 0 0 _ (by omega) (by omega) (uf f h1 Qt) r hr;have b:=Kw h1;have c:=(GC h1).2;have d:=V2;rw[Cr] at a;omega
theorem Qu{x y:R} : (0≤R.fQ (x-y)↔y≤x)∧(R.fQ (x-y)≤0↔x≤y)∧(0<R.fQ (x-y)↔y<x)∧(R.fQ (x-y)<0↔x<y):=by
 rcases R.cV (x-y) with h|h|h
 ·have e:=h.2;have l:y<x:=by have:=h.1;grind
  rw[e];exact⟨⟨fun _=>l.1,fun _=>by decide⟩,⟨fun k=>absurd k (by decide),fun k=>by grind⟩,⟨fun _=>l,fun _=>by decide⟩,⟨fun k=>absurd k (by decide),fun k=>by grind⟩⟩
 ·have e:=h.2;have l:x=y:=by have:=h.1;grind
  rw[e,l];exact⟨⟨fun _=>by grind,fun _=>by decide⟩,⟨fun _=>by grind,fun _=>by decide⟩,⟨fun k=>absurd k (by decide),fun k=>by grind⟩,⟨fun k=>absurd k (by decide),fun k=>by grind⟩⟩
 ·have e:=h.2;have l:x<y:=by have:=h.1;grind
  rw[e];exact⟨⟨fun k=>absurd k (by decide),fun k=>by grind⟩,⟨fun _=>l.1,fun _=>by decide⟩,⟨fun k=>absurd k (by decide),fun k=>by grind⟩,⟨fun _=>l,fun _=>by decide⟩⟩
inductive Qv (x:R):List (Rat×Rat)→Rat×Rat→Prop
 |here {r:Rat×Rat} {l:List (Rat×Rat)} : QT x r→Qv x (r::l) r
 |there {s r:Rat×Rat} {l:List (Rat×Rat)} : ¬QT x s→Qv x l r→Qv x (s::l) r
theorem Qv.mem{x:R}{l:List (Rat×Rat)}{r:Rat×Rat}(h:Qv x l r):r∈l∧QT x r:=by
 induction h with
 |here h2=>exact⟨agM ..,h2⟩
 |there _ _ ih=>exact⟨agm _ ih.1,ih.2⟩
namespace eh
variable {t:aA} {T:Tw}
theorem Yf(K:tg T)(y:Rat):lv K (gX (Q4.rL y:Q4 T))=R.ofQ y:=by unfold lv;rw[dA,Q4.E4]
theorem Yg(n:Nat)(y:Rat):Lk n (gX (Q4.rL y:Q4 T)):=(mV (show Lv 0 (Q4.rL y:Q4 T) from⟨rfl,rfl,rfl⟩)).mono (ago _)
theorem Yh(G:eh t T)(K:tg T){q:List Rat}(lq:Lk t.roots.length q){D:Nat}(hD:D≠0)(DW:D≤10^12)(hq:Dn D (10^12) (toQ T q)) :
  ∃r,Qv (lv K q) (kY 14 5 (nD (toQ T q) (rG (toQ T q)))) r ∧
  Cp 8 [t.pv,pq q] (.aF [(fv (aY (nD (toQ T q) (rG (toQ T q)))) r.1 r.2).pv,.ay]):=by
 obtain⟨A,B,sm⟩:=G.sm;have I9:=G.GK;have Ed:=Dn.hq hD DW hq;have m1:=G.V0 lq Ed;obtain⟨v1,v2,_⟩:=wI (toQ T q);obtain⟨f,bd⟩:=G0 sm hD DW hq v2 v1;have ev:=AZ K v2 v1;have cov:=Np f bd Qt ev;have r1:=wM.V1 f bd Qt;have S8:=E9 f bd;have hlen:=Ha.xS f bd Qt;generalize nD (toQ T q) (rG (toQ T q))=p at *;generalize kY 14 5 p=l at *;have main:∀d g,g+d=l.length→(∃r∈l.drop g,QT (lv K q) r)→∃r,Qv (lv K q) (l.drop g) r∧dz.ai (q.map aI) (l.map (fun r=>fv (aY p) r.1 r.2)) g t (.aF [(fv (aY p) r.1 r.2).pv,.ay]):=by
  intro d
  induction d with
  |zero =>intro g hg he;obtain⟨r,h1,_⟩:=he;rw[agv (by omega)] at h1;cases h1
  |succ d ih =>
   intro g hg he;obtain⟨s,hs⟩:∃s,l[g]? = some s:=⟨_,afO (by omega)⟩;have oX:(l.map (fun r=>fv (aY p) r.1 r.2))[g]? = some (fv (aY p) s.1 s.2):=by rw[afT,hs];rfl
   obtain⟨a1,a2⟩:=S8 s (ag4 hs);have Wp:g<(l.map (fun r=>fv (aY p) r.1 r.2)).length:=by rw[afW];omega
   have o1:=Y4 T (x:=s.1) a1 (by omega);have o3:=Y4 T (x:=s.2) a2 (by omega);have c1:=G.VU K (a:=q) (b:=gX (Q4.rL s.1:Q4 T)) (h:=2) (h':=6000000) lq (Yg _ _) Ed (by rw[dA];exact Hq.rL a1) (by omega) (by omega) (by omega);have c2:=G.VU K (a:=q) (b:=gX (Q4.rL s.2:Q4 T)) (h:=2) (h':=6000000) lq (Yg _ _) Ed (by rw[dA];exact Hq.rL a2) (by omega) (by omega) (by omega);rw[Yf] at c1 c2;obtain⟨s1,s2,s3,s4⟩:=Qu (x:=lv K q) (y:=R.ofQ s.1);obtain⟨u1,u2,u3,u4⟩:=Qu (x:=lv K q) (y:=R.ofQ s.2);have f1:=QF.xG s.1 s.2 (by omega) (by omega);rw[drop_cons hs] at he ⊢;by_cases wL:QT (lv K q) s
   ·refine⟨s,Qv.here wL,?_⟩;rcases wL with ⟨e1,e2⟩|⟨e1,e2⟩
    ·have k1:0≤R.fQ (lv K q-R.ofQ s.1):=s1.2 (by rw[e2];grind);have k2:R.fQ (lv K q-R.ofQ s.2)≤0:=u2.2 (by rw[e2,e1];grind);have k3:R.fQ (lv K q-R.ofQ s.1)≤0:=s2.2 (by rw[e2];grind);exact dz.uA _ _ g t _ _ _ _ _ _ Wp oX o1 c1 o3 c2 k1 k2 k3 f1 (xR.2 e1)
    ·have k1:0<R.fQ (lv K q-R.ofQ s.1):=s3.2 e1;have k2:R.fQ (lv K q-R.ofQ s.2)<0:=u4.2 e2;exact dz.l10 _ _ g t _ _ _ _ _ Wp oX o1 c1 o3 c2 (by omega) (by omega) k1 k2
   ·have gQ:∃r∈l.drop (g+1),QT (lv K q) r:=by
     obtain⟨r,h1,h2⟩:=he;rcases agp.1 h1 with rfl|h1
     ·exact absurd h2 wL
     ·exact⟨r,h1,h2⟩
    obtain⟨r,g1,g3⟩:=ih (g+1) (by omega) gQ;refine⟨r,Qv.there wL g1,?_⟩;by_cases k1:R.fQ (lv K q-R.ofQ s.1)<0
    ·exact dz.l16 _ _ g t _ _ _ _ _ Wp oX o1 c1 o3 c2 k1 (by omega) g3
    ·by_cases k2:0<R.fQ (lv K q-R.ofQ s.2)
     ·exact dz.Xc _ _ g t _ _ _ _ _ Wp oX o1 c1 o3 c2 (by omega) k2 (by omega) g3
     ·have x1:R.ofQ s.1≤lv K q:=s1.1 (by omega);have x2:lv K q≤R.ofQ s.2:=u2.1 (by omega);have et:s.1≠s.2:=fun e=>wL (.inl ⟨e,by rw[←e] at x2;grind⟩)
      have hc:iy s.1 s.2≠0:=fun e=>et (xR.1 e)
      by_cases k3:0<R.fQ (lv K q-R.ofQ s.1)
      ·have k4:0≤R.fQ (lv K q-R.ofQ s.2):=ajA.1 fun e=>wL (.inr ⟨s3.1 k3,u4.1 e⟩)
       exact dz.kA _ _ g t _ _ _ _ _ _ Wp oX o1 c1 o3 c2 (by omega) (by omega) k3 k4 f1 hc (by omega) g3
      ·exact dz.Dp _ _ g t _ _ _ _ _ _ Wp oX o1 c1 o3 c2 (by omega) (by omega) (by omega) f1 hc (by omega) g3
 obtain⟨r,g1,g3⟩:=main l.length 0 (agQ _) (by rw[ah3];exact cov);exact⟨r,by rwa[ah3] at g1,dz.e0 t _ _ _ m1 r1 g3⟩
end eh
end Go.Proofs.YtcpnocgollpbhaaGreatDoor.Sym
namespace Go.Proofs.YtcpnocgollpbhaaGreatDoor.Sym
open Go Path cF
set_option linter.unusedVariables false
theorem abi:GOk 2253 5:=⟨by decide,by decide,by decide,by decide +kernel,by decide +kernel⟩
theorem gk5:4*xB 2254 15783 (5+2)+10≤68719476736:=by decide +kernel
theorem s5:sB 2253 5≤1073741824:=by decide +kernel
theorem abj:xB 14 (14+1) 3=109:=by decide +kernel
theorem Yi{p:List Rat}(f:dN 14 5 p):Ky 2253 5 (aY p):=by
 obtain⟨z,_⟩:=free_spec f.zp f.ne;have hlen:=f.pF;have hl:=f.len;refine⟨abi,z,by omega,?_⟩;have g0:=f.wB;have g1:=ag8.2 g0;by_cases hg:(cu p (an p)).length=1
 ·have e:=C8 f.zp f.ne (wv f.zp (bc p) hg);rw[←nv f.zp f.ne] at e;rw[e];exact(f.ch.lS (by omega) f.zp).mono (by omega)
 ·have zF:=kr ((an p).length+1) p (an p) f.zp (bc p);have XO:(cu p (an p)).length=(lW ((an p).length+1) p (an p)).length:=eH zF;have hc:=CX (a:=14) (b:=14+1) (N:=5) (by omega) (by omega) ((an p).length+1) 0 1 p (an p) f.euc;have hc:=hc.mono (eX 14 (14+1) (by omega) (show _≤3 by omega));rw[abj] at hc;have hc:Ch 109 (cu p (an p)):=hc.lS (by omega) zF;have hq:=Gm f.ch hc (by omega) (by omega) (eM _ _) g0;have h1:(p.length+1-(cu p (an p)).length)*(109+1)≤4*(109+1):=afU _ (by omega);have h2:=Ch.LM (bV hq (show _≤563 by omega));have h3:=CM (p:=p) (eM p (an p)) g0;have h4:(dJ p (cu p (an p))).1.length*563≤4*563:=afU _ (by omega);have h5:Ch 2253 (dJ p (cu p (an p))).1:=h2.mono (Nat.succ_le_succ (ag3 h4 (by decide)));unfold aY;exact h5.lS (by omega) (kq _ _).1
theorem Nq{p:List Rat}(hz:aQ p=false)(h0:p≠[]):aY (aY p)=aY p:=by obtain⟨f1,f2,f3,_⟩:=free_spec hz h0;rw[C8 f1 f2 f3,Kp hz h0,show(1:Rat)/1=1 from by decide +kernel,MZ]
structure Nr (f:List Rat) (lo hi:Rat) (x:R):Prop where
 s:Ky 2253 5 f
 i:xQ f lo hi=true
 r:oL f lo hi x
 h1:ht lo≤6000000
 h2:ht hi≤6000000
 w:hi-lo≤twP 441
theorem Yj{p:List Rat}(f:dN 14 5 p)(bd:Bd p){r:Rat×Rat}(hr:r∈kY 14 5 p){x:R}(hx:QT x r)(ev:evR p x=0):Nr (aY p) r.1 r.2 x:=by
 have hs:=uf f bd Qt;have hb:=AU p;have w0:0≤bndP p+bndP p:=by grind
 have i1:=CW f.zp f.ne _ _ _ _ hs r hr;obtain⟨k1,k2,k3⟩:=(GH w0 _ _ _ _ hs).1 r hr;rw[(nK _ _).1] at k1;rw[(nK _ _).2] at k3;obtain⟨f1,f2,f3,_⟩:=free_spec f.zp f.ne;have ef:=Nq f.zp f.ne;have i2:xQ (aY p) r.1 r.2=true:=by
  have:aZ (aY p)=aZ p:=by unfold aZ;rw[ef]
  unfold xQ at i1 ⊢;rw[ef,this];exact i1
 obtain⟨t1,t2⟩:=E9 f bd r hr;have b2:=PW p bd;refine⟨Yi f,i2,⟨KB f1 f2 f3 k2 i2,hx,IV f.zp f.ne ev⟩,t1,t2,?_⟩;rw[j6];grind
theorem Nr.abk{f:List Rat}{lo hi:Rat}{x:R}(n:Nr f lo hi x):dN 2253 5 f:=⟨n.s.z,n.r.a.f0,n.s.l,n.s.c,by omega,by omega,s5⟩
theorem wM.Qw{f:List Rat}{lo hi:Rat}{x:R}(n:Nr f lo hi x):Cp 64 [(fv f lo hi).pv] .ay:=by
 have F:=n.abk;have S:=n.s;have hl:=S.l;have h1:=n.h1;have h2:=n.h2;have Hr:Fl 2253 f:=S.c.fl (by omega);have hc:=Iq.Check (f.map aI) (kT (bV Hr (by omega)));rw[F.x8] at hc;have hd:=PQ.Cu f S.z (by omega) Hr (by omega);have cd:Ch 2254 (an f):=S.c.derive (by omega);have hdl:=zU f;have hg:=PQ.Gcd (h:=2253) (b:=2254) (c:=15783) (L:=5) (by omega) (by omega) (by omega) (by omega) (by omega) gk5 f (an f) S.z (bc _) S.l (by omega) S.c cd;rw[CC S.z (bc f) n.r.a.M0] at hg;have hI:=Ha.EX F (sY lo hi) (Gx (by omega) (by omega));have hb:DS f (sY lo hi)=true:=by unfold DS;rw[Gu n.r.a.le,Gv n.r.a.le,Gw n.r.a.le,n.i];rfl
 rw[hb] at hI;exact oi.e3 (fv f lo hi) _ _ _ hc (by show(f.map aI).length≠0;rw[bM];have:=ag8.2 n.r.a.f0;omega) hd hg rfl hI rfl
theorem wM.abl{f g:List Rat}{lo hi lo' hi':Rat}{x y:R}(a:Nr f lo hi x)(b:Nr g lo' hi' y){M:Nat}(hM:M≤100000){c:Rat}(hc:x≠y→R.ofQ c≤x-y∨R.ofQ c≤y-x)(hw:1≤twP M*c):Cp 23 [(fv f lo hi).pv,(fv g lo' hi').pv] (.aF [vI (R.fQ (x-y)),.ay]):=by
 have c1:=wM.Qw a;have c2:=wM.Qw b;have w:(hi-lo)+(hi'-lo')<twP (443+M)*c:=by have w1:=a.w;have w2:=b.w;rw[oI,ajh];have e:=ag5 hw (age (jL 443));rw[show 443=441+1+1 from rfl,j6,j6] at e ⊢;have:=jL 441;grind
 have hs:=VI a.r b.r hc w;have s1:=Kh hi lo;have s2:=Kh hi' lo';have a1:=a.h1;have a2:=a.h2;have b1:=b.h1;have b2:=b.h2;have hm:=wM.cmp (K:=443+M) a.s b.s a.r.a b.r.a (by omega) (by omega) hs;exact fC.e0 _ _ (fC.l10 0 _ _ (fv f lo hi) (by omega) rfl c1 (by omega) (fC.l10 1 _ _ (fv g lo' hi') (by omega) rfl c2 (by omega) (fC.kA 2 _ _ _ none (by omega) hm)))
theorem Qx{z B:R}(h1:qG z 1)(hB:0≤B):∀q:List Rat,(∀c∈q,qG (R.ofQ c) B)→∃S,qG (evR q z) S∧S=R.ofQ (((q.length:Nat):Int):Rat)*B
 |[],_=>⟨0,by unfold qG;rw[evR];grind,by show(0:R)=R.ofQ 0*B;rw[R.eg];grind⟩
 |a::q,h=>by obtain⟨S,s1,s2⟩:=Qx h1 hB q (fun c hc=>h c (agm _ hc));have h3:=(s1.mul h1).add (h a (agM ..));refine⟨S*1+B,h3,?_⟩;rw[s2,agn,show(((q.length+1:Nat):Int):Rat)=(((q.length:Nat):Int):Rat)+1 from by rw[Int.natCast_add,ah7];rfl,R.oJ,R.uQ];grind
theorem Fa{E N:Nat}(hE:E≠0){z:R}(hz:z≠0){δ:Rat}(s9:δ≤1)(hd:δ*(((5*N*E:Nat):Int):Rat)<1):∀p:List Rat,p.length≤5→(∀c∈p,∃i:Int,c*(((E:Nat):Int):Rat)=(i:Rat)∧i.natAbs≤N)→(∃c∈p,c≠0)→evR p z=0→¬qG z (R.ofQ δ)
 |[],_,_,h,_=>by obtain⟨c,h,_⟩:=h;cases h
 |a::q,hl,hc,h,h0=>by
  have Y5:(1:Rat)≤(((E:Nat):Int):Rat):=agw.2 (show (1:Int)≤_ by omega);by_cases ha:a=0
  ·subst ha;refine Fa hE hz s9 hd q (by simp only[List.length_cons] at hl;omega) (fun c He=>hc c (agm _ He)) ?_ ?_
   ·obtain⟨c,h1,h2⟩:=h;rcases agp.1 h1 with e|h1
    ·exact absurd e h2
    ·exact⟨c,h1,h2⟩
   ·rw[evR,R.eg] at h0;exact(R.sM (show evR q z*z=0 by grind)).resolve_right hz
  ·intro hA;have hN:∀c∈a::q,qG (R.ofQ c) (R.ofQ (((N:Nat):Int):Rat)):=fun c He=>by
    obtain⟨i,h1,h2⟩:=hc c He;have hn:(i:Rat)≤(((N:Nat):Int):Rat):=agw.2 (by omega);have Ej:((-((N:Nat):Int):Int):Rat)≤(i:Rat):=agw.2 (by omega);have h0:(0:Rat)≤(((N:Nat):Int):Rat):=agw.2 (show (0:Int)≤_ by omega);rw[ahl] at Ej;generalize (((N:Nat):Int):Rat)=W at hn Ej h0 ⊢;generalize (((E:Nat):Int):Rat)=F at h1 Y5;generalize (i:Rat)=I at h1 hn Ej;constructor
    ·rw[←R.uP];refine R.dm.2 (aji.1 fun k => ?_);have:=ag5 Y5 (show 0 ≤ -c by grind);grind
    ·refine R.dm.2 (aji.1 fun k => ?_);have:=ag5 Y5 (show 0≤c by grind);grind
   have h1:qG z 1:=hA.mono (by rw[←R.uQ];exact R.dm.2 s9);have Wh:(0:R)≤R.ofQ (((N:Nat):Int):Rat):=by rw[←R.eg];exact R.dm.2 (agw.2 (show (0:Int)≤_ by omega))
   obtain⟨S,s1,s2⟩:=Qx h1 Wh q (fun c He=>hN c (agm _ He));have h5:=s1.mul hA;rw[evR] at h0;have e1:evR q z*z=R.ofQ (-a):=by rw[R.uP];grind
   rw[e1,s2,←R.qD,←R.qD] at h5;have h6:=Tq h5;rw[wz] at h6;obtain⟨i,i1,i2⟩:=hc a (agM ..);have hi:i≠0:=fun e=>by
    rw[e] at i1;rcases agV.1 i1 with k|k
    ·exact ha k
    ·grind
   have h7:1≤ab (i:Rat):=by
    rcases(show i ≤ -1∨1≤i by omega) with k|k
    ·have:(i:Rat)≤((-1:Int):Rat):=agw.2 k;have e:((-1:Int):Rat) = -1:=by decide +kernel
     rcases bf (i:Rat) with t|t<;>grind
    ·have:((1:Int):Rat)≤(i:Rat):=agw.2 k;have e:((1:Int):Rat)=1:=by decide +kernel
     rcases bf (i:Rat) with t|t<;>grind
   rw[←i1,jZ,show ab (((E:Nat):Int):Rat)=(((E:Nat):Int):Rat) from by rcases bf (((E:Nat):Int):Rat) with t|t<;>grind] at h7;have hq:(((q.length:Nat):Int):Rat)≤((5:Int):Rat):=agw.2 (by simp only[List.length_cons] at hl;omega);have e5:((5:Int):Rat)=5:=by decide +kernel
   have e6:(((5*N*E:Nat):Int):Rat)=5*(((N:Nat):Int):Rat)*(((E:Nat):Int):Rat):=by rw[agz,agz,agt,agt];rfl
   have hN0:(0:Rat)≤(((N:Nat):Int):Rat):=agw.2 (show (0:Int)≤_ by omega);have Iy:0≤δ:=by
    have a1:=hA.1;have a2:=hA.2;have:(0:R)≤R.ofQ δ:=by grind
    rw[←R.eg] at this;exact R.dm.1 this
   rw[e6] at hd;rw[e5] at hq;generalize (((q.length:Nat):Int):Rat)=Q at hq h6;generalize (((N:Nat):Int):Rat)=W at hd h6 hN0;generalize (((E:Nat):Int):Rat)=F at hd h7 Y5;have m1:=ag1 hq (agP hN0 Iy);have m2:ab a≤5*(W*δ):=by grind
   have m3:=ag1 m2 (show 0≤F by grind);grind
theorem Qy{T:Tw}{A B D:Nat}(t:Nk T A B)(hD:D≠0)(DW:D≤10^24){x:Q4 T}(hx:Dn D (2*10^24) x){L:Nat}(hL:L≤2):∃E,E≠0∧E≤10^180∧∀a∈uZ x L,Dn E (10^180) a:=by
 have hz:(0:Rat)*(((D:Nat):Int):Rat)=((0:Int):Rat):=by rw[agJ];rfl
 have c0:∀a∈([-x,1]:List (Q4 T)),Dn D (2*10^24) a:=fun a ha=>by
  simp only[List.mem_cons,List.not_mem_nil,or_false] at ha;rcases ha with rfl|rfl
  ·exact hx.neg
  ·exact⟨(D:Int),0,0,0,aht _,hz,hz,hz,by omega,ago _,ago _,ago _⟩
 have:L=0∨L=1∨L=2:=by omega
 rcases this with rfl|rfl|rfl
 ·exact⟨D,hD,ag3 DW (by decide),fun a ha=>(c0 a ha).mono (by decide)⟩
 ·obtain⟨E,e0,e1,e2⟩:=uR t hD 0 c0;rw[show ([-x,1]:List (Q4 T)).length=2 from rfl] at e2;refine⟨E,e0,ag3 e1 (ag3 (afU _ (agx DW DW)) (by decide)),fun a ha=>(e2 a ha).mono (by decide)⟩
 ·obtain⟨E,e0,e1,e2⟩:=uR t hD 1 c0;rw[show ([-x,1]:List (Q4 T)).length=2 from rfl] at e2;obtain⟨F,f0,f1,f2⟩:=uR t e0 0 e2;have e3:E≤10^72:=ag3 e1 (ag3 (afU _ (agx DW DW)) (by decide));refine⟨F,f0,ag3 f1 (ag3 (afU _ (agx e3 e3)) (by decide)),fun a ha=>(f2 a ha).mono ?_⟩;rw[x4,show([-x,1]:List (Q4 T)).length=2 from rfl];decide
theorem V3{n a b c:Nat}(ha:a=200)(hb:b=6)(hc:c=100)(h:n=a*b+c):5*10^180*10^180<2^n:=by rw[h,ahG,ajC,ha,hb,hc];decide +kernel
namespace eh
variable {t:aA} {T:Tw}
theorem sep(G:eh t T)(K:tg T){p q:List Rat}{D D':Nat}(hD:D≠0)(DW:D≤10^12)(hD':D'≠0)(Yk:D'≤10^12)(hp:Dn D (10^12) (toQ T p))(hq:Dn D' (10^12) (toQ T q)){M:Nat}(hM:M=200*6+100)(et:lv K p≠lv K q):R.ofQ (At M)≤lv K p-lv K q∨R.ofQ (At M)≤lv K q-lv K p:=by
 obtain⟨A,B,sm⟩:=G.sm;have ez:lv K p-lv K q=(toQ T p-toQ T q).v K:=(Q4.IY K _ _).symm;have hz:(toQ T p-toQ T q).v K≠0:=fun e=>et (by rw[←ez] at e;grind)
 have d1:=(hp.scale D').mono (show 10^12*D'≤10^24 from ag3 (aga _ Yk) (by decide));have d2:=(hq.scale D).mono (show 10^12*D≤10^24 from ag3 (aga _ DW) (by decide));rw[agR D' D] at d2;have dn:=(d1.sub d2).mono (show _≤2*10^24 by omega);have hDD:D*D'≤10^24:=ag3 (agx DW Yk) (by decide);rw[ez,show lv K q-lv K p = -((toQ T p-toQ T q).v K) from by rw[←ez];grind];generalize toQ T p-toQ T q=z at *;obtain⟨v1,v2,_⟩:=wI z;obtain⟨E,e0,e1,e2⟩:=Qy sm (ahB hD hD') hDD dn v2;have ev:=AZ K v2 v1;obtain⟨l1,l2⟩:=uj v2 v1;have p4:2^rG z≤2^2:=ag6 (by omega) v2;have R0:=GF M;have abm:At M≤1:=by have:=VE (ago M);rwa[PY] at this
 have abn:At M*(((5*10^180*E:Nat):Int):Rat)<1:=by have h1:5*10^180*E<2^M:=ahg (aga _ e1) (V3 rfl rfl rfl hM);have h2:(((5*10^180*E:Nat):Int):Rat)<twP M:=aiz.2 (by omega);have h3:=CV M;have h4:=Rat.mul_lt_mul_of_pos_left h2 R0;grind
 have h:=Fa e0 hz abm abn (nD z (rG z)) (by omega) (fun c hc=>by
  obtain⟨a,ha,rfl⟩:=agI.1 hc;obtain⟨i,_,_,_,h1,_,_,_,h5,_⟩:=e2 a ha;exact⟨i,h1,h5⟩) (by
  refine⟨coef (nD z (rG z)) (2^rG z),?_,by rw[l2];decide⟩;exact ag4 (mH (by omega))) ev
 unfold qG at h;by_cases k:R.ofQ (At M)≤z.v K
 ·exact .inl k
 ·right;grind
end eh
end Go.Proofs.YtcpnocgollpbhaaGreatDoor.Sym
namespace Go.Proofs.YtcpnocgollpbhaaGreatDoor.Sym
open Go Path cF
set_option linter.unusedVariables false
namespace Jf
theorem ok7:sZ 7 6:=by decide +kernel
theorem I7{q:List Rat}(z:aQ q=false)(h0:q≠[])(hl:q.length≤6)(hf:Fl 1 q):dN 7 6 q:=⟨z,h0,hl,(Ch.LM hf).mono (by omega),by omega,by omega,by decide +kernel⟩
theorem Yl(a b:Rat)(gM:a≤b)(ha:a.num.natAbs<100)(hb:b.num.natAbs<100)(ha2:a.den<100)(s7:b.den<100)(s1:(ratT a).size<1000)(s2:(ratT b).size<1000):Cp 30 [(sY a b).pv] (.str (ratT a++ByteArray.mk #[46,46]++ratT b)):=by have h1:ht a≤1:=ajB.2 ⟨fo (by omega),fo (by rw[agi];omega)⟩;have h2:ht b≤1:=ajB.2 ⟨fo (by omega),fo (by rw[agi];omega)⟩;have hc:=Wl.clean (sY a b) (Gx (ag3 h1 (by omega)) (ag3 h2 (by omega)));rw[Gv gM,Gw gM] at hc;have e2:(ByteArray.mk #[46,46]).size=2:=rfl;exact vr.e0 _ (sY a b) _ _ hc (Y1.um a ha ha2) (by omega) (Y1.um b hb s7) (by rw[ajc];omega)
abbrev z8:List Rat:=[-2,0,1]
abbrev Hb:List Rat:=[-3,0,1]
theorem abo:kY 7 6 z8=[(-4,0),(0,4)]:=by decide +kernel
theorem abp:kY 7 6 Hb=[(-4,0),(0,4)]:=by decide +kernel
def a2:bk:=fv (aY z8) 0 4
def a3:bk:=fv (aY Hb) 0 4
theorem Ym:aY z8=z8:=by decide +kernel
theorem Yn:aY Hb=Hb:=by decide +kernel
theorem SI:a2=fv z8 0 4:=by unfold a2;rw[Ym]
theorem V4:a3=fv Hb 0 4:=by unfold a3;rw[Yn]
theorem n1:numT 1=ByteArray.mk #[49]:=by unfold numT;rw[ag7 (by decide),show(1:Int).natAbs=1 from rfl,uS (by omega)];rfl
theorem n2:numT 2=ByteArray.mk #[50]:=by unfold numT;rw[ag7 (by decide),show(2:Int).natAbs=2 from rfl,uS (by omega)];rfl
theorem n3:numT 3=ByteArray.mk #[51]:=by unfold numT;rw[ag7 (by decide),show(3:Int).natAbs=3 from rfl,uS (by omega)];rfl
theorem t1:ratT 1=ByteArray.mk #[49]:=by unfold ratT;rw[ag9 (by decide),show(1:Rat).num=1 from rfl,n1]
theorem t32:ratT (Rat.divInt 3 2)=ByteArray.mk #[51,47,50]:=by
 have en:(Rat.divInt 3 2).num=3:=by decide +kernel
 have ed:((Rat.divInt 3 2).den:Int)=2:=by decide +kernel
 unfold ratT;rw[ag7 (by rw[ed];decide),en,ed,n3,n2];decide +kernel
theorem Yo(q:List Rat)(hl:q.length≤1000)(hf:Fl 68719476736 q):Cp 12 [pq q,pq q] (vB true):=by
 have:=CBa.aaP (q.map aI) (q.map aI) (by rw[bM];omega) (fun a ha=>by obtain⟨x,hx,rfl⟩:=agI.1 ha;have:=bK (hf x hx);omega)
 rw[MX] at this;exact po.e0 _ _ _ this
end Jf
namespace Jf
theorem Yp{p:List Rat}{lo hi:Rat}(z:aQ p=false)(l:p.length=3)(f:Fl 1 p)(hg:(cu p (an p)).length=1)(hi':xQ p lo hi=true)(hle:lo≤hi)(h1:ht lo≤1)(h2:ht hi≤1):Cp 64 [(fv p lo hi).pv] .ay:=by
 have p0:p≠[]:=fun e=>by rw[e] at l;cases l
 have F:=I7 z p0 (by omega) f;have ch:Ch 7 p:=F.ch;have hc:=Iq.Check (p.map aI) (VJ (kT f) (by omega));rw[F.x8] at hc;have hd:=PQ.Cu p z (by omega) f (by omega);have hdl:=zU p;have hgc:=PQ.Gcd (h:=7) (b:=8) (c:=70) (L:=6) (by omega) (by omega) (by omega) (by omega) (by omega) XV p (an p) z (bc _) (by omega) (by omega) ch (ch.derive (by omega));have hI:=Ha.EX F (sY lo hi) ⟨bK (ag3 h1 (by omega)),bK (ag3 h2 (by omega))⟩;have hb:DS p (sY lo hi)=true:=by unfold DS;rw[Gu hle,Gv hle,Gw hle,hi'];rfl
 rw[hb] at hI;exact oi.e3 (fv p lo hi) _ _ _ hc (by show(p.map aI).length≠0;rw[bM];omega) hd hgc (by rw[bM];exact hg) hI rfl
theorem aok{p:List Rat}(z:aQ p=false)(l:p.length=3)(f:Fl 1 p){lo hi:Rat}(h1:ht lo≤1)(h2:ht hi≤1):P0 p lo hi:=⟨z,bV f (by omega),by omega,by omega,by omega⟩
theorem apS{f g:List Rat}{lo hi lo' hi' u v u' v':Rat}{r:PV}(O:P0 f lo hi)(P:P0 g lo' hi')(hle:lo≤hi)(abr:lo'≤hi')(k1:lo'<hi)(k2:lo<hi')(m1:ht (midQ lo hi)≤1)(m2:ht (midQ lo' hi')≤1)(e1:gO f lo hi=(u,v))(e2:gO g lo' hi'=(u',v'))
  (hL:cG.ai (fv f u v) (fv g u' v') r):cG.ai (fv f lo hi) (fv g lo' hi') r:=by
 have h1:=O.h1;have h2:=O.h2;have h3:=P.h1;have h4:=P.h2;have x1:=wM.Ig O hle (by omega);have x2:=wM.Ig P abr (by omega);rw[e1] at x1;rw[e2] at x2;exact cG.l10 (fv f lo hi) (fv g lo' hi') _ _ _ _ (QF.xG hi lo' (by omega) (by omega)) (by rw[pD k1];omega) (QF.xG hi' lo (by omega) (by omega)) (by rw[pD k2];omega) x1 x2 hL
theorem Ru{f:List Rat}{lo hi:Rat}(O:P0 f lo hi)(hle:lo≤hi){b:Nat}(hb:b≤64){u v:Int}(hu:u.natAbs<1000)(hv:v.natAbs<1000){r:PV} :
  (1<v-u→ht (Ng ((u+v)/2) b)≤1→(0≤ep f lo hi (Ng ((u+v)/2) b)→cT.ai (b:Int) (fv f lo hi) (Sym.whole ((u+v)/2)) (Sym.whole v) r→cT.ai (b:Int) (fv f lo hi) (Sym.whole u) (Sym.whole v) r) ∧
   (ep f lo hi (Ng ((u+v)/2) b)<0→cT.ai (b:Int) (fv f lo hi) (Sym.whole u) (Sym.whole ((u+v)/2)) r→cT.ai (b:Int) (fv f lo hi) (Sym.whole u) (Sym.whole v) r)) ∧
  (v-u=1→cT.ai (b:Int) (fv f lo hi) (Sym.whole u) (Sym.whole v) (.aF [(Sym.whole u).pv,.ay])):=by
 have w:∀n:Int,n.natAbs<4000→wl n≤1:=fun n hn=>mU (Nat.lt_trans hn (by decide))
 have ft:∀n:Int,n.natAbs<4000→Fit (Sym.whole n).cD:=fun n hn=>by show _≤_;rw[nt];have:=w n hn;omega
 have q1:=cF.Sub (Sym.whole v) (Sym.whole u) (ft v (by omega)) (ft u (by omega));have o1:=cF.Of 1 (by unfold az;omega);have o2:=cF.Of 2 (by unfold az;omega);have q2:=cF.xG (Sym.whole (v-u)) (Sym.whole 1) (ft _ (by omega)) (ft 1 (by decide));have q3:=cF.Add (Sym.whole u) (Sym.whole v) (ft u (by omega)) (ft v (by omega));have q4:=cF.Div (Sym.whole (u+v)) (Sym.whole 2) (ft _ (by omega)) (ft 2 (by decide)) (by rw[aC];omega);rw[aC,aC] at q1 q2 q3 q4;have wm:=w ((u+v)/2) (by omega);have q5:=wM.scaled ((u+v)/2) (by omega) hb;refine⟨fun hd hg => ?_,fun hd => ?_⟩
 ·have q6:=wM.compare O hle (x:=Ng ((u+v)/2) b) (by omega);exact⟨fun hc hL=>cT.l10 _ (fv f lo hi) _ _ _ _ _ _ _ _ _ none _ _ q1 o1 q2 (by rw[oG hd];omega) q3 o2 q4 q5 q6 hc hL,fun hc hL=>cT.c9 _ (fv f lo hi) _ _ _ _ _ _ _ _ _ none _ _ q1 o1 q2 (by rw[oG hd];omega) q3 o2 q4 q5 q6 hc hL⟩
 ·exact cT.Dp _ (fv f lo hi) _ _ _ _ _ q1 o1 q2 (by rw[hd];decide)
theorem Dl{n:Int}{b:Nat}(hn:n.natAbs<1000)(hb:b≤64):Cp 56 [vI 1] (Sym.whole 1).pv∧Cp 74 [(Sym.whole n).pv,(Sym.whole 1).pv] (Sym.whole (n+1)).pv∧Cp 71 [(Sym.whole (n+1)).pv,vI (b:Int)] (.aF [(aI (Ng (n+1) b)).pv,.ay]):=by
 have w:∀n:Int,n.natAbs<4000→wl n≤1:=fun n hn=>mU (Nat.lt_trans hn (by decide))
 have w1:=w n (by omega);have w2:=w (n+1) (by omega);have w3:=w 1 (by decide);have ad:=cF.Add (Sym.whole n) (Sym.whole 1) (by show _≤_;rw[nt];omega) (by show _≤_;rw[nt];omega);rw[aC,aC] at ad;exact⟨cF.Of 1 (by unfold az;omega),ad,wM.scaled (n+1) (by omega) hb⟩
theorem f2:Fl 1 z8:=by decide +kernel
theorem f3:Fl 1 Hb:=by decide +kernel
theorem z2:aQ z8=false:=by decide +kernel
theorem z3:aQ Hb=false:=by decide +kernel
theorem Wq{lo hi:Rat}(h1:ht lo≤1)(h2:ht hi≤1):P0 z8 lo hi:=aok z2 rfl f2 h1 h2
theorem Y6{lo hi:Rat}(h1:ht lo≤1)(h2:ht hi≤1):P0 Hb lo hi:=aok z3 rfl f3 h1 h2
theorem ck2:Cp 64 [a2.pv] .ay:=by rw[SI];exact Yp z2 rfl f2 (by decide +kernel) (by decide +kernel) (by decide +kernel) (by decide +kernel) (by decide +kernel)
theorem ck3:Cp 64 [a3.pv] .ay:=by rw[V4];exact Yp z3 rfl f3 (by decide +kernel) (by decide +kernel) (by decide +kernel) (by decide +kernel) (by decide +kernel)
theorem Yq:Cp 23 [a2.pv,a3.pv] (.aF [vI (-1),.ay]):=by
 have c2:=ck2;have c3:=ck3;rw[SI] at c2 ⊢;rw[V4] at c3 ⊢;have hg:=PQ.Gcd (h:=7) (b:=7) (c:=63) (L:=6) (by omega) (by omega) (by omega) (by omega) (by omega) (by decide) Hb z8 z3 z2 (by decide) (by decide) (I7 z3 (by simp) (by decide) f3).ch (I7 z2 (by simp) (by decide) f2).ch;have va:=fj.e1 _ (fv z8 0 4) _ (by decide) hg (by rw[bM];decide +kernel);have eq:=jt.e0 (fv z8 0 4) (fv Hb 0 4) _ va rfl;have ap:cG.ai (fv z8 0 4) (fv Hb 0 4) (.aF [(fv z8 1 (Rat.divInt 3 2)).pv,(fv Hb (Rat.divInt 3 2) 2).pv,.ay]):=by refine apS (u:=0) (v:=2) (u':=0) (v':=2) (Wq (by decide +kernel) (by decide +kernel)) (Y6 (by decide +kernel) (by decide +kernel)) (by decide +kernel) (by decide +kernel) (by decide +kernel) (by decide +kernel) (by decide +kernel) (by decide +kernel) (by decide +kernel) (by decide +kernel) ?_;refine apS (u:=1) (v:=2) (u':=1) (v':=2) (Wq (by decide +kernel) (by decide +kernel)) (Y6 (by decide +kernel) (by decide +kernel)) (by decide +kernel) (by decide +kernel) (by decide +kernel) (by decide +kernel) (by decide +kernel) (by decide +kernel) (by decide +kernel) (by decide +kernel) ?_;refine apS (u:=1) (v:=Rat.divInt 3 2) (u':=Rat.divInt 3 2) (v':=2) (Wq (by decide +kernel) (by decide +kernel)) (Y6 (by decide +kernel) (by decide +kernel)) (by decide +kernel) (by decide +kernel) (by decide +kernel) (by decide +kernel) (by decide +kernel) (by decide +kernel) (by decide +kernel) (by decide +kernel) ?_;exact cG.Dp (fv z8 1 (Rat.divInt 3 2)) (fv Hb (Rat.divInt 3 2) 2) _ (QF.xG (Rat.divInt 3 2) (Rat.divInt 3 2) (by decide +kernel) (by decide +kernel)) (by decide +kernel)
 have cm:=kR.e1 (fv z8 0 4) (fv Hb 0 4) _ _ _ _ _ _ eq rfl (cG.e0 _ _ ap) (Ha.Wm 1 (Rat.divInt 3 2) (by decide +kernel) (by decide +kernel) (by decide +kernel)) (Ha.Wm (Rat.divInt 3 2) 2 (by decide +kernel) (by decide +kernel) (by decide +kernel)) (QF.xG _ _ (by decide +kernel) (by decide +kernel)) (by decide +kernel);exact fC.e0 _ _ (fC.l10 0 _ _ (fv z8 0 4) (by omega) rfl c2 (by omega) (fC.l10 1 _ _ (fv Hb 0 4) (by omega) rfl c3 (by omega) (fC.kA 2 _ _ (-1) none (by omega) cm)))
theorem Mo(x:Rat)(hx:ht x≤1)(b:Nat)(hb:b≤64)(n:Int)(hn:(x*twP b).floor=n):Cp 136 [(aI x).pv,vI (b:Int)] (Sym.whole n).pv:=by have:=wM.ab3 (x:=x) (by omega) hb;rwa[hn] at this
theorem V5:Cp 70 [(fv z8 0 4).pv,vI ((0:Nat):Int)] (.aF [(Sym.whole 1).pv,.ay]):=by
 have O:P0 z8 0 4:=Wq (by decide +kernel) (by decide +kernel);have hle:(0:Rat)≤4:=by decide +kernel
 obtain⟨o1,o2,_⟩:=Dl (n:=4) (b:=0) (by decide) (by omega);refine cT.e0 (fv z8 0 4) _ _ _ _ _ (Mo 0 (by decide +kernel) 0 (by omega) 0 (by decide +kernel)) (Mo 4 (by decide +kernel) 0 (by omega) 4 (by decide +kernel)) o1 o2 ?_;refine((Ru O hle (b:=0) (by omega) (u:=0) (v:=5) (by decide) (by decide)).1 (by omega) (by decide +kernel)).2 (by decide +kernel) ?_;refine((Ru O hle (b:=0) (by omega) (u:=0) (v:=2) (by decide) (by decide)).1 (by omega) (by decide +kernel)).1 (by decide +kernel) ?_;exact(Ru O hle (b:=0) (by omega) (u:=1) (v:=2) (r := .ay) (by decide) (by decide)).2 (by omega)
theorem Qz:Cp 70 [(fv z8 0 4).pv,vI ((1:Nat):Int)] (.aF [(Sym.whole 2).pv,.ay]):=by
 have O:P0 z8 0 4:=Wq (by decide +kernel) (by decide +kernel);have hle:(0:Rat)≤4:=by decide +kernel
 obtain⟨o1,o2,_⟩:=Dl (n:=8) (b:=1) (by decide) (by omega);refine cT.e0 (fv z8 0 4) _ _ _ _ _ (Mo 0 (by decide +kernel) 1 (by omega) 0 (by decide +kernel)) (Mo 4 (by decide +kernel) 1 (by omega) 8 (by decide +kernel)) o1 o2 ?_;refine((Ru O hle (b:=1) (by omega) (u:=0) (v:=9) (by decide) (by decide)).1 (by omega) (by decide +kernel)).2 (by decide +kernel) ?_;refine((Ru O hle (b:=1) (by omega) (u:=0) (v:=4) (by decide) (by decide)).1 (by omega) (by decide +kernel)).1 (by decide +kernel) ?_;refine((Ru O hle (b:=1) (by omega) (u:=2) (v:=4) (by decide) (by decide)).1 (by omega) (by decide +kernel)).2 (by decide +kernel) ?_;exact(Ru O hle (b:=1) (by omega) (u:=2) (v:=3) (r := .ay) (by decide) (by decide)).2 (by omega)
theorem Yr:Cp 28 [a2.pv,vI 1] (.aF [(sY 1 (Rat.divInt 3 2)).pv,.ay]):=by have c2:=ck2;rw[SI] at c2 ⊢;obtain⟨o1,o2,o3⟩:=Dl (n:=2) (b:=1) (by decide) (by omega);have s1:=wM.scaled 2 (by decide) (b:=1) (by omega);have k1:=wM.compare (Wq (lo:=0) (hi:=4) (by decide +kernel) (by decide +kernel)) (by decide +kernel) (x:=Ng 2 1) (by decide +kernel);have:=tP.e3 (fv z8 0 4) _ _ _ _ _ _ _ none c2 (by omega) (by omega) Qz s1 k1 (by decide +kernel) o1 o2 o3;rw[show Ng 2 1=1 from by decide +kernel,show Ng (2+1) 1=Rat.divInt 3 2 from by decide +kernel] at this;exact this
theorem Ys:Cp 29 [a2.pv,a3.pv] (.aF [(aI (Rat.divInt 3 2)).pv,.ay]):=by
 have c:=Yq;rw[SI,V4] at c ⊢;obtain⟨o1,o2,o3⟩:=Dl (n:=1) (b:=0) (by decide) (by omega);obtain⟨p1,p2,p3⟩:=Dl (n:=2) (b:=1) (by decide) (by omega);have k:∀x:Rat,ht x≤1→_:=fun x hx=>wM.compare (Y6 (lo:=0) (hi:=4) (by decide +kernel) (by decide +kernel)) (by decide +kernel) (x:=x) (by omega)
 have L1:=jJ.l10 1 (fv z8 0 4) (fv Hb 0 4) _ _ _ _ _ (by omega) Qz p1 p2 p3 (k (Ng (2+1) 1) (by decide +kernel)) (by decide +kernel);have L0:=jJ.c9 0 (fv z8 0 4) (fv Hb 0 4) _ _ _ _ _ (by omega) V5 o1 o2 o3 (k (Ng (1+1) 0) (by decide +kernel)) (by decide +kernel) (by omega) L1;rw[show Ng (2+1) 1=Rat.divInt 3 2 from by decide +kernel] at L0;exact jJ.e1 _ _ _ c (by omega) L0
def t2:aA:=⟨[[aI 2]]⟩
theorem Yt:eh t2 ⟨2,0,0⟩:=by
 have hn:(0:R)≤R.ofQ 2:=by rw[←R.eg];exact R.dm.2 (by decide)
 obtain⟨s,s0,s1⟩:=R.P7 (R.ofQ 2) hn;let K:tg ⟨2,0,0⟩:=⟨s,0,s0,by grind,s1,by show(0:R)*0=R.ofQ 0+R.ofQ 0*s;rw[R.eg];grind⟩;have sm:Nk ⟨2,0,0⟩ 1 1:=⟨by decide,by decide,by decide,by decide,⟨2,by decide +kernel,by decide⟩,⟨0,by decide +kernel,by decide⟩,⟨0,by decide +kernel,by decide⟩⟩;have lo:∀x∈[aI 2],Lo x:=fun x hx=>by
  have:x=aI 2:=by simpa using hx
  subst this;exact⟨by decide +kernel,by decide +kernel,by decide +kernel,by decide +kernel⟩
 have n1:=tc.oO ⟨[]⟩ (a:=[aI 2]) (by decide) (fun x hx=>Dj (lo x hx));have n2:=NL.oO 0 (a:=[aI 2]) (by decide) (fun x hx=>Dj (lo x hx));rw[show wH ([]:List (List ag)).length [aI 2]=0 from by decide +kernel] at n1;rw[show wH 0 [aI 2]=0 from by decide +kernel] at n2;have hQ:Hq 1 (toQ (⟨2,0,0⟩:Tw) [2]):=Hq.rL (q:=2) (by decide +kernel);have l0:Lk 0 [(2:Rat)] := .inr ⟨0,afY _,rfl⟩;have s1:=tc.Df sm.tok K (t:=⟨[]⟩) (n:=0) ⟨by omega,fun j hj=>by omega⟩ 0 (afY _) [2] 1 l0 hQ (by omega) (by decide);have s2:=NL.Df sm.tok K (t:=t2) (n:=0) ⟨by omega,fun j hj=>by omega⟩ 0 (afY _) [2] 1 l0 hQ (by omega) (by decide);have e:R.fQ (lv K [2])=1:=by rw[XX];decide +kernel
 rw[e] at s1 s2;refine⟨⟨by decide,fun j hj => ?_⟩,⟨1,1,sm⟩,⟨K⟩,E7 (by decide) ⟨fE.kA t2 0 [aI 2] 1 (by decide) rfl (by omega) (by decide) rfl (by omega) n1 s1 (by omega) (by omega) (fE.Dp t2 1 (by decide)),bP.uA t2 0 [aI 2] _ 1 (by decide) rfl (by omega) (by decide) rfl n2 rfl s2 (by omega) (by omega) (bP.Dp t2 1 (by decide))⟩⟩;have hj:j<1:=hj;have:j=0:=by omega
 subst this;rfl
theorem abt:Cp 7 [t2.pv,pq [1,1]] (.aF [pq [-1, -2,1],.ay]):=by
 have lq:Lk t2.roots.length [(1:Rat),1] := .inr ⟨1,afY _,rfl⟩;have hz:∀D:Int,(0:Rat)*(D:Rat)=((0:Int):Rat):=fun D=>by rw[agJ];rfl
 have hq:Hq 2 (toQ (⟨2,0,0⟩:Tw) [1,1]):=⟨1,1,1,0,0,by decide,by decide,by decide +kernel,by decide +kernel,by decide +kernel,by decide +kernel,by decide,by decide,by decide,by decide⟩;have:=Yt.V0 lq hq;rwa[show nD (toQ (⟨2,0,0⟩:Tw) [1,1]) (rG (toQ (⟨2,0,0⟩:Tw) [1,1]))=[-1, -2,1] from by decide +kernel] at this
theorem wK:Cp 6 [] (vB true):=by
 have h2:=of [-2,0,1] (by unfold az;decide) (by decide);have h3:=of [-3,0,1] (by unfold az;decide) (by decide);have g1:=of [2] (by unfold az;decide) (by decide);have g2:=of [1,1] (by unfold az;decide) (by decide);have g3:=of [-1, -2,1] (by unfold az;decide) (by decide);have F2:Fl 1 z8:=by decide +kernel
 have F3:Fl 1 Hb:=by decide +kernel
 have r2:=wM.Ts (I7 (by decide +kernel) (by simp) (by decide) F2) F2.bd ok7;have r3:=wM.Ts (I7 (by decide +kernel) (by simp) (by decide) F3) F3.bd ok7;rw[abo] at r2;rw[abp] at r3;have x1:=Yl 1 (Rat.divInt 3 2) (by decide +kernel) (by decide +kernel) (by decide +kernel) (by decide +kernel) (by decide +kernel) (by rw[t1];decide) (by rw[t32];decide);rw[t1,t32] at x1;have x2:=Y1.um (Rat.divInt 3 2) (by decide +kernel) (by decide +kernel);rw[t32] at x2;have sm:=Yo [-1, -2,1] (by decide) (by decide +kernel);exact ov.e2 _ _ _ _ _ _ _ a2 a3 (-1) (sY 1 (Rat.divInt 3 2)) (aI (Rat.divInt 3 2)) _ _ _ _ h2 r2 h3 r3 g1 g2 abt rfl rfl rfl rfl Yq Yr Ys rfl x1 (by decide +kernel) x2 rfl g3 sm
end Jf
namespace Jf
theorem Yu(t:aA)(x:List ag):∃b,Cp 5 [t.pv,ae x] (vB b)∧(b=true→(t.roots.length≤2∨5<t.roots.length)∧(∀d∈t.roots,d.length≤6∧∀a∈d,Lo a)∧x.length≤6∧∀a∈x,Lo a):=by
 by_cases h8:8<t.roots.length
 ·exact⟨false,bY.e1 t x (by omega) (by omega) (by omega),fun h=>by cases h⟩
 have loop:∀d s:Nat,t.roots.length-s=d→∃b,bY.ai t s (vB b)∧(b=true→∀d∈t.roots.drop s,d.length≤6∧∀a∈d,Lo a):=by
  intro d
  induction d with
  |zero=>intro s hd;exact⟨true,bY.kA t s (by omega),fun _=>by rw[agv (by omega)];intro a ha;cases ha⟩
  |succ d ih =>
   intro s hd;obtain⟨v,hv⟩:∃v,t.roots[s]? = some v:=⟨_,afO (by omega)⟩;obtain⟨b1,h1,h2⟩:=short v;cases b1 with
   |false=>exact⟨false,bY.l10 t s v _ (by omega) hv h1 rfl,fun h=>by cases h⟩
   |true =>
    obtain⟨b,g1,g2⟩:=ih (s+1) (by omega);refine⟨b,bY.c9 t s v _ (by omega) hv h1 rfl (by omega) g1,fun h a ha => ?_⟩;rw[drop_cons hv] at ha;rcases agp.1 ha with rfl|ha
    ·exact h2 rfl
    ·exact g2 h a ha
 obtain⟨b,l1,l2⟩:=loop _ 0 rfl;rw[ah3] at l2;obtain⟨c,s1,s2⟩:=short x;by_cases h2:t.roots.length≤2
 ·cases c with
  |false=>exact⟨false,bY.e5 t x _ h2 (by omega) s1 rfl,fun h=>by cases h⟩
  |true=>exact⟨b,bY.e6 t x _ h2 (by omega) s1 rfl l1,fun h=>⟨.inl h2,l2 h,s2 rfl⟩⟩
 ·by_cases h5:t.roots.length≤5
  ·exact⟨false,bY.e0 t x (by omega) h5,fun h=>by cases h⟩
  ·cases c with
   |false=>exact⟨false,bY.e2 t x _ (by omega) (by omega) (by omega) s1 rfl,fun h=>by cases h⟩
   |true=>exact⟨b,bY.e3 t x _ (by omega) (by omega) (by omega) s1 rfl l1,fun h=>⟨.inr (by omega),l2 h,s2 rfl⟩⟩
end Jf
namespace eh
variable {t:aA} {T:Tw}
theorem horner(G:eh t T)(K:tg T){p:List Rat}(lp:Lk t.roots.length p)(hp:Hq 2 (toQ T p)){P:List Rat}(hP:Fl 14 P)(hl:P.length≤5)(y:List ag){r:PV}
  (fin:∀s:Q4 T,Lv t.roots.length s→Hq 1000 s→s.v K=evR P (lv K p)→aN.ai (p.map aI) y (P.map aI) ((gX s).map aI) (-1) t r) :
  ∀(k h:Nat) (s:Q4 T),k≤P.length→1≤h→h+30*k≤1000→Lv t.roots.length s→Hq h s→s.v K=evR (P.drop k) (lv K p)→aN.ai (p.map aI) y (P.map aI) ((gX s).map aI) ((k:Int)-1) t r
 |0,h,s,_,h1,hh,ls,hs,e=>fin s ls (hs.mono (by omega)) (by rw[e,ah3])
 |k+1,h,s,hk,h1,hh,ls,hs,e=>by
  have hn:=G.GK;have hc:P[k]? = some (coef P k):=mH (by omega);have hx:ht (coef P k)≤14:=hP _ (ag4 hc);have m:=G.Sv (a:=gX s) (b:=p) (h:=h) (h':=2) (mV ls) lp (by rw[dA];exact hs) hp h1 (by omega) (by omega);have o:=Y4 T hx (by omega);have lc:Lv t.roots.length (Q4.rL (coef P k):Q4 T):=Nn (show Lv 0 (Q4.rL (coef P k):Q4 T) from⟨rfl,rfl,rfl⟩) (ago _);have lm:Lv t.roots.length (s*toQ T p):=ls.mul (E5 lp);have hm:Hq (h+2+8) (s*toQ T p):=Hq.mul G.tok hs hp;have ho:Hq 14 (Q4.rL (coef P k):Q4 T):=Hq.rL hx;have a:=G.X5 (a:=gX (s*toQ T p)) (b:=gX (Q4.rL (coef P k):Q4 T)) (h:=h+2+8) (h':=14) (mV lm) (mV lc) (by rw[dA];exact hm) (by rw[dA];exact ho) (by omega) (by omega) (by omega);rw[dA] at m;rw[dA,dA] at a;have ih:=horner G K lp hp hP hl y fin k (h+2+8+14+1) (s*toQ T p+Q4.rL (coef P k)) (by omega) (by omega) (by omega) (lm.add lc) (hm.add ho) (by rw[drop_cons hc,evR,Q4.E3,Q4.s6,Q4.E4,e];rfl)
  have hg:(P.map aI)[k]? = some (aI (coef P k)):=by rw[afT,hc];rfl
  rw[show (((k+1:Nat):Int)-1)=(k:Int) from by omega];exact aN.l10 _ _ _ _ _ t _ k _ _ _ (by omega) m rfl hg o a (by unfold az;omega) ih
end eh
namespace Jf
theorem abu(t:aA){T:Tw}(G:eh t T){p q:List Rat}(lp:Lk t.roots.length p)(lq:Lk t.roots.length q){D D':Nat}(d0:D≠0)(d1:D≤10^12)(d2:Dn D (10^12) (toQ T p))(e0:D'≠0)(e1:D'≤10^12)(e2:Dn D' (10^12) (toQ T q))
  (h1:Cp 5 [t.pv,pq p] (vB true)) (h2:Cp 5 [t.pv,pq q] (vB true)) (n1:Cp 15 [vI (t.roots.length:Int),pq p] (vI 0)) (n2:Cp 15 [vI (t.roots.length:Int),pq q] (vI 0)) :
  Cp 4 [t.pv,pq p,pq q] (vB true):=by
 obtain⟨A,B,sm⟩:=G.sm;obtain⟨K⟩:=G.rts;have I9:=G.GK;have hp:=Dn.hq d0 d1 d2;have hq:=Dn.hq e0 e1 e2;have m1:=G.V0 lp hp;obtain⟨r,r12,r3⟩:=G.Yh K lp d0 d1 d2;obtain⟨s,s12,s3⟩:=G.Yh K lq e0 e1 e2;obtain⟨r1,r2⟩:=Qv.mem r12;obtain⟨s1,s2⟩:=Qv.mem s12;obtain⟨v1,v2,_,_,v5⟩:=wI (toQ T p);obtain⟨w1,w2,_⟩:=wI (toQ T q);obtain⟨f,bd⟩:=G0 sm d0 d1 d2 v2 v1;obtain⟨g,bg⟩:=G0 sm e0 e1 e2 w2 w1;have ev:=AZ K v2 v1;have a:=Yj f bd r1 r2 ev;have b:=Yj g bg s1 s2 (AZ K w2 w1);obtain⟨M,hM⟩:∃M:Nat,M=200*6+100:=⟨_,rfl⟩;have cm:=wM.abl a b (M:=M) (by omega) (fun et=>G.sep K d0 d1 e0 e1 d2 e2 hM et) (by rw[Rat.mul_comm,CV];exact ag2);have ct:=G.VU K lp lq hp hq (by omega) (by omega) (by omega);have sh:=NL.nE (T:=T) I9 lp;have ml:=(uj v2 v1).1;have mg:=Dk v2 v1;have p4:2^rG (toQ T p)≤2^2:=ag6 (by omega) v2;generalize nD (toQ T p) (rG (toQ T p))=P at *;have fin:∀s:Q4 T,Lv t.roots.length s→Hq 1000 s→s.v K=evR P (lv K p)→aN.ai (p.map aI) (q.map aI) (P.map aI) ((gX s).map aI) (-1) t (vB true):=fun s ls hs e=>by
  have sg:=G.X6 K (a:=gX s) (h:=1000) (mV ls) (by rw[dA];exact hs) (by omega) (by omega);have e0:lv K (gX s)=0:=by unfold lv;rw[dA,e];exact ev
  rw[e0,R.jv.2 rfl] at sg;have:=aN.c9 (p.map aI) (q.map aI) (P.map aI) ((gX s).map aI) (-1) t 0 _ _ _ _ (by omega) sg r3 s3 rfl cm ct;rw[beq_self_eq_true] at this;exact this
 have lz:Lv t.roots.length (0:Q4 T):=Lv.zero _;have RQ:=G.horner K lp hp (bd.1) f.len (q.map aI) fin P.length 1 0 (afY _) (afY _) (by have:=f.len;omega) lz (Hq.zero (afY _)) (by rw[List.drop_length,Dd,evR]);rw[De] at RQ;have o:=tf.Of 1 (by unfold az;omega);rw[show ((1:Int):Rat)=1 from by decide +kernel] at o;have c:=QF.xG 1 1 (by decide) (by decide);have Fe:(P.map aI).length=P.length:=bM _;have Wi:((gX (toQ T p)).map aI).length=(gX (toQ T p)).length:=bM _;refine aN.e6 t (p.map aI) (q.map aI) true true 0 0 0 true (P.map aI) ((gX (toQ T p)).map aI) (P.length-1) (aI 1) (aI 1) _ h1 rfl h2 rfl G.ck.2 rfl n1 rfl n2 rfl wK rfl m1 sh ?_ ?_ ?_ ?_ ?_ o c (nB 1) ?_
 ·rw[Wi];omega
 ·rw[Fe,Wi];omega
 ·rw[Fe];unfold az;omega
 ·rw[Fe];omega
 ·rw[afT,mg];rfl
 ·rw[Fe];exact RQ
theorem u5(t:aA)(x y:List ag){B C D:Prop}(_:B)(_:C)(_:D):Cp 4 [t.pv,ae x,ae y] (vB true):=by
 obtain⟨b,h1,h2⟩:=Yu t x;cases b with
 |false=>exact aN.e0 t x y _ _ h1 rfl wK
 |true =>
  obtain⟨g1,g2,g3,g4⟩:=h2 rfl;obtain⟨b,k1,k2⟩:=Yu t y;cases b with
  |false=>exact aN.e1 t x y _ _ _ h1 rfl k1 rfl wK
  |true =>
   obtain⟨_,_,g5,g6⟩:=k2 rfl;rcases g1 with hl|hl
   ·rcases Ql hl g2 with ⟨c,c0,c1⟩|⟨T,G⟩
    ·exact aN.e2 t x y _ _ _ _ h1 rfl k1 rfl c1.2 c0 wK
    ·have n1:=NL.oO t.roots.length g3 (fun a ha=>Dj (g4 a ha));have n2:=NL.oO t.roots.length g5 (fun a ha=>Dj (g6 a ha));by_cases e1:wH t.roots.length x=0
     ·by_cases e2:wH t.roots.length y=0
      ·obtain⟨ex,lx⟩:=zj g3 e1;obtain⟨ey,ly⟩:=zj g5 e2;rw[e1] at n1;rw[e2] at n2;have lx':=lx.len hl;have ly':=ly.len hl;unfold dk at lx' ly';rw[afW] at lx' ly';obtain⟨D,d0,d1,d2⟩:=GV (T:=T) lx' g4;obtain⟨E,e0,e1,e2⟩:=GV (T:=T) ly' g6;have:=abu t G lx ly d0 d1 d2 e0 e1 e2 (by unfold pq;rw[←ex];exact h1) (by unfold pq;rw[←ey];exact k1) (by unfold pq;rw[←ex];exact n1) (by unfold pq;rw[←ey];exact n2);unfold pq at this;rwa[←ex,←ey] at this
      ·exact aN.e4 t x y _ _ _ _ _ _ h1 rfl k1 rfl G.ck.2 rfl n1 e1 n2 e2 wK
     ·exact aN.e3 t x y _ _ _ _ _ h1 rfl k1 rfl G.ck.2 rfl n1 e1 wK
   ·exact aN.e2 t x y _ _ _ _ h1 rfl k1 rfl (Qn hl).2 (by decide) wK
end Jf
end Go.Proofs.YtcpnocgollpbhaaGreatDoor.Sym
