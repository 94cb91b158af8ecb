/- Lemmas for the statements of this seat. -/
import Derived.Test.YtllmkadmohkbfaaGreatDoorH3
namespace Go.Proofs.YtllmkadmohkbfaaGreatDoor.Sym
open Go Path cP
set_option linter.unusedVariables false
def Dv(p q:List Rat):Prop:=∃u,∀x,evalL q x=evalL u x*evalL p x
def oq(p q:List Rat):Prop:=∃u v,∀x,evalL u x*evalL p x+evalL v x*evalL q x=1
def gS(t:List Rat):Nat→List Rat
 |0=>[1]
 |k+1=>mulL (gS t k) t
theorem dL(c x:Rat):evalL [c] x=c:=by show 0*x+c=c;grind
theorem BZ(t:List Rat)(x:Rat):∀k,evalL (gS t k) x=evalL t x^k
 |0=>by rw[gS,dL,Rat.pow_zero]
 |k+1=>by rw[gS,aE,BZ t x k,Rat.pow_succ]
theorem Dv.refl(p:List Rat):Dv p p:=⟨[1],fun x=>by rw[dL,Rat.one_mul]⟩
theorem Dv.trans{p q r:List Rat}(h:Dv p q)(k:Dv q r):Dv p r:=by
 obtain⟨u,hu⟩:=h
 obtain⟨v,hv⟩:=k
 exact⟨mulL v u,fun x=>by rw[hv,hu,aE];grind⟩
theorem oq.symm{p q:List Rat}(h:oq p q):oq q p:=by
 obtain⟨u,v,e⟩:=h
 exact⟨v,u,fun x=>by have:=e x;grind⟩
theorem oq.Qg{p q r:List Rat}(h:oq p q)(k:Dv r p):oq r q:=by
 obtain⟨u,v,e⟩:=h
 obtain⟨w,hw⟩:=k
 exact⟨mulL u w,v,fun x=>by have:=e x;rw[hw] at this;rw[aE];grind⟩
theorem oq.mul{p q r:List Rat}(h:oq p q)(k:oq p r):oq p (mulL q r):=by
 obtain⟨u,v,e⟩:=h
 obtain⟨u',v',e'⟩:=k
 refine⟨cY u (mulL (mulL v q) u'),mulL v v',fun x => ?_⟩
 have h1:=e x
 have h2:=e' x
 rw[bD,aE,aE,aE,aE]
 have:(evalL u x+evalL v x*evalL q x*evalL u' x)*evalL p x+evalL v x*evalL v' x*(evalL q x*evalL r x)=evalL u x*evalL p x+evalL v x*evalL q x*(evalL u' x*evalL p x+evalL v' x*evalL r x):=by grind
 rw[this,h2];grind
theorem oq.pow{p q:List Rat}(h:oq p q):∀k,oq p (gS q k)
 |0=>⟨[],[1],fun x=>by rw[gS,dL];show(0:Rat)*_+_=_;grind⟩
 |k+1=>(h.pow k).mul h
theorem oq.dv{p q r:List Rat}(h:oq p q)(k:Dv p (mulL q r)):Dv p r:=by
 obtain⟨u,v,e⟩:=h
 obtain⟨w,hw⟩:=k
 refine⟨cY (mulL u r) (mulL v w),fun x => ?_⟩
 have h1:=e x
 have h2:=hw x
 rw[aE] at h2
 rw[bD,aE,aE]
 have:(evalL u x*evalL r x+evalL v x*evalL w x)*evalL p x=(evalL u x*evalL p x)*evalL r x+evalL v x*(evalL w x*evalL p x):=by grind
 rw[this,←h2]
 have:evalL u x*evalL p x*evalL r x+evalL v x*(evalL q x*evalL r x)=(evalL u x*evalL p x+evalL v x*evalL q x)*evalL r x:=by grind
 rw[this,h1,Rat.one_mul]
theorem JK{t a b:List Rat}(ht:aL t≠[])(h:∀x,evalL t x*evalL a x=evalL t x*evalL b x):∀x,evalL a x=evalL b x:=by
 have key:aL (cY a (a6 (-1) b))=[]:=by
  refine Classical.byContradiction fun di => ?_
  have h1:=iT _ _ ht di
  have h2:=fY (p:=mulL (aL t) (aL (cY a (a6 (-1) b)))) (q:=[]) (fun x=>by
   rw[aE,bN,bN,bD,aU]
   have:=h x
   show _=(0:Rat)
   grind)
  rw[h2] at h1
  rcases Rat.mul_eq_zero.1 h1.symm with e|e
  ·exact cE (bh _) ht e
  ·exact cE (bh _) di e
 intro x
 have:=bN x (cY a (a6 (-1) b))
 rw[key,bD,aU] at this
 have h0:(0:Rat)=evalL a x + -1*evalL b x:=this
 grind
theorem Dv.len{p q:List Rat}(h:Dv p q)(hp:aK p=false)(hq:aK q=false)(h0:q≠[]):p≠[]∧p.length≤q.length:=by
 obtain⟨u,hu⟩:=h
 have RZ:p≠[]:=by
  intro e
  subst e
  have:∀i,coef q i=coef [] i:=fY (fun x=>by rw[hu];show _*(0:Rat)=0;rw[Rat.mul_zero])
  exact h0 (kG hq rfl this)
 have R0:aL u≠[]:=by
  intro e
  have:∀i,coef q i=coef [] i:=fY (fun x=>by rw[hu,←bN x u,e];show(0:Rat)*_=0;rw[Rat.zero_mul])
  exact h0 (kG hq rfl this)
 refine⟨RZ,?_⟩
 have h1:=iT _ p R0 RZ
 have h2:=fY (p:=mulL (aL u) p) (q:=q) (fun x=>by rw[aE,bN,hu])
 rw[h2] at h1
 have h3:coef q ((aL u).length+p.length-2)≠0:=by
  rw[h1]
  intro e
  rcases Rat.mul_eq_zero.1 e with e|e
  ·exact cE (bh _) R0 e
  ·exact cE hp RZ e
 have:=tI h3
 have:=List.length_pos_iff.2 R0
 omega
theorem B0{p:List Rat}(hz:aK p=false):Dv (bP p) p:=by
 by_cases h:p=[]
 ·subst h;exact Dv.refl _
 ·refine⟨[bX p],fun x => ?_⟩
  rw[dL,iF]
  have:=Rat.div_mul_cancel (a:=1) (cE hz h)
  grind
theorem M4(p:List Rat):Dv p (bP p):=⟨[1/bX p],fun x=>by rw[dL,iF]⟩
theorem GC:∀(n:Nat) (p q:List Rat),aK p=false→aK q=false→∃u v,∀x,evalL (gB n p q) x=evalL u x*evalL p x+evalL v x*evalL q x
 |0,p,q,_,_=>⟨[1],[],fun x=>by rw[dL];show _=_+(0:Rat)*_;rw[gB];grind⟩
 |n+1,p,q,hp,hq=>by
  rw[gB]
  by_cases h:q.length=0
  ·rw[beq_iff.2 h,cond_true]
   exact⟨[1],[],fun x=>by rw[dL];show _=_+(0:Rat)*_;grind⟩
  ·have di:q≠[]:=fun e=>h (by rw[e];rfl)
   rw[fh.2 h,cond_false]
   obtain⟨u,v,e⟩:=GC n q (bP (bk p q)) hq (bW _)
   obtain⟨g1,g2⟩:=fZ p hq di
   refine⟨a6 (1/bX (bk p q)) v,cY u (a6 (-(1/bX (bk p q))) (mulL v (cX p q).1)),fun x => ?_⟩
   have h2:evalL (cX p q).1 x*evalL q x+evalL (bk p q) x=evalL p x:=g2 x
   rw[e x,iF,bD,aU,aU,aE,←h2]
   grind
theorem JL:∀(n:Nat) (p q:List Rat),aK p=false→aK q=false→q.length<n→Dv (gB n p q) p∧Dv (gB n p q) q
 |0,p,q,_,_,h=>by omega
 |n+1,p,q,hp,hq,hn=>by
  rw[gB]
  by_cases h:q.length=0
  ·rw[beq_iff.2 h,cond_true,List.eq_nil_of_length_eq_zero h]
   exact⟨Dv.refl p,[],fun x=>by show(0:Rat)=0*_;rw[Rat.zero_mul]⟩
  ·have di:q≠[]:=fun e=>h (by rw[e];rfl)
   rw[fh.2 h,cond_false]
   obtain⟨g1,g2⟩:=fZ p hq di
   obtain⟨d1,d2⟩:=JL n q (bP (bk p q)) hq (bW _) (by rw[bL (cL _ _)];unfold bk;omega)
   have d3:=d2.trans (B0 (cL p q))
   refine⟨?_,d1⟩
   obtain⟨a,ha⟩:=d1
   obtain⟨b,hb⟩:=d3
   refine⟨cY (mulL (cX p q).1 a) b,fun x => ?_⟩
   have h2:evalL (cX p q).1 x*evalL q x+evalL (bk p q) x=evalL p x:=g2 x
   rw[←h2,bD,aE,hb x]
   have:=ha x
   rw[this];grind
theorem tJ(p q:List Rat)(hp:aK p=false)(hq:aK q=false):∃u v,∀x,evalL (bE p q) x=evalL u x*evalL p x+evalL v x*evalL q x:=by
 obtain⟨u,v,e⟩:=GC (q.length+1) p q hp hq
 unfold bE
 refine⟨a6 (1/bX (gB (q.length+1) p q)) u,a6 (1/bX (gB (q.length+1) p q)) v,fun x => ?_⟩
 rw[iF,aU,aU,e x];grind
theorem gT(p q:List Rat)(hp:aK p=false)(hq:aK q=false):Dv (bE p q) p∧Dv (bE p q) q:=by
 obtain⟨h1,h2⟩:=JL (q.length+1) p q hp hq (Nat.lt_succ_self _)
 have h3:=B0 (ke (q.length+1) p q hp hq)
 exact⟨h3.trans h1,h3.trans h2⟩
theorem DN{p:List Rat}(hz:aK p=false)(h:p.length=1):bP p=[1]:=by
 have di:p≠[]:=by intro e;rw[e] at h;cases h
 match p,h with
 |[a],_ =>
  have ha:a≠0:=cE hz di
  rw[mU hz di]
  show[1/a*a]=[1]
  rw[Rat.div_mul_cancel ha]
theorem vQ{p q:List Rat}(hp:aK p=false)(hq:aK q=false)(h:(bE p q).length=1):oq p q:=by
 have e:bE p q=[1]:=by
  have h1:=qt (ke (q.length+1) p q hp hq)
  have h2:=DN (eu p q) h
  unfold bE at h2 ⊢
  rw[←h1,h2]
 obtain⟨u,v,b⟩:=tJ p q hp hq
 refine⟨u,v,fun x => ?_⟩
 rw[←b x,e,dL]
theorem Iz{p q:List Rat}(hp:aK p=false)(hq:aK q=false)(h:oq p q):bE p q=[1]:=by
 obtain⟨d1,d2⟩:=gT p q hp hq
 obtain⟨u,v,e⟩:=h
 obtain⟨a,ha⟩:=d1
 obtain⟨b,hb⟩:=d2
 have hd:Dv (bE p q) [1]:=⟨cY (mulL u a) (mulL v b),fun x=>by
  have:=e x
  rw[ha,hb] at this
  rw[dL,bD,aE,aE];grind⟩
 obtain⟨g1,g2⟩:=hd.len (eu p q) (by rfl) (by simp)
 have hl:=List.length_pos_iff.2 g1
 have g2:(bE p q).length≤1:=g2
 have h1:=qt (ke (q.length+1) p q hp hq)
 have h2:=DN (eu p q) (by omega)
 unfold bE at h2 ⊢
 rw[←h1,h2]
def dEv(p:List Rat)(x:Rat):Rat:=evalL (gz 1 (p.drop 1)) x
theorem ck(p:List Rat)(x:Rat):evalL (ak p) x=dEv p x:=CR p x
theorem DO(x:Rat):∀(q:List Rat) (i:Nat),evalL (gz (i+1) q) x=evalL (gz i q) x+evalL q x
 |[],_=>by show(0:Rat)=0+0;grind
 |a::r,i=>by
  rw[gz,gz,evalL,evalL,evalL,DO x r (i+1)]
  have:(((i+1:Nat):Int):Rat)=((i:Int):Rat)+1:=by simp
  rw[this];grind
theorem mj(a:Rat)(p:List Rat)(x:Rat):dEv (a::p) x=evalL p x+x*dEv p x:=by
 show evalL (gz 1 p) x=_
 rw[DO x p 0]
 have:evalL (gz 0 p) x=x*dEv p x:=by
  cases p with
  |nil=>show(0:Rat)=x*0;rw[Rat.mul_zero]
  |cons b r =>
   show evalL (gz 1 r) x*x+((0:Nat):Int)*b=x*evalL (gz 1 r) x
   have:(((0:Nat):Int):Rat)=0:=rfl
   rw[this];grind
 rw[this];grind
theorem ES(x:Rat):dEv [] x=0:=rfl
theorem JM(x:Rat):∀p q:List Rat,dEv (cY p q) x=dEv p x+dEv q x
 |[],q=>by rw[cY,ES,Rat.zero_add]
 |a::p,[]=>by rw[cY,ES,Rat.add_zero]
 |a::p,b::q=>by rw[cY,mj,mj,mj,bD,JM x p q];grind
theorem B2(c x:Rat):∀p:List Rat,dEv (a6 c p) x=c*dEv p x
 |[]=>by show(0:Rat)=c*0;rw[Rat.mul_zero]
 |a::p=>by
  show dEv (c*a::a6 c p) x=_
  rw[mj,mj,aU,B2 c x p];grind
theorem qu(x:Rat)(q:List Rat):∀p:List Rat,dEv (mulL p q) x=dEv p x*evalL q x+evalL p x*dEv q x
 |[]=>by rw[mulL,ES];show(0:Rat)=0*_+0*_;grind
 |a::p=>by
  rw[mulL,JM,B2,mj,mj,aE,qu x q p,evalL];grind
theorem mV{p q:List Rat}(h:∀x,evalL p x=evalL q x)(x:Rat):dEv p x=dEv q x:=by
 rw[←ck,←ck]
 have:ak p=ak q:=by
  rw[←vb p,←vb q,GA h]
 rw[this]
theorem JN(t:List Rat)(x:Rat):∀k,evalL t x*dEv (gS t k) x=((k:Int):Rat)*(evalL (gS t k) x*dEv t x)
 |0=>by
  have:dEv (gS t 0) x=0:=rfl
  rw[this]
  have:(((0:Nat):Int):Rat)=0:=rfl
  rw[this];grind
 |k+1=>by
  have ih:=JN t x k
  have:(((k+1:Nat):Int):Rat)=((k:Int):Rat)+1:=by simp
  rw[gS,qu,aE,this]
  grind
theorem As{t:List Rat}(ht:aL t≠[])(k:Nat):aL (gS t k)≠[]:=by
 induction k with
 |zero=>rw[gS];decide
 |succ k ih =>
  intro e
  have h1:=iT _ _ ih ht
  have h2:=fY (p:=mulL (aL (gS t k)) (aL t)) (q:=[]) (fun x=>by
   rw[aE,bN,bN,←aE]
   show evalL (gS t (k+1)) x=_
   rw[←bN,e])
  rw[h2] at h1
  rcases Rat.mul_eq_zero.1 h1.symm with e|e
  ·exact cE (bh _) ih e
  ·exact cE (bh _) ht e
theorem M5{t:List Rat}(hz:aK t=false)(h:2≤t.length)(k:Nat):k+1≤(aL (gS t k)).length:=by
 have di:t≠[]:=by intro e;rw[e] at h;simp at h
 have Xg:=kE hz
 induction k with
 |zero=>have:=List.length_pos_iff.2 (As (t:=t) (by rw[Xg];exact di) 0);omega
 |succ k ih =>
  have h1:=iT _ t (As (t:=t) (by rw[Xg];exact di) k) di
  have h2:coef (aL (gS t (k+1))) ((aL (gS t k)).length+t.length-2)≠0:=by
   rw[dC]
   have:=fY (p:=gS t (k+1)) (q:=mulL (aL (gS t k)) t) (fun x=>by rw[gS,aE,aE,bN])
   rw[this,h1]
   intro e
   rcases Rat.mul_eq_zero.1 e with e|e
   ·exact cE (bh _) (As (t:=t) (by rw[Xg];exact di) k) e
   ·exact cE hz di e
  have:=tI h2
  omega
theorem jQ{p:List Rat}(h:p≠[]):(ak p).length<p.length:=by
 have h1:=gH (gz 1 (p.drop 1))
 rw[nH,List.length_drop] at h1
 have:=List.length_pos_iff.2 h
 have h2:(ak p).length≤p.length-1:=h1
 omega
structure Sq (p g f w:List Rat):Prop where
 pe:∀x,evalL p x=evalL f x*evalL g x
 de:∀x,dEv p x=evalL w x*evalL g x
 g0:aL g≠[]
 zg:aK g=false
 zf:aK f=false
 f0:f≠[]
 Au:oq f w
theorem Sq.rel{p g f w:List Rat}(s:Sq p g f w)(x:Rat):evalL f x*dEv g x=evalL g x*(evalL w x-dEv f x):=by
 have h1:=mV (q:=mulL f g) (fun x=>by rw[s.pe,aE]) x
 rw[qu,s.de] at h1
 grind
theorem Ug{p:List Rat}(hz:aK p=false)(h0:p≠[]):∃w,Sq p (bE p (ak p)) (cX p (bE p (ak p))).1 w:=by
 have Ak:=Ar (ak p) hz (bj p) h0
 have Xh:=eu p (ak p)
 obtain⟨d1,d2⟩:=gT p (ak p) hz (bj p)
 obtain⟨u,hu⟩:=d1
 obtain⟨w,hw⟩:=d2
 have hdiv:=xb (p:=p) (q:=bE p (ak p)) (a:=aL u) (r:=[]) Xh Ak (bh u) rfl (List.length_pos_iff.2 Ak) (fun x=>by
  rw[bN,hu x];show _+(0:Rat)=_;rw[Rat.add_zero])
 have e1:(cX p (bE p (ak p))).1=aL u:=by rw[hdiv]
 have YS:aL (bE p (ak p))≠[]:=by rw[kE Xh];exact Ak
 refine⟨w,⟨fun x=>by rw[e1,bN,hu x],fun x=>by rw[←ck,hw x],YS,Xh,(kd _ _).1,?_,?_⟩⟩
 ·rw[e1]
  intro e
  have:∀i,coef p i=coef [] i:=fY (fun x=>by rw[hu,←bN x u,e];show(0:Rat)*_=0;rw[Rat.zero_mul])
  exact h0 (kG hz rfl this)
 ·obtain⟨a,b,hb⟩:=tJ p (ak p) hz (bj p)
  refine⟨a,b,?_⟩
  have:=JK (t:=bE p (ak p)) (a:=cY (mulL a (cX p (bE p (ak p))).1) (mulL b w)) (b:=[1]) YS (fun x=>by
   have h1:=hb x
   rw[dL,bD,aE,aE,e1,bN]
   have h2:=hu x
   have h3:=hw x
   rw[h2,h3] at h1
   grind)
  intro x
  have h:=this x
  rw[bD,aE,aE,dL] at h
  exact h
theorem Sq.JO{p g f w t:List Rat}(s:Sq p g f w)(ht:aL t≠[])(h1:Dv t f)(h2:∃v,∀x,dEv f x=evalL v x*evalL t x):∀k,∃r,∀x,evalL g x=evalL (gS t k) x*evalL r x
 |0=>⟨g,fun x=>by rw[gS,dL,Rat.one_mul]⟩
 |k+1=>by
  obtain⟨r,hr⟩:=s.JO ht h1 h2 k
  obtain⟨f1,Xi⟩:=h1
  obtain⟨v,hv⟩:=h2
  have key:∀x,evalL f1 x*(((k:Int):Rat)*dEv t x*evalL r x+evalL t x*dEv r x)=evalL r x*(evalL w x-dEv f x):=by
   have:=JK (t:=gS t k) (a:=mulL f1 (cY (a6 ((k:Int):Rat) (mulL (ak t) r)) (mulL t (ak r)))) (b:=mulL r (cY w (a6 (-1) (ak f)))) (As ht k) (fun x=>by
    rw[aE,aE,bD,bD,aU,aU,aE,aE,ck,ck,ck]
    have g1:=s.rel x
    have g2:=mV (q:=mulL (gS t k) r) (fun x=>by rw[hr,aE]) x
    rw[qu] at g2
    have g3:=JN t x k
    have g4:=hr x
    have g5:=Xi x
    rw[g4,g2,g5] at g1
    have:evalL f1 x*evalL t x*(dEv (gS t k) x*evalL r x+evalL (gS t k) x*dEv r x)=evalL f1 x*((evalL t x*dEv (gS t k) x)*evalL r x+evalL t x*evalL (gS t k) x*dEv r x):=by grind
    rw[this,g3] at g1
    grind)
   intro x
   have h:=this x
   rw[aE,aE,bD,bD,aU,aU,aE,aE,ck,ck,ck] at h
   grind
  have hd:Dv t (mulL w r):=by
   have h3:=fun x=>mV (q:=mulL f1 t) (fun x=>by rw[Xi,aE]) x
   refine⟨cY (cY (a6 ((k:Int):Rat) (mulL r (cY v (a6 (-1) (ak f1))))) (mulL f1 (ak r))) (mulL r v),fun x => ?_⟩
   have k1:=key x
   have k2:=h3 x
   rw[qu,hv] at k2
   have k3:=hv x
   rw[aE,bD,bD,aU,aE,bD,aU,aE,aE,ck,ck]
   have k4:evalL f1 x*dEv t x=(evalL v x-dEv f1 x)*evalL t x:=by grind
   have k5:evalL f1 x*(((k:Int):Rat)*dEv t x*evalL r x)=((k:Int):Rat)*((evalL v x-dEv f1 x)*evalL t x)*evalL r x:=by rw[←k4];grind
   have k6:evalL w x*evalL r x=evalL f1 x*(((k:Int):Rat)*dEv t x*evalL r x)+evalL f1 x*(evalL t x*dEv r x)+evalL r x*dEv f x:=by grind
   rw[k6,k5,k3];grind
  obtain⟨r1,xv⟩:=(s.Au.Qg ⟨f1,Xi⟩).dv hd
  exact⟨r1,fun x=>by rw[hr,xv,gS,aE];grind⟩
theorem Sq.free{p g f w:List Rat}(s:Sq p g f w):oq f (ak f):=by
 refine vQ s.zf (bj f) ?_
 have di:=Ar (ak f) s.zf (bj f) s.f0
 have hl:=List.length_pos_iff.2 di
 refine Classical.byContradiction fun h => ?_
 have h2:2≤(bE f (ak f)).length:=by omega
 have hz:=eu f (ak f)
 obtain⟨d1,d2⟩:=gT f (ak f) s.zf (bj f)
 obtain⟨v,hv⟩:=d2
 obtain⟨r,hr⟩:=s.JO (t:=bE f (ak f)) (by rw[kE hz];exact di) d1 ⟨v,fun x=>by rw[←ck,hv]⟩ g.length
 have M6:Dv (aL (gS (bE f (ak f)) g.length)) g:=⟨r,fun x=>by rw[bN,hr];grind⟩
 have hg:g≠[]:=by intro e;exact s.g0 (by rw[e];rfl)
 have:=(M6.len (bh _) s.zg hg).2
 have:=M5 hz h2 g.length
 omega
theorem Sq.GD{p g f w:List Rat}(s:Sq p g f w):∀(n i:Nat) (e r:List Rat),r.length≤n→aK r=false→(∀x,evalL g x=evalL e x*evalL r x)→Dv e (gS f i)→Dv g (gS f (i+n))
 |n,i,e,r,hl,hz,hg,hd=>by
  have up:∀m,Dv e (gS f (i+m)):=by
   intro m
   induction m with
   |zero=>exact hd
   |succ m ih =>
    obtain⟨u,hu⟩:=ih
    exact⟨mulL u f,fun x=>by show evalL (mulL (gS f (i+m)) f) x=_;rw[aE,hu,aE];grind⟩
  have C3:r≠[]:=by
   intro e'
   have:∀i,coef g i=coef [] i:=fY (fun x=>by rw[hg,e'];show _*(0:Rat)=0;rw[Rat.mul_zero])
   exact s.g0 (by rw[kE s.zg];exact kG s.zg rfl this)
  have JP:=List.length_pos_iff.2 C3
  by_cases h1:r.length=1
  ·match r,h1 with
   |[c],_ =>
    have hc:c≠0:=cE hz C3
    obtain⟨u,hu⟩:=up n
    refine⟨a6 (1/c) u,fun x => ?_⟩
    have h2:=hg x
    rw[dL] at h2
    have h3:=Rat.div_mul_cancel (a:=1) hc
    rw[hu,aU,h2];grind
  ·obtain⟨m,rfl⟩:∃m,n=m+1:=⟨n-1,by omega⟩
   have Qh:=Ar f hz s.zf C3
   have htz:=eu r f
   have xw:=List.length_pos_iff.2 Qh
   obtain⟨d1,d2⟩:=gT r f hz s.zf
   have h2:2≤(bE r f).length:=by
    refine Classical.byContradiction fun ba => ?_
    have hc:=vQ hz s.zf (by omega:(bE r f).length=1)
    have hce:oq r e:=((hc.pow i).symm.Qg hd).symm
    have uE:Dv r (mulL (mulL f e) (ak r)):=by
     refine⟨cY (mulL e (cY w (a6 (-1) (ak f)))) (a6 (-1) (mulL f (ak e))),fun x => ?_⟩
     have g1:=s.rel x
     have g2:=mV (q:=mulL e r) (fun x=>by rw[hg,aE]) x
     rw[qu] at g2
     rw[g2,hg] at g1
     rw[aE,aE,bD,aE,bD,aU,aU,aE,ck,ck,ck]
     grind
    have OK:=(hc.mul hce).dv uE
    by_cases hd0:ak r=[]
    ·
     have key:∀i,coef (gz 1 (r.drop 1)) i=0:=by
      intro i
      have:=dC (gz 1 (r.drop 1)) i
      have e2:aL (gz 1 (r.drop 1))=[]:=hd0
      rw[e2,kF] at this
      exact this.symm
     have Cx:∀(q:List Rat) (i j:Nat),coef (gz i q) j=((i+j:Nat):Int)*coef q j:=by
      intro q
      induction q with
      |nil=>intro i j;show(0:Rat)=_*0;rw[Rat.mul_zero]
      |cons a q ih =>
       intro i j
       cases j with
       |zero=>rfl
       |succ j=>rw[gz,fe,fe,ih (i+1) j,show i+1+j=i+(j+1) from by omega]
     have hk:=key (r.length-2)
     rw[Cx] at hk
     have xG:coef (r.drop 1) (r.length-2)=bX r:=by
      unfold bX
      rw[show r.length-1=(r.length-2)+1 from by omega]
      cases r with
      |nil=>rfl
      |cons a q=>rfl
     rw[xG] at hk
     rcases Rat.mul_eq_zero.1 hk with h|h
     ·have:=Rat.intCast_inj.1 (show (((1+(r.length-2):Nat):Int):Rat)=((0:Int):Rat) from h)
      omega
     ·exact cE hz C3 h
    ·have:=(OK.len hz (bj r) hd0).2
     have h3:=gH (gz 1 (r.drop 1))
     rw[nH,List.length_drop] at h3
     have h4:(ak r).length≤r.length-1:=h3
     omega
   obtain⟨r1,xv⟩:=d1
   have Gi:=bh r1
   have yI:(aL r1).length≤m:=by
    have tV:Dv (aL r1) r:=⟨bE r f,fun x=>by rw[bN,xv];grind⟩
    have M7:=(tV.len Gi hz C3).1
    have h5:=iT _ _ M7 Qh
    have h6:=fY (p:=mulL (aL r1) (bE r f)) (q:=r) (fun x=>by rw[aE,bN,xv])
    rw[h6] at h5
    have h7:coef r ((aL r1).length+(bE r f).length-2)≠0:=by
     rw[h5]
     intro e'
     rcases Rat.mul_eq_zero.1 e' with e'|e'
     ·exact cE Gi M7 e'
     ·exact cE htz Qh e'
    have:=tI h7
    have:=List.length_pos_iff.2 M7
    omega
   have:=s.GD m (i+1) (mulL e (bE r f)) (aL r1) yI Gi (fun x=>by rw[hg,xv,aE,bN];grind) (by
    obtain⟨u,hu⟩:=hd
    obtain⟨v,hv⟩:=d2
    refine⟨mulL u v,fun x => ?_⟩
    show evalL (mulL (gS f i) f) x=_
    rw[aE,aE,aE,hu,hv];grind)
   rwa[show i+1+m=i+(m+1) from by omega] at this
 termination_by n=>n
theorem Sq.all{p g f w:List Rat}(s:Sq p g f w):Dv p (gS f (g.length+1)):=by
 obtain⟨u,hu⟩:=s.GD g.length 0 [1] g (Nat.le_refl _) s.zg (fun x=>by rw[dL,Rat.one_mul]) ⟨[1],fun x=>by rw[gS,dL,Rat.one_mul]⟩
 rw[Nat.zero_add] at hu
 refine⟨u,fun x => ?_⟩
 rw[gS,aE,hu,s.pe];grind
def ab(x:Rat):Rat:=if 0≤x then x else -x
theorem bb(x:Rat):(0≤x∧ab x=x)∨(x<0∧ab x = -x):=by
 unfold ab
 by_cases h:0≤x
 ·rw[if_pos h];exact Or.inl ⟨h,rfl⟩
 ·rw[if_neg h];exact Or.inr ⟨by grind,rfl⟩
theorem bn(x:Rat):0≤ab x:=by rcases bb x with h|h<;>grind
theorem vR{x:Rat}(h:x≠0):0<ab x:=by rcases bb x with h|h<;>grind
theorem GF{x c:Rat}(h1:x≤c)(h2 : -x≤c):ab x≤c:=by rcases bb x with h|h<;>grind
theorem lF(x:Rat):x≤ab x:=by rcases bb x with h|h<;>grind
theorem dO(x:Rat) : -x≤ab x:=by rcases bb x with h|h<;>grind
theorem ET(x:Rat):ab (-x)=ab x:=by rcases bb x with h|h<;>rcases bb (-x) with k|k<;>grind
theorem ml(x y:Rat):ab (x+y)≤ab x+ab y:=by
 have h1:=lF x
 have h2:=dO x
 have h3:=lF y
 have h4:=dO y
 exact GF (by grind) (by grind)
theorem fS(x y:Rat):ab (x*y)=ab x*ab y:=by
 rcases bb x with ⟨h1,e1⟩|⟨h1,e1⟩<;>rcases bb y with ⟨h2,e2⟩|⟨h2,e2⟩<;>rw[e1,e2]
 ·have:=Rat.mul_nonneg h1 h2
  rcases bb (x*y) with h|h<;>grind
 ·have:=Rat.mul_nonneg h1 (show 0 ≤ -y by grind)
  rcases bb (x*y) with h|h<;>grind
 ·have:=Rat.mul_nonneg (show 0 ≤ -x by grind) h2
  rcases bb (x*y) with h|h<;>grind
 ·have:=Rat.mul_nonneg (show 0 ≤ -x by grind) (show 0 ≤ -y by grind)
  rcases bb (x*y) with h|h<;>grind
theorem ot:ab 0=0:=rfl
theorem cG{a b c d:Rat}(h1:a≤b)(h2:c≤d)(h3:0≤a)(h4:0≤d):a*c≤b*d :=
 Rat.le_trans (Rat.mul_le_mul_of_nonneg_left h2 h3) (Rat.mul_le_mul_of_nonneg_right h1 h4)
def nrm:List Rat→Rat→Rat
 |[],_=>0
 |a::r,R=>nrm r R*R+ab a
def lip:List Rat→Rat→Rat
 |[],_=>0
 |_::r,R=>lip r R*R+nrm r R
def sec:List Rat→Rat→Rat
 |[],_=>0
 |_::r,R=>sec r R*R+lip r R
theorem jR{R:Rat}(hR:0≤R):∀p,0≤nrm p R
 |[]=>Rat.le_refl
 |a::r=>by
  have h1:=Rat.mul_nonneg (jR hR r) hR
  have h2:=bn a
  rw[nrm];grind
theorem cW{R:Rat}(hR:0≤R):∀p,0≤lip p R
 |[]=>Rat.le_refl
 |a::r=>by
  have h1:=Rat.mul_nonneg (cW hR r) hR
  have h2:=jR hR r
  rw[lip];grind
theorem mW{R:Rat}(hR:0≤R):∀p,0≤sec p R
 |[]=>Rat.le_refl
 |a::r=>by
  have h1:=Rat.mul_nonneg (mW hR r) hR
  have h2:=cW hR r
  rw[sec];grind
theorem kP{R x:Rat}(hx:ab x≤R):∀p,ab (evalL p x)≤nrm p R
 |[]=>Rat.le_refl
 |a::r=>by
  have h1:=kP hx r
  have h2:=ml (evalL r x*x) a
  rw[fS] at h2
  have h3:=cG h1 hx (bn _) (Rat.le_trans (bn x) hx)
  rw[evalL,nrm];grind
theorem qv{R x y:Rat}(hx:ab x≤R)(hy:ab y≤R):∀p,ab (evalL p x-evalL p y)≤lip p R*ab (x-y)
 |[]=>by
  show ab (0-0)≤0*_
  rw[show (0:Rat)-0=0 from by grind,ot,Rat.zero_mul];exact Rat.le_refl
 |a::r=>by
  have h0:=Rat.le_trans (bn x) hx
  have h1:=qv hx hy r
  have h2:=kP hy r
  have e:evalL (a::r) x-evalL (a::r) y=(evalL r x-evalL r y)*x+evalL r y*(x-y):=by rw[evalL,evalL];grind
  rw[e]
  have h3:=ml ((evalL r x-evalL r y)*x) (evalL r y*(x-y))
  rw[fS,fS] at h3
  have h4:=cG h1 hx (bn _) h0
  have h5:=Rat.mul_le_mul_of_nonneg_right h2 (bn (x-y))
  rw[lip];grind
theorem M8{R x:Rat}(hx:ab x≤R):∀p,ab (dEv p x)≤lip p R
 |[]=>Rat.le_refl
 |a::r=>by
  have h1:=M8 hx r
  have h2:=kP hx r
  have h3:=ml (evalL r x) (x*dEv r x)
  rw[fS] at h3
  have h4:=cG hx h1 (bn _) (cW (Rat.le_trans (bn x) hx) r)
  rw[mj,lip];grind
def JQ(x y:Rat):List Rat→Rat
 |[]=>0
 |_::r=>dEv r x+y*JQ x y r
theorem IA(x y:Rat):∀p,evalL p y=evalL p x+(y-x)*dEv p x+(y-x)*(y-x)*JQ x y p
 |[]=>by show(0:Rat)=0+(y-x)*0+(y-x)*(y-x)*0;grind
 |a::r=>by
  have:=IA x y r
  rw[evalL,evalL,mj,JQ,this];grind
theorem IB{R x y:Rat}(hx:ab x≤R)(hy:ab y≤R):∀p,ab (JQ x y p)≤sec p R
 |[]=>Rat.le_refl
 |a::r=>by
  have h0:=Rat.le_trans (bn x) hx
  have h1:=IB hx hy r
  have h2:=M8 hx r
  have h3:=ml (dEv r x) (y*JQ x y r)
  rw[fS] at h3
  have h4:=cG hy h1 (bn _) (mW h0 r)
  rw[JQ,sec];grind
def sg(x:Rat):Int:=eh x 0
theorem bF(x:Rat):(x<0∧sg x = -1)∨(x=0∧sg x=0)∨(0<x∧sg x=1):=by
 unfold sg eh
 by_cases h:x<0
 ·rw[if_pos h];exact Or.inl ⟨h,rfl⟩
 ·rw[if_neg h]
  by_cases h2:x=0
  ·rw[if_pos h2];exact Or.inr (Or.inl ⟨h2,rfl⟩)
  ·rw[if_neg h2];exact Or.inr (Or.inr ⟨by grind,rfl⟩)
def varS:Int→List Int→Int
 |_,[]=>0
 |l,s::r=>if s=0 then varS l r else (if s = -l then 1 else 0)+varS s r
def fG(G:List (List Rat))(x:Rat):Int:=varS 0 (G.map (fun g=>sg (evalL g x)))
inductive Pe:Int→List (Int×Int)→Prop
 |nil (s:Int):Pe s []
 |same {s t:Int} {l:List (Int×Int)} (ht:t=1∨t = -1) (h:Pe t l):Pe s ((t,t)::l)
 |kt {s a b:Int} {l:List (Int×Int)} (hs:s=1∨s = -1) (ha:a=0∨a=1∨a = -1) (hb:b=0∨b=1∨b = -1) (h:Pe (-s) l):Pe s ((a,b)::(-s, -s)::l)
theorem JR{s a:Int}(hs:s=1∨s = -1)(ha:a=0∨a=1∨a = -1)(l:List Int):varS s (a :: -s::l)=1+varS (-s) l:=by
 rcases hs with rfl|rfl<;>rcases ha with rfl|rfl|rfl<;>simp[varS]
theorem Pe.eq{s:Int}{l:List (Int×Int)}(h:Pe s l):varS s (l.map Prod.fst)=varS s (l.map Prod.snd):=by
 induction h with
 |nil s=>rfl
 |same ht h ih =>
  rw[List.map_cons,List.map_cons]
  rcases ht with rfl|rfl<;>simp[varS,ih]
 |kt hs ha hb h ih =>
  rw[List.map_cons,List.map_cons,List.map_cons,List.map_cons,JR hs ha,JR hs hb,ih]
def GG(Q κ x:Rat):List (List Rat)→Prop
 |[]=>False
 |[g]=>κ≤ab (evalL g x)
 |[g,h]=>κ≤ab (evalL h x)
 |g::h::k::r=>ab (evalL g x+evalL k x)≤Q*ab (evalL h x)∧GG Q κ x (h::k::r)
theorem GG.max{Q κ x η:Rat}(hQ:0≤Q)(hη:0<η):∀(r:List (List Rat)) (g h:List Rat) (N:Nat),GG Q κ x (g::h::r)→r.length≤N→(Q+1)^N*η≤κ→η≤ab (evalL g x)∨η≤ab (evalL h x)
 |[],g,h,N,hl,hN,hk=>by
  have hl:κ≤ab (evalL h x):=hl
  right
  have key:∀n:Nat,1≤(Q+1)^n:=by
   intro n
   induction n with
   |zero=>rw[Rat.pow_zero];exact Rat.le_refl
   |succ n ih =>
    rw[Rat.pow_succ]
    have:=Rat.mul_nonneg (show 0≤(Q+1)^n by grind) hQ
    grind
  have:=Rat.mul_le_mul_of_nonneg_right (key N) (Rat.le_of_lt hη)
  grind
 |k::r,g,h,N,hl,hN,hk=>by
  obtain⟨N,rfl⟩:∃m,N=m+1:=⟨N-1,by rw[List.length_cons] at hN;omega⟩
  have hl:ab (evalL g x+evalL k x)≤Q*ab (evalL h x)∧GG Q κ x (h::k::r):=hl
  obtain⟨h1,h2⟩:=hl
  have Xj:0<(Q+1)*η:=Rat.mul_pos (by grind) hη
  rcases GG.max hQ Xj r h k N h2 (by rw[List.length_cons] at hN;omega) (by rw[Rat.pow_succ] at hk;grind) with e|e
  ·right
   have:=Rat.mul_nonneg hQ (Rat.le_of_lt hη)
   grind
  ·by_cases hh:η≤ab (evalL h x)
   ·exact Or.inr hh
   ·left
    have h3:=ml (evalL g x+evalL k x) (-(evalL g x))
    rw[ET,show evalL g x+evalL k x + -(evalL g x)=evalL k x from by grind] at h3
    have h4:=Rat.mul_le_mul_of_nonneg_left (show ab (evalL h x)≤η by grind) hQ
    grind
def Qi(ε u v:Rat)(g:List Rat)(s:Int):Prop:=∀x,u≤x→x≤v→sg (evalL g x)=s∧ε≤ab (evalL g x)
def Small(ε u v:Rat)(g:List Rat):Prop:=∀x,u≤x→x≤v→ab (evalL g x)<2*ε
theorem aY{x u v R:Rat}(h1:u≤x)(h2:x≤v)(hu:ab u≤R)(hv:ab v≤R):ab x≤R:=by
 have a:=dO u
 have b:=lF v
 exact GF (by grind) (by grind)
theorem mm{R L ε u v:Rat}(g:List Rat)(hu:ab u≤R)(hv:ab v≤R)(mw:u≤v)(hL:lip g R≤L)(hε:0<ε)(hd:L*(v-u)≤ε):(∃s,(s=1∨s = -1)∧Qi ε u v g s)∨Small ε u v g:=by
 have var:∀x y,u≤x→x≤v→u≤y→y≤v→ab (evalL g x-evalL g y)≤ε:=by
  intro x y h1 h2 h3 h4
  have d:=qv (aY h1 h2 hu hv) (aY h3 h4 hu hv) g
  have hR:=Rat.le_trans (bn u) hu
  have CS:ab (x-y)≤v-u:=GF (by grind) (by grind)
  have:=cG hL CS (cW hR g) (by grind)
  grind
 by_cases hs:∃x,u≤x∧x≤v∧ab (evalL g x)<ε
 ·right
  obtain⟨x,h1,h2,h3⟩:=hs
  intro y h4 h5
  have:=var y x h4 h5 h1 h2
  have:=ml (evalL g y-evalL g x) (evalL g x)
  rw[show evalL g y-evalL g x+evalL g x=evalL g y from by grind] at this
  grind
 ·left
  have hb:∀x,u≤x→x≤v→ε≤ab (evalL g x):=fun x h1 h2=>by
   refine Rat.not_lt.1 fun h=>hs ⟨x,h1,h2,h⟩
  have h0:=hb u Rat.le_refl mw
  rcases bF (evalL g u) with ⟨k1,k2⟩|⟨k1,k2⟩|⟨k1,k2⟩
  ·refine⟨-1,Or.inr rfl,fun x h1 h2=>⟨?_,hb x h1 h2⟩⟩
   have v1:=var x u h1 h2 Rat.le_refl mw
   have v2:=hb x h1 h2
   have v3:=lF (evalL g x-evalL g u)
   rcases bb (evalL g u) with c|c
   ·grind
   ·rcases bF (evalL g x) with ⟨m1,m2⟩|⟨m1,m2⟩|⟨m1,m2⟩
    ·exact m2
    ·rw[m1,ot] at v2;grind
    ·rcases bb (evalL g x) with c2|c2<;>grind
  ·rw[k1,ot] at h0;grind
  ·refine⟨1,Or.inl rfl,fun x h1 h2=>⟨?_,hb x h1 h2⟩⟩
   have v1:=var u x Rat.le_refl mw h1 h2
   have v2:=hb x h1 h2
   have v3:=lF (evalL g u-evalL g x)
   rcases bb (evalL g u) with c|c
   ·rcases bF (evalL g x) with ⟨m1,m2⟩|⟨m1,m2⟩|⟨m1,m2⟩
    ·rcases bb (evalL g x) with c2|c2<;>grind
    ·rw[m1,ot] at v2;grind
    ·exact m2
   ·grind
theorem jS(x:Rat):sg x=0∨sg x=1∨sg x = -1:=by rcases bF x with h|h|h<;>simp[h.2]
theorem R1{a b η:Rat}{s:Int}(ha:η≤ab a)(hs:sg a=s)(h:ab (a+b)<η):sg b = -s:=by
 have h1:=lF (a+b)
 have h2:=dO (a+b)
 rcases bF a with ⟨k1,k2⟩|⟨k1,k2⟩|⟨k1,k2⟩<;>rcases bF b with ⟨m1,m2⟩|⟨m1,m2⟩|⟨m1,m2⟩<;>rcases bb a with c|c<;>first|(subst hs;simp[k2,m2];done)|(exfalso;grind)
theorem EU{R L Q κ η ε u v:Rat}(hu:ab u≤R)(hv:ab v≤R)(mw:u≤v)(hQ:0≤Q)(hη:0<η)(hε:0<ε)(M9:2*ε≤η)(Na:Q*(2*ε)<η)(hd:L*(v-u)≤ε){N:Nat}(hN:(Q+1)^N*η≤κ) :
  ∀(n:Nat) (r:List (List Rat)) (g:List Rat) (s:Int),r.length≤n→n≤N→(∀h∈r,lip h R≤L)→(s=1∨s = -1)→Qi ε u v g s→(∀x,u≤x→x≤v→GG Q κ x (g::r))→Pe s (r.map (fun h=>(sg (evalL h u),sg (evalL h v))))
 |n,[],g,s,_,_,_,_,_,_ => .nil s
 |0,h::r,g,s,hn,_,_,_,_,_=>by simp at hn
 |n+1,h::r,g,s,hn,hnN,GH,hs,hg,hl=>by
  rw[List.length_cons] at hn
  have R2:∀x,u≤x→x≤v→GG Q κ x (h::r):=fun x h1 h2=>by
   have:=hl x h1 h2
   cases r with
   |nil=>exact this
   |cons k r=>exact this.2
  have Kr:∀x,u≤x→x≤v→η≤ab (evalL g x)∨η≤ab (evalL h x):=fun x h1 h2=>GG.max hQ hη r g h N (hl x h1 h2) (by omega) hN
  rw[List.map_cons]
  rcases mm h hu hv mw (GH h (List.mem_cons_self ..)) hε hd with ⟨t,ht,hb⟩|CF
  ·rw[(hb u Rat.le_refl mw).1,(hb v mw Rat.le_refl).1]
   exact .same ht (EU hu hv mw hQ hη hε M9 Na hd hN n r h t (by omega) (by omega) (fun k hk=>GH k (List.mem_cons_of_mem _ hk)) ht hb R2)
  ·cases r with
   |nil =>
    exfalso
    have h1:κ≤ab (evalL h u):=hl u Rat.le_refl mw
    have h2:=CF u Rat.le_refl mw
    have key:∀n:Nat,1≤(Q+1)^n:=by
     intro n
     induction n with
     |zero=>rw[Rat.pow_zero];exact Rat.le_refl
     |succ n ih =>
      rw[Rat.pow_succ]
      have:=Rat.mul_nonneg (show 0≤(Q+1)^n by grind) hQ
      grind
    have:=Rat.mul_le_mul_of_nonneg_right (key N) (Rat.le_of_lt hη)
    grind
   |cons k r =>
    rw[List.length_cons] at hn
    obtain⟨m,rfl⟩:∃m,n=m+1:=⟨n-1,by omega⟩
    have hk:Qi ε u v k (-s):=by
     intro x h1 h2
     obtain⟨e1,e2⟩:=hg x h1 h2
     have e3:=CF x h1 h2
     have e4:η≤ab (evalL g x):=by rcases Kr x h1 h2 with e|e;exact e;grind
     have e5:ab (evalL g x+evalL k x)≤Q*ab (evalL h x):=(hl x h1 h2).1
     have e6:=Rat.mul_le_mul_of_nonneg_left (Rat.le_of_lt e3) hQ
     have e7:η≤ab (evalL h x)∨η≤ab (evalL k x):=GG.max hQ hη r h k N (R2 x h1 h2) (by omega) hN
     refine⟨R1 e4 e1 (by grind),?_⟩
     rcases e7 with e|e<;>grind
    rw[List.map_cons,(hk u Rat.le_refl mw).1,(hk v mw Rat.le_refl).1]
    refine .kt hs (jS _) (jS _) (EU hu hv mw hQ hη hε M9 Na hd hN m r k (-s) (by omega) (by omega) (fun k' Kq=>GH k' (List.mem_cons_of_mem _ (List.mem_cons_of_mem _ Kq))) (by omega) hk ?_)
    intro x h1 h2
    have:=R2 x h1 h2
    cases r with
    |nil=>exact this
    |cons k' r=>exact this.2
def chainF:Nat→List Rat→List Rat→List (List Rat)
 |0,p,_=>[p]
 |n+1,p,d=>bif Nat.beq d.length 0 then [p] else p::chainF n d (aL (a6 (-1) (bk p d)))
def bA(p:List Rat):List (List Rat):=chainF (bH p).length (bH p) (ak (bH p))
theorem iV(n:Nat)(p:List Rat):chainF n p []=[p]:=by cases n<;>rfl
theorem fV{n:Nat}{p d:List Rat}(h:d≠[]):chainF (n+1) p d=p::chainF n d (aL (a6 (-1) (bk p d))):=by
 rw[chainF,fh.2 (fun e=>h (List.eq_nil_of_length_eq_zero e)),cond_false]
theorem tK(n:Nat)(p d:List Rat):∃r,chainF n p d=p::r:=by
 cases n with
 |zero=>exact⟨[],rfl⟩
 |succ n =>
  rw[chainF]
  cases Nat.beq d.length 0 with
  |true=>exact⟨[],rfl⟩
  |false=>exact⟨_,rfl⟩
theorem vS:∀(n:Nat) (p d:List Rat),(chainF n p d).length≤n+1
 |0,p,d=>by simp[chainF]
 |n+1,p,d=>by
  rw[chainF]
  cases Nat.beq d.length 0 with
  |true=>simp
  |false=>rw[cond_false,List.length_cons];have:=vS n d (aL (a6 (-1) (bk p d)));omega
theorem GG.mono{Q Q' κ κ' x:Rat}(hQ:Q≤Q')(hκ:κ'≤κ):∀(G:List (List Rat)),GG Q κ x G→GG Q' κ' x G
 |[],h=>h
 |[g],h=>Rat.le_trans hκ h
 |[g,k],h=>Rat.le_trans hκ h
 |g::h::k::r,hl=>⟨Rat.le_trans hl.1 (Rat.mul_le_mul_of_nonneg_right hQ (bn _)),GG.mono hQ hκ (h::k::r) hl.2⟩
theorem nj{p d:List Rat}(hd:aK d=false)(h0:d≠[])(x:Rat):evalL p x+evalL (aL (a6 (-1) (bk p d))) x=evalL (cX p d).1 x*evalL d x:=by
 have h:evalL (cX p d).1 x*evalL d x+evalL (bk p d) x=evalL p x:=(fZ p hd h0).2 x
 rw[bN,aU];grind
theorem gU{p d:List Rat}(hd:aK d=false)(h0:d≠[]):(aL (a6 (-1) (bk p d))).length<d.length:=by
 have h:=(fZ p hd h0).1
 have h1:=gH (a6 (-1) (bk p d))
 rw[jr] at h1
 have:(bk p d).length<d.length:=h
 omega
theorem B3{p d:List Rat}(hd:aK d=false)(h0:d≠[])(h:oq p d):oq d (aL (a6 (-1) (bk p d))):=by
 obtain⟨u,v,e⟩:=h
 refine⟨cY (mulL u (cX p d).1) v,a6 (-1) u,fun x => ?_⟩
 have h1:=e x
 have h2:=nj (p:=p) hd h0 x
 have h3:evalL p x=evalL (cX p d).1 x*evalL d x-evalL (aL (a6 (-1) (bk p d))) x:=by grind
 rw[bD,aE,aU]
 rw[h3] at h1
 grind
theorem B4{p d:List Rat}(hd:aK d=false)(h0:d≠[])(h:oq p d)(hr:aL (a6 (-1) (bk p d))=[]):∃c,d=[c]∧c≠0:=by
 obtain⟨u,v,e⟩:=h
 have M6:Dv d [1]:=⟨cY (mulL u (cX p d).1) v,fun x=>by
  have h1:=e x
  have h2:=nj (p:=p) hd h0 x
  rw[hr] at h2
  have h2:evalL p x+0=evalL (cX p d).1 x*evalL d x:=h2
  rw[dL,bD,aE]
  have h3:evalL p x=evalL (cX p d).1 x*evalL d x:=by grind
  rw[h3] at h1
  grind⟩
 obtain⟨g1,g2⟩:=M6.len hd rfl (by simp)
 have g2:d.length≤1:=g2
 match d,g1,g2 with
 |[c],g1,_=>exact⟨c,rfl,cE hd g1⟩
theorem B5{R:Rat}(hR:0≤R):∀(n:Nat) (p d:List Rat),aK p=false→aK d=false→d≠[]→oq p d→d.length<n+1→∃Q κ,0≤Q∧0<κ∧∀x,ab x≤R→GG Q κ x (chainF n p d)
 |0,p,d,_,_,h0,_,hl=>absurd (List.eq_nil_of_length_eq_zero (by omega)) h0
 |n+1,p,d,hp,hd,h0,hc,hl=>by
  rw[fV h0]
  by_cases hr:aL (a6 (-1) (bk p d))=[]
  ·obtain⟨c,rfl,Am⟩:=B4 hd h0 hc hr
   rw[hr,iV]
   refine⟨0,ab c,Rat.le_refl,vR Am,fun x _ => ?_⟩
   show ab c≤ab (evalL [c] x)
   rw[dL];exact Rat.le_refl
  ·have hln:=gU (p:=p) hd h0
   obtain⟨Q,κ,h1,h2,h3⟩:=B5 hR n d (aL (a6 (-1) (bk p d))) hd (bh _) hr (B3 hd h0 hc) (by omega)
   have hn:=jR hR (cX p d).1
   refine⟨Q+nrm (cX p d).1 R,κ,by grind,h2,fun x hx => ?_⟩
   have h4:=(h3 x hx).mono (show Q≤Q+nrm (cX p d).1 R by grind) (Rat.le_refl (a:=κ))
   obtain⟨m,rfl⟩:∃m,n=m+1:=⟨n-1,by
    have:=List.length_pos_iff.2 hr
    omega⟩
   rw[fV hr] at h4 ⊢
   obtain⟨r,e⟩:=tK m (aL (a6 (-1) (bk p d))) (aL (a6 (-1) (bk d (aL (a6 (-1) (bk p d))))))
   rw[e] at h4 ⊢
   refine⟨?_,h4⟩
   rw[nj hd h0,fS]
   have h5:=kP hx (cX p d).1
   exact Rat.mul_le_mul_of_nonneg_right (by grind) (bn _)
def lipA(R:Rat):List (List Rat)→Rat
 |[]=>0
 |g::r=>lip g R+lipA R r
theorem tL{R:Rat}(hR:0≤R):∀G,0≤lipA R G
 |[]=>Rat.le_refl
 |g::r=>by
  have h1:=cW hR g
  have h2:=tL hR r
  rw[lipA];grind
theorem Nb{R:Rat}(hR:0≤R):∀(G:List (List Rat)) (g:List Rat),g∈G→lip g R≤lipA R G
 |[],g,h=>by cases h
 |a::r,g,h=>by
  have h1:=cW hR a
  have h2:=tL hR r
  rw[lipA]
  rcases List.mem_cons.1 h with e|h
  ·rw[e];grind
  ·have:=Nb hR r g h
   grind
def Loc(f:List Rat)(G:List (List Rat))(ε u v:Rat):Prop :=
 ((∃s,(s=1∨s = -1)∧Qi ε u v f s)∧fG G u=fG G v) ∨
 (∃s:Int,(s=1∨s = -1)∧(∀x y,u≤x→x<y→y≤v→0<(s:Rat)*(evalL f y-evalL f x))∧fG G u+(if sg (evalL f v) = -s then 1 else 0)=fG G v+(if sg (evalL f u) = -s then 1 else 0))
theorem JS{R ε δ u v:Rat}{f:List Rat}{s:Int}(hu:ab u≤R)(hv:ab v≤R)(hs:s=1∨s = -1)(hb:Qi ε u v (ak f) s)(hε:0<ε)(hd:sec f R*(v-u)<ε):∀x y,u≤x→x<y→y≤v→0<(s:Rat)*(evalL f y-evalL f x):=by
 intro x y h1 h2 h3
 have hx:=aY (x:=x) h1 (by grind) hu hv
 have hy:=aY (x:=y) (by grind) h3 hu hv
 have hR:=Rat.le_trans (bn u) hu
 have t:=IA x y f
 have ht:=IB hx hy f
 obtain⟨b1,b2⟩:=hb x h1 (by grind)
 rw[ck] at b1 b2
 have hw:ab ((y-x)*JQ x y f)<ε:=by
  rw[fS]
  have e:ab (y-x)=y-x:=by rcases bb (y-x) with h|h<;>grind
  rw[e]
  have h4:=cG (show y-x≤v-u by grind) ht (by grind) (mW hR f)
  grind
 have e:evalL f y-evalL f x=(y-x)*(dEv f x+(y-x)*JQ x y f):=by rw[t];grind
 rw[e]
 have w1:=lF ((y-x)*JQ x y f)
 have w2:=dO ((y-x)*JQ x y f)
 have R3:0<(s:Rat)*(dEv f x+(y-x)*JQ x y f):=by
  rcases hs with rfl|rfl
  ·rcases bF (dEv f x) with ⟨k1,k2⟩|⟨k1,k2⟩|⟨k1,k2⟩
   ·rw[k2] at b1;cases b1
   ·rw[k2] at b1;cases b1
   ·have:(((1:Int):Rat))=1:=rfl
    rw[this,Rat.one_mul]
    rcases bb (dEv f x) with c|c<;>grind
  ·rcases bF (dEv f x) with ⟨k1,k2⟩|⟨k1,k2⟩|⟨k1,k2⟩
   ·have:(((-1:Int):Rat)) = -1:=rfl
    rw[this]
    rcases bb (dEv f x) with c|c<;>grind
   ·rw[k2] at b1;cases b1
   ·rw[k2] at b1;cases b1
 have:=Rat.mul_pos (show 0<y-x by grind) R3
 grind
theorem R4{ε u v:Rat}{f:List Rat}{r:List (List Rat)}{s:Int}(hb:Qi ε u v f s)(mw:u≤v)(hp:Pe s (r.map (fun h=>(sg (evalL h u),sg (evalL h v))))):varS 0 (sg (evalL f u)::r.map (fun g=>sg (evalL g u)))=varS 0 (sg (evalL f v)::r.map (fun g=>sg (evalL g v))):=by
 have e:=hp.eq
 rw[List.map_map,List.map_map] at e
 have e:varS s (r.map (fun h=>sg (evalL h u)))=varS s (r.map (fun h=>sg (evalL h v))):=e
 rw[(hb u Rat.le_refl mw).1,(hb v mw Rat.le_refl).1,varS,varS,e]
 split
 ·have e2:s=0:=by assumption
  rw[e2] at e;rw[e]
 ·rfl
theorem Nc{s a b:Int}{l m:List Int}(hs:s=1∨s = -1)(ha:a=0∨a=1∨a = -1)(hb:b=0∨b=1∨b = -1)(e:varS s l=varS s m):varS 0 (a::s::l)+(if b = -s then 1 else 0)=varS 0 (b::s::m)+(if a = -s then 1 else 0):=by
 rcases hs with rfl|rfl<;>rcases ha with rfl|rfl|rfl<;>rcases hb with rfl|rfl|rfl<;>simp[varS,e]<;>omega
theorem R5{R Q κ η ε:Rat}{f:List Rat}{n:Nat}(h2:ak f≠[])(hR:0≤R)(hQ:0≤Q)(hη:0<η)(hε:0<ε)(M9:2*ε≤η)(Na:Q*(2*ε)<η)(hN:(Q+1)^(n+1)*η≤κ)
  (hl:∀x,ab x≤R→GG Q κ x (chainF (n+1) f (ak f))) {u v:Rat} (hu:ab u≤R) (hv:ab v≤R) (mw:u≤v) (tV:lipA R (chainF (n+1) f (ak f))*(v-u)≤ε) (Hp:sec f R*(v-u)<ε):Loc f (chainF (n+1) f (ak f)) ε u v:=by
 have hlen:=vS n (ak f) (aL (a6 (-1) (bk f (ak f))))
 rw[fV h2] at hl tV ⊢
 obtain⟨r,e⟩:=tK n (ak f) (aL (a6 (-1) (bk f (ak f))))
 rw[e] at hl tV hlen ⊢
 rw[List.length_cons] at hlen
 have GH:=Nb hR (f::ak f::r)
 have Ot:∀x,u≤x→x≤v→GG Q κ x (f::ak f::r):=fun x h1 h2=>hl x (aY h1 h2 hu hv)
 rcases mm f hu hv mw (GH f (List.mem_cons_self ..)) hε tV with ⟨s,hs,hb⟩|CF
 ·left
  refine⟨⟨s,hs,hb⟩,?_⟩
  have:=EU hu hv mw hQ hη hε M9 Na tV hN (n+1) (ak f::r) f s (by rw[List.length_cons];omega) (Nat.le_refl _) (fun h hh=>GH h (List.mem_cons_of_mem _ hh)) hs hb Ot
  exact R4 hb mw this
 ·right
  rcases mm (ak f) hu hv mw (GH (ak f) (List.mem_cons_of_mem _ (List.mem_cons_self ..))) hε tV with ⟨s,hs,hb⟩|R6
  ·refine⟨s,hs,JS (δ:=0) hu hv hs hb hε Hp,?_⟩
   have hp:=EU hu hv mw hQ hη hε M9 Na tV hN (n+1) r (ak f) s (by omega) (Nat.le_refl _) (fun h hh=>GH h (List.mem_cons_of_mem _ (List.mem_cons_of_mem _ hh))) hs hb (fun x h1 h2=>by
    have:=Ot x h1 h2
    cases r with
    |nil=>exact this
    |cons k r=>exact this.2)
   have e1:=hp.eq
   rw[List.map_map,List.map_map] at e1
   have e1:varS s (r.map (fun h=>sg (evalL h u)))=varS s (r.map (fun h=>sg (evalL h v))):=e1
   show varS 0 (sg (evalL f u)::sg (evalL (ak f) u)::r.map (fun g=>sg (evalL g u)))+_=varS 0 (sg (evalL f v)::sg (evalL (ak f) v)::r.map (fun g=>sg (evalL g v)))+_
   rw[(hb u Rat.le_refl mw).1,(hb v mw Rat.le_refl).1]
   exact Nc hs (jS _) (jS _) e1
  ·exfalso
   have h3:=CF u Rat.le_refl mw
   have h4:=R6 u Rat.le_refl mw
   rcases GG.max hQ hη r f (ak f) (n+1) (Ot u Rat.le_refl mw) (by omega) hN with h|h<;>grind
theorem GI{a:Rat}(h:0<a):∀n:Nat,0<a^n
 |0=>by rw[Rat.pow_zero];decide
 |n+1=>by rw[Rat.pow_succ];exact Rat.mul_pos (GI h n) h
theorem ji{a b:Rat}(ha:0<a)(hb:0<b):0<a/b:=by
 refine Rat.not_le.1 fun h => ?_
 have h1:=Rat.mul_nonneg (show 0 ≤ -(a/b) by grind) (Rat.le_of_lt hb)
 have h2:=Rat.div_mul_cancel (a:=a) (b:=b) (by grind)
 grind
theorem sr{f:List Rat}{R:Rat}(hz:aK f=false)(h2:ak f≠[])(hf:f≠[])(hc:oq f (ak f))(hR:0≤R):∃δ ε,0<δ∧0<ε∧∀u v,ab u≤R→ab v≤R→u≤v→v-u≤δ→Loc f (chainF f.length f (ak f)) ε u v:=by
 have ba:=jQ hf
 obtain⟨n,hn⟩:∃n,f.length=n+1:=⟨f.length-1,by have:=List.length_pos_iff.2 hf;omega⟩
 rw[hn]
 obtain⟨Q,κ,hQ,hκ,hl⟩:=B5 hR (n+1) f (ak f) hz (bj f) h2 hc (by omega)
 have hp:=GI (show 0<Q+1 by grind) (n+1)
 have hη:=ji hκ hp
 have Xk:=Rat.div_mul_cancel (a:=κ) (b:=(Q+1)^(n+1)) (by grind)
 generalize κ/(Q+1)^(n+1)=η at hη Xk
 have hε:=ji hη (show 0<2*(Q+2) by grind)
 have Pf:=Rat.div_mul_cancel (a:=η) (b:=2*(Q+2)) (by grind)
 generalize η/(2*(Q+2))=ε at hε Pf
 have YT:=Rat.mul_nonneg hQ (Rat.le_of_lt hε)
 have hL:=tL hR (chainF (n+1) f (ak f))
 have hS:=mW hR f
 have hδ:=ji hε (show 0<lipA R (chainF (n+1) f (ak f))+sec f R+1 by grind)
 have Nd:=Rat.div_mul_cancel (a:=ε) (b:=lipA R (chainF (n+1) f (ak f))+sec f R+1) (by grind)
 generalize ε/(lipA R (chainF (n+1) f (ak f))+sec f R+1)=δ at hδ Nd
 refine⟨δ,ε,hδ,hε,fun u v hu hv mw hw => ?_⟩
 have w1:=Rat.mul_le_mul_of_nonneg_left hw hL
 have w2:=Rat.mul_le_mul_of_nonneg_left hw hS
 have w3:=Rat.mul_nonneg hL (Rat.le_of_lt hδ)
 have w4:=Rat.mul_nonneg hS (Rat.le_of_lt hδ)
 exact R5 h2 hR hQ hη hε (by grind) (by grind) (by grind) hl hu hv mw (by grind) (by grind)
theorem yi{P:Rat→Rat→Prop}{a b δ:Rat}(hδ:0<δ)(dF:a≤b)(hs:∀u v,a≤u→u≤v→v≤b→v-u≤δ→P u v)(ht:∀u v w,a≤u→u≤v→v≤w→w≤b→P u v→P v w→P u w):P a b:=by
 have key:∀(n:Nat) (c:Rat),a≤c→c≤b→c-a≤((n:Int):Rat)*δ→P a c:=by
  intro n
  induction n with
  |zero =>
   intro c h1 h2 h3
   have:(((0:Nat):Int):Rat)=0:=rfl
   rw[this,Rat.zero_mul] at h3
   exact hs a c Rat.le_refl h1 h2 (by grind)
  |succ n ih =>
   intro c h1 h2 h3
   have e:(((n+1:Nat):Int):Rat)=((n:Int):Rat)+1:=by simp
   rw[e] at h3
   by_cases h:c-δ≤a
   ·exact hs a c Rat.le_refl h1 h2 (by grind)
   ·have:=ih (c-δ) (by grind) (by grind) (by grind)
    exact ht a (c-δ) c Rat.le_refl (by grind) (by grind) h2 this (hs (c-δ) c (by grind) (by grind) h2 (by grind))
 have hx:=Rat.lt_floor_add_one ((b-a)/δ)
 have he:=Rat.div_mul_cancel (a:=b-a) (b:=δ) (by grind)
 have Ff:0≤((b-a)/δ).floor:=by
  refine Rat.le_floor_iff.2 ?_
  show(0:Rat)≤_
  refine Rat.not_lt.1 fun h => ?_
  have:=Rat.mul_pos (show 0 < -((b-a)/δ) by grind) hδ
  grind
 obtain⟨n,hn⟩:∃n:Nat,((b-a)/δ).floor+1=(n:Int):=⟨(((b-a)/δ).floor+1).toNat,by omega⟩
 rw[hn] at hx
 refine key n b dF Rat.le_refl ?_
 have:=Rat.mul_le_mul_of_nonneg_right (Rat.le_of_lt hx) (Rat.le_of_lt hδ)
 grind
def Pos(p:List Rat)(lo hi:Rat):Prop:=∃c,0<c∧∀x,lo≤x→x≤hi→c≤evalL p x
def lL(p:List Rat)(lo hi:Rat):Prop:=∃c,0<c∧∀x,lo≤x→x≤hi→c≤ab (evalL p x)
theorem lL.join{p:List Rat}{a b c:Rat}(h:lL p a b)(k:lL p b c):lL p a c:=by
 obtain⟨x,x1,x2⟩:=h
 obtain⟨y,y1,y2⟩:=k
 refine⟨fa x y,?_,fun z z1 z2 => ?_⟩
 ·unfold fa;split<;>assumption
 ·by_cases hz:z≤b
  ·exact Rat.le_trans (jo x y) (x2 z z1 hz)
  ·exact Rat.le_trans (jq x y) (y2 z (by grind) z2)
theorem lL.ne{p:List Rat}{a b x:Rat}(h:lL p a b)(h1:a≤x)(h2:x≤b):evalL p x≠0:=by
 obtain⟨c,c1,c2⟩:=h
 intro e
 have:=c2 x h1 h2
 rw[e,ot] at this
 grind
theorem lL.sub{p:List Rat}{a b u v:Rat}(h:lL p a b)(h1:a≤u)(h2:v≤b):lL p u v:=by
 obtain⟨c,c1,c2⟩:=h
 exact⟨c,c1,fun x x1 x2=>c2 x (Rat.le_trans h1 x1) (Rat.le_trans x2 h2)⟩
theorem Loc.Uh{f:List Rat}{G:List (List Rat)}{ε u v:Rat}(h:Loc f G ε u v)(mw:u≤v):fG G v≤fG G u:=by
 rcases h with ⟨_,e⟩|⟨s,hs,hm,e⟩
 ·rw[e];exact Int.le_refl _
 ·by_cases hv:sg (evalL f v) = -s
  ·by_cases hu:sg (evalL f u) = -s
   ·rw[if_pos hv,if_pos hu] at e;omega
   ·exfalso
    by_cases he:u=v
    ·rw[he] at hu;exact hu hv
    ·have:=hm u v Rat.le_refl (by grind) Rat.le_refl
     rcases hs with rfl|rfl
     ·have e1:(((1:Int):Rat))=1:=rfl
      rw[e1] at this
      rcases bF (evalL f u) with ⟨k1,k2⟩|⟨k1,k2⟩|⟨k1,k2⟩<;>rcases bF (evalL f v) with ⟨m1,m2⟩|⟨m1,m2⟩|⟨m1,m2⟩<;>first|(exfalso;grind)|(exact hu k2)|(rw [m2] at hv;cases hv)
     ·have e1:(((-1:Int):Rat)) = -1:=rfl
      rw[e1] at this
      rcases bF (evalL f u) with ⟨k1,k2⟩|⟨k1,k2⟩|⟨k1,k2⟩<;>rcases bF (evalL f v) with ⟨m1,m2⟩|⟨m1,m2⟩|⟨m1,m2⟩<;>first|(exfalso;grind)|(exact hu k2)|(rw [m2] at hv;cases hv)
  ·rw[if_neg hv] at e
   split at e<;>omega
theorem Loc.Xl{f:List Rat}{G:List (List Rat)}{ε u v:Rat}(h:Loc f G ε u v)(hε:0<ε)(mw:u≤v)(hc:fG G u=fG G v)(h0:evalL f u≠0):evalL f v≠0∧lL f u v:=by
 rcases h with ⟨⟨s,hs,hb⟩,_⟩|⟨s,hs,hm,e⟩
 ·have ha:lL f u v:=⟨ε,hε,fun x x1 x2=>(hb x x1 x2).2⟩
  exact⟨ha.ne mw Rat.le_refl,ha⟩
 ·rw[hc] at e
  have e:(sg (evalL f v) = -s↔sg (evalL f u) = -s):=by
   constructor
   ·intro h
    rw[if_pos h] at e
    refine Classical.byContradiction fun k => ?_
    rw[if_neg k] at e;omega
   ·intro h
    rw[if_pos h] at e
    refine Classical.byContradiction fun k => ?_
    rw[if_neg k] at e;omega
  have s1:(((1:Int):Rat))=1:=rfl
  have s2:(((-1:Int):Rat)) = -1:=rfl
  have YU:∀x y,u≤x→x≤y→y≤v→0≤(s:Rat)*(evalL f y-evalL f x):=by
   intro x y h1 h2 h3
   by_cases CS:x=y
   ·rw[CS];grind
   ·exact Rat.le_of_lt (hm x y h1 (by grind) h3)
  have ha:lL f u v:=by
   by_cases tG:sg (evalL f u) = -s
   ·
    have CP:=e.2 tG
    refine⟨ab (evalL f v),vR ?_,fun x x1 x2 => ?_⟩
    ·intro h
     rw[h] at CP
     rcases hs with rfl|rfl
     ·cases CP
     ·cases CP
    ·have:=YU x v x1 x2 Rat.le_refl
     rcases hs with rfl|rfl
     ·rw[s1] at this
      rcases bF (evalL f v) with ⟨m1,m2⟩|⟨m1,m2⟩|⟨m1,m2⟩
      ·rcases bb (evalL f v) with c|c<;>rcases bb (evalL f x) with d|d<;>grind
      ·rw[m2] at CP;cases CP
      ·rw[m2] at CP;cases CP
     ·rw[s2] at this
      rcases bF (evalL f v) with ⟨m1,m2⟩|⟨m1,m2⟩|⟨m1,m2⟩
      ·rw[m2] at CP;cases CP
      ·rw[m2] at CP;cases CP
      ·rcases bb (evalL f v) with c|c<;>rcases bb (evalL f x) with d|d<;>grind
   ·refine⟨ab (evalL f u),vR h0,fun x x1 x2 => ?_⟩
    have:=YU u x Rat.le_refl x1 x2
    rcases hs with rfl|rfl
    ·rw[s1] at this
     rcases bF (evalL f u) with ⟨m1,m2⟩|⟨m1,m2⟩|⟨m1,m2⟩
     ·exact absurd m2 tG
     ·exact absurd m1 h0
     ·rcases bb (evalL f u) with c|c<;>rcases bb (evalL f x) with d|d<;>grind
    ·rw[s2] at this
     rcases bF (evalL f u) with ⟨m1,m2⟩|⟨m1,m2⟩|⟨m1,m2⟩
     ·rcases bb (evalL f u) with c|c<;>rcases bb (evalL f x) with d|d<;>grind
     ·exact absurd m1 h0
     ·exact absurd m2 tG
  exact⟨ha.ne mw Rat.le_refl,ha⟩
theorem Loc.aF{f:List Rat}{G:List (List Rat)}{ε u v c R:Rat}(h:Loc f G ε u v)(mw:u≤v)(hu:ab u≤R)(hv:ab v≤R)(hc:0<c)(ha:∀x,u≤x→x≤v→c≤ab (evalL f x))(hd:lip f R*(v-u)<c):fG G u=fG G v:=by
 rcases h with ⟨_,e⟩|⟨s,hs,hm,e⟩
 ·exact e
 ·have d:=qv hv hu f
  have e1:ab (v-u)=v-u:=by rcases bb (v-u) with h|h<;>grind
  rw[e1] at d
  have d1:=lF (evalL f v-evalL f u)
  have d2:=dO (evalL f v-evalL f u)
  have a1:=ha u Rat.le_refl mw
  have a2:=ha v mw Rat.le_refl
  have es:sg (evalL f u)=sg (evalL f v):=by
   rcases bF (evalL f u) with ⟨k1,k2⟩|⟨k1,k2⟩|⟨k1,k2⟩<;>rcases bF (evalL f v) with ⟨m1,m2⟩|⟨m1,m2⟩|⟨m1,m2⟩<;>rcases bb (evalL f u) with c1|c1<;>rcases bb (evalL f v) with c2|c2<;>first|(exfalso;grind)|(rw [k2,m2];done)
  rw[es] at e
  omega
section
variable {f:List Rat} {R:Rat}
theorem qw{a b:Rat} : ∃R,0≤R∧ab a≤R∧ab b≤R:=by
 refine⟨ab a+ab b,?_,?_,?_⟩
 ·have:=bn a;have:=bn b;grind
 ·have:=bn b;grind
 ·have:=bn a;grind
theorem iG(h:ak f=[])(x:Rat):fG (chainF f.length f (ak f)) x=0:=by
 rw[h,iV]
 show varS 0 [sg (evalL f x)]=0
 rcases jS (evalL f x) with e|e|e<;>rw[e]<;>rfl
theorem ss(hz:aK f=false)(hf:f≠[])(h:ak f=[]):∃c,f=[c]∧c≠0:=by
 match f,hf with
 |[c],_=>exact⟨c,rfl,cE hz (by simp)⟩
 |a::b::r,_ =>
  exfalso
  have key:∀i,coef (gz 1 ((a::b::r).drop 1)) i=0:=by
   intro i
   have e2:aL (gz 1 ((a::b::r).drop 1))=[]:=h
   rw[←dC,e2,kF]
  have Cx:∀(q:List Rat) (i j:Nat),coef (gz i q) j=((i+j:Nat):Int)*coef q j:=by
   intro q
   induction q with
   |nil=>intro i j;show(0:Rat)=_*0;rw[Rat.mul_zero]
   |cons a q ih =>
    intro i j
    cases j with
    |zero=>rfl
    |succ j=>rw[gz,fe,fe,ih (i+1) j,show i+1+j=i+(j+1) from by omega]
  have hk:=key r.length
  rw[Cx] at hk
  have ht:=cE hz (by simp)
  have e:bX (a::b::r)=coef ((a::b::r).drop 1) r.length:=by
   unfold bX
   rw[show (a::b::r).length-1=r.length+1 from by simp];rfl
  rw[←e] at hk
  rcases Rat.mul_eq_zero.1 hk with h|h
  ·have:=Rat.intCast_inj.1 (show (((1+r.length:Nat):Int):Rat)=((0:Int):Rat) from h)
   omega
  ·exact ht h
theorem nJ(hz:aK f=false)(hf:f≠[])(hc:oq f (ak f)){a b:Rat}(dF:a≤b):fG (chainF f.length f (ak f)) b≤fG (chainF f.length f (ak f)) a:=by
 by_cases h2:ak f=[]
 ·rw[iG h2,iG h2];exact Int.le_refl _
 ·obtain⟨R,hR,ha,hb⟩:=qw (a:=a) (b:=b)
  obtain⟨δ,ε,hδ,hε,hl⟩:=sr hz h2 hf hc hR
  exact yi (P:=fun u v=>fG (chainF f.length f (ak f)) v≤fG (chainF f.length f (ak f)) u) hδ dF
   (fun u v h1 h3 h4 h5=>(hl u v (aY h1 (by grind) ha hb) (aY (by grind) h4 ha hb) h3 h5).Uh h3)
   (fun u v w _ _ _ _ h1 h3=>Int.le_trans h3 h1)
theorem rj(hz:aK f=false)(hf:f≠[])(hc:oq f (ak f)){a b:Rat}(dF:a≤b)(he:fG (chainF f.length f (ak f)) a=fG (chainF f.length f (ak f)) b)(h0:evalL f a≠0):lL f a b:=by
 by_cases h2:ak f=[]
 ·obtain⟨c,rfl,Am⟩:=ss hz hf h2
  exact⟨ab c,vR Am,fun x _ _=>by rw[dL];exact Rat.le_refl⟩
 ·obtain⟨R,hR,ha,hb⟩:=qw (a:=a) (b:=b)
  obtain⟨δ,ε,hδ,hε,hl⟩:=sr hz h2 hf hc hR
  have:=yi (P:=fun u v=>fG (chainF f.length f (ak f)) v≤fG (chainF f.length f (ak f)) u∧(fG (chainF f.length f (ak f)) u=fG (chainF f.length f (ak f)) v→evalL f u≠0→evalL f v≠0∧lL f u v)) hδ dF
   (fun u v h1 h3 h4 h5=>by
    have:=hl u v (aY h1 (by grind) ha hb) (aY (by grind) h4 ha hb) h3 h5
    exact⟨this.Uh h3,this.Xl hε h3⟩)
   (fun u v w _ _ _ _ h1 h3=>by
    refine⟨Int.le_trans h3.1 h1.1,fun e n => ?_⟩
    have i1:=h1.1
    have i2:=h3.1
    obtain⟨m1,m2⟩:=h1.2 (by omega) n
    obtain⟨m3,m4⟩:=h3.2 (by omega) m1
    exact⟨m3,m2.join m4⟩)
  exact(this.2 he h0).2
theorem xd(hz:aK f=false)(hf:f≠[])(hc:oq f (ak f)){a b:Rat}(dF:a≤b)(h:lL f a b):fG (chainF f.length f (ak f)) a=fG (chainF f.length f (ak f)) b:=by
 by_cases h2:ak f=[]
 ·rw[iG h2,iG h2]
 ·obtain⟨R,hR,ha,hb⟩:=qw (a:=a) (b:=b)
  obtain⟨δ,ε,hδ,hε,hl⟩:=sr hz h2 hf hc hR
  obtain⟨c,c1,c2⟩:=h
  have hL:=cW hR f
  have Xm:=ji c1 (show 0<lip f R+1 by grind)
  have Nd:=Rat.div_mul_cancel (a:=c) (b:=lip f R+1) (by grind)
  generalize c/(lip f R+1)=δ2 at Xm Nd
  exact yi (P:=fun u v=>fG (chainF f.length f (ak f)) u=fG (chainF f.length f (ak f)) v) (δ:=fa δ δ2) (by unfold fa;split<;>assumption) dF
   (fun u v h1 h3 h4 h5=>by
    have hu:=aY h1 (show u≤b by grind) ha hb
    have hv:=aY (show a≤v by grind) h4 ha hb
    have w1:=Rat.le_trans h5 (jo δ δ2)
    have w2:=Rat.le_trans h5 (jq δ δ2)
    have w3:=Rat.mul_le_mul_of_nonneg_left w2 hL
    exact(hl u v hu hv h3 w1).aF h3 hu hv c1 (fun x x1 x2=>c2 x (Rat.le_trans h1 x1) (Rat.le_trans x2 h4)) (by grind))
   (fun u v w _ _ _ _ h1 h3=>h1.trans h3)
end
theorem B6{f:List Rat}{a b:Rat}(h:lL f a b):∀k,lL (gS f k) a b
 |0=>⟨1,by decide,fun x _ _=>by rw[gS,dL];decide⟩
 |k+1=>by
  obtain⟨c,c1,c2⟩:=B6 h k
  obtain⟨d,d1,d2⟩:=h
  refine⟨c*d,Rat.mul_pos c1 d1,fun x x1 x2 => ?_⟩
  rw[gS,aE,fS]
  exact cG (c2 x x1 x2) (d2 x x1 x2) (Rat.le_of_lt c1) (bn _)
theorem Av{p q:List Rat}{a b:Rat}(h:lL q a b)(hd:Dv p q):lL p a b:=by
 obtain⟨u,hu⟩:=hd
 obtain⟨c,c1,c2⟩:=h
 obtain⟨R,hR,ha,hb⟩:=qw (a:=a) (b:=b)
 have hn:=jR hR u
 have hδ:=ji c1 (show 0<nrm u R+1 by grind)
 have he:=Rat.div_mul_cancel (a:=c) (b:=nrm u R+1) (by grind)
 generalize c/(nrm u R+1)=d at hδ he
 refine⟨d,hδ,fun x x1 x2 => ?_⟩
 have h1:=c2 x x1 x2
 rw[hu,fS] at h1
 have h2:=kP (aY x1 x2 ha hb) u
 have h3:=Rat.mul_le_mul_of_nonneg_right h2 (bn (evalL p x))
 have h4:=bn (evalL p x)
 refine Rat.not_lt.1 fun ba => ?_
 have h5:=Rat.mul_le_mul_of_nonneg_left (Rat.le_of_lt ba) hn
 grind
theorem zt{p:List Rat}{a b:Rat}(dF:a≤b)(h:lL p a b)(h0:0<evalL p a):Pos p a b:=by
 obtain⟨c,c1,c2⟩:=h
 obtain⟨R,hR,ha,hb⟩:=qw (a:=a) (b:=b)
 have hL:=cW hR p
 have hδ:=ji c1 (show 0<lip p R+1 by grind)
 have Nd:=Rat.div_mul_cancel (a:=c) (b:=lip p R+1) (by grind)
 generalize c/(lip p R+1)=δ at hδ Nd
 have key:=yi (P:=fun u v=>0<evalL p u→∀x,u≤x→x≤v→0<evalL p x) hδ dF
  (fun u v h1 h3 h4 h5 hp x x1 x2=>by
   have hu:=aY h1 (show u≤b by grind) ha hb
   have hx:=aY (show a≤x by grind) (show x≤b by grind) ha hb
   have d:=qv hu hx p
   have e1:ab (u-x)=x-u:=by rcases bb (u-x) with h|h<;>grind
   rw[e1] at d
   have w:=Rat.mul_le_mul_of_nonneg_left (show x-u≤δ by grind) hL
   have d1:=lF (evalL p u-evalL p x)
   have a1:=c2 u (by grind) (by grind)
   have a2:=c2 x (by grind) (by grind)
   rcases bb (evalL p u) with k|k<;>rcases bb (evalL p x) with m|m<;>grind)
  (fun u v w h1 h2 h3 h4 hp hq h5 x x1 x2=>by
   by_cases hx:x≤v
   ·exact hp h5 x x1 hx
   ·exact hq (hp h5 v h2 Rat.le_refl) x (by grind) x2)
 refine⟨c,c1,fun x x1 x2 => ?_⟩
 have h1:=key h0 x x1 x2
 have h2:=c2 x x1 x2
 rcases bb (evalL p x) with m|m<;>grind
theorem free_spec{p:List Rat}(hz:aK p=false)(h0:p≠[]):aK (bH p)=false∧bH p≠[]∧oq (bH p) (ak (bH p))∧Dv (bH p) p∧∃k,k≤p.length∧Dv p (gS (bH p) k):=by
 obtain⟨w,s⟩:=Ug hz h0
 have hm:=bW (cX p (bE p (ak p))).1
 have di:=ox s.zf s.f0
 have d1:=B0 s.zf
 have d2:=M4 (cX p (bE p (ak p))).1
 have e:bH p=bP (cX p (bE p (ak p))).1:=rfl
 rw[e]
 refine⟨hm,di,?_,?_,?_⟩
 ·have hc:=s.free
  obtain⟨u,v,h⟩:=hc
  have ht:=cE s.zf s.f0
  refine⟨a6 (bX (cX p (bE p (ak p))).1) u,a6 (bX (cX p (bE p (ak p))).1) v,fun x => ?_⟩
  have h1:=h x
  have hd:∀x,dEv (bP (cX p (bE p (ak p))).1) x=1/bX (cX p (bE p (ak p))).1*dEv (cX p (bE p (ak p))).1 x:=by
   intro x
   rw[mV (q:=a6 (1/bX (cX p (bE p (ak p))).1) (cX p (bE p (ak p))).1) (fun x=>by rw[iF,aU]) x,B2]
  rw[ck] at h1
  rw[aU,aU,iF,ck,hd]
  have h2:=Rat.div_mul_cancel (a:=1) ht
  grind
 ·refine d1.trans ⟨bE p (ak p),fun x=>by rw[s.pe];grind⟩
 ·have AF:=s.all
  have Ao:(bE p (ak p)).length+1≤p.length+1:=by
   have:=((gT p (ak p) hz (bj p)).1.len (eu _ _) hz h0).2
   omega
  have pw:∀k,Dv (gS (cX p (bE p (ak p))).1 k) (gS (bP (cX p (bE p (ak p))).1) k):=by
   intro k
   induction k with
   |zero=>exact Dv.refl _
   |succ k ih =>
    obtain⟨a,ha⟩:=ih
    obtain⟨b,hb⟩:=d2
    exact⟨mulL a b,fun x=>by
     show evalL (mulL _ _) x=_*evalL (mulL _ _) x
     rw[aE,aE,aE,ha,hb];grind⟩
  by_cases hd0:ak p=[]
  ·
   obtain⟨c,rfl,Am⟩:=ss hz h0 hd0
   refine⟨0,by simp,[1/c],fun x => ?_⟩
   show evalL [1] x=_
   rw[dL,dL,dL,Rat.div_mul_cancel Am]
  ·have hgd:=((gT p (ak p) hz (bj p)).2.len (eu _ _) (bj p) hd0).2
   have W5:=jQ h0
   exact⟨(bE p (ak p)).length+1,by omega,AF.trans (pw _)⟩
end Go.Proofs.YtllmkadmohkbfaaGreatDoor.Sym
namespace Go.Proofs.YtllmkadmohkbfaaGreatDoor.Sym
open Go Path cP
set_option linter.unusedVariables false
def tM:Int→List Int→Int
 |s,[]=>s
 |s,a::r=>if a=0 then tM s r else tM a r
theorem yj:∀(l:List Int) (s:Int),(s=1∨s = -1)→(∀a∈l,a=0∨a=1∨a = -1)→(tM s l=s∧varS s l%2=0)∨(tM s l = -s∧varS s l%2=1)
 |[],s,_,_=>Or.inl ⟨rfl,rfl⟩
 |a::r,s,hs,h=>by
  have ha:=h a (List.mem_cons_self ..)
  rw[tM,varS]
  by_cases h0:a=0
  ·rw[if_pos h0,if_pos h0];exact yj r s hs (fun b hb=>h b (List.mem_cons_of_mem _ hb))
  ·rw[if_neg h0,if_neg h0]
   have ha1:a=1∨a = -1:=ha.resolve_left h0
   have ih:=yj r a ha1 (fun b hb=>h b (List.mem_cons_of_mem _ hb))
   by_cases h1:a = -s
   ·rw[if_pos h1]
    rcases ih with ⟨i1,i2⟩|⟨i1,i2⟩
    ·right;constructor<;>omega
    ·left;constructor<;>omega
   ·rw[if_neg h1]
    have e:a=s:=by omega
    rcases ih with ⟨i1,i2⟩|⟨i1,i2⟩
    ·left;constructor<;>omega
    ·right;constructor<;>omega
theorem vd{x:Rat}(h:x≠0):sg x=1∨sg x = -1:=by rcases bF x with k|k|k<;>first|exact absurd k.1 h|simp[k.2]
theorem B7:∀(n:Nat) (p d:List Rat),aK d=false→d≠[]→oq p d→d.length<n+1→∃c:Rat,c≠0∧∀(x:Rat) (s:Int),tM s ((chainF n p d).map (fun g=>sg (evalL g x)))=sg c
 |0,p,d,_,h0,_,hl=>absurd (List.eq_nil_of_length_eq_zero (by omega)) h0
 |n+1,p,d,hd,h0,hc,hl=>by
  rw[fV h0]
  by_cases hr:aL (a6 (-1) (bk p d))=[]
  ·obtain⟨c,rfl,Am⟩:=B4 hd h0 hc hr
   rw[hr,iV]
   refine⟨c,Am,fun x s => ?_⟩
   rw[List.map_cons,List.map_cons,List.map_nil,dL,tM]
   have h1:sg c≠0:=by have:=vd Am;omega
   split<;>rw[tM,if_neg h1,tM]
  ·obtain⟨c,Am,zk⟩:=B7 n d _ (bh _) hr (B3 hd h0 hc) (by have:=gU (p:=p) hd h0;omega)
   refine⟨c,Am,fun x s => ?_⟩
   rw[List.map_cons,tM]
   split<;>exact zk x _
theorem JT{f:List Rat}(hz:aK f=false)(hf:f≠[])(hc:oq f (ak f)){u v:Rat}(hu:evalL f u≠0)(hv:evalL f v≠0) :
  (sg (evalL f u)=sg (evalL f v)∧(fG (chainF f.length f (ak f)) u-fG (chainF f.length f (ak f)) v)%2=0)∨(sg (evalL f u) = - sg (evalL f v)∧(fG (chainF f.length f (ak f)) u-fG (chainF f.length f (ak f)) v)%2=1):=by
 by_cases h2:ak f=[]
 ·obtain⟨c,rfl,Am⟩:=ss hz hf h2
  left
  rw[dL,dL,iG h2,iG h2]
  exact⟨rfl,rfl⟩
 ·obtain⟨c,c0,hl⟩:=B7 f.length f (ak f) (bj f) h2 hc (by have:=jQ hf;omega)
  have key:∀x,evalL f x≠0→(sg c=sg (evalL f x)∧fG (chainF f.length f (ak f)) x%2=0)∨(sg c = - sg (evalL f x)∧fG (chainF f.length f (ak f)) x%2=1):=by
   intro x hx
   obtain⟨r,e⟩:=tK f.length f (ak f)
   have hs:=vd hx
   have h1:=hl x 0
   rw[e,List.map_cons,tM,if_neg (by omega)] at h1
   have h3:=yj (r.map (fun g=>sg (evalL g x))) (sg (evalL f x)) hs (by
    intro a ha
    obtain⟨g,_,rfl⟩:=List.mem_map.1 ha
    exact jS _)
   rw[e]
   unfold fG
   rw[List.map_cons,varS,if_neg (by omega),if_neg (by omega)]
   rcases h3 with ⟨i1,i2⟩|⟨i1,i2⟩
   ·left;constructor<;>omega
   ·right;constructor<;>omega
  have YV:=vd hu
  have YW:=vd hv
  rcases key u hu with ⟨a1,a2⟩|⟨a1,a2⟩<;>rcases key v hv with ⟨b1,b2⟩|⟨b1,b2⟩<;>first|(left;constructor<;>omega)|(right;constructor<;>omega)
theorem xe{f:List Rat}{a b:Rat}(dF:a≤b)(h:lL f a b):sg (evalL f a)=sg (evalL f b):=by
 have di:=h.ne Rat.le_refl dF
 have KD:=h.ne dF Rat.le_refl
 rcases bF (evalL f a) with ⟨h1,h2⟩|⟨h1,h2⟩|⟨h1,h2⟩
 ·have h3:lL (a6 (-1) f) a b:=by
   obtain⟨c,c1,c2⟩:=h
   refine⟨c,c1,fun x x1 x2 => ?_⟩
   rw[aU,show(-1:Rat)*evalL f x = - evalL f x from by grind,ET]
   exact c2 x x1 x2
  have:=zt dF h3 (by rw[aU];grind)
  obtain⟨c,c1,c2⟩:=this
  have:=c2 b dF Rat.le_refl
  rw[aU] at this
  rw[h2]
  rcases bF (evalL f b) with k|k|k<;>grind
 ·exact absurd h1 di
 ·obtain⟨c,c1,c2⟩:=zt dF h h1
  have:=c2 b dF Rat.le_refl
  rw[h2]
  rcases bF (evalL f b) with k|k|k<;>grind
def Ch(h:Nat)(p:List Rat):Prop:=∃D:Int,D≠0∧wl D≤h∧∀i,∃n:Int,coef p i*(D:Rat)=(n:Rat)∧wl n≤h
theorem su{D:Int}(h:D≠0):(D:Rat)≠0:=fun e=>h (Rat.intCast_inj.1 (by rw[e];rfl))
theorem ph{a b c:Rat}(hc:c≠0)(h:a*c=b*c):a=b:=by
 have:(a-b)*c=0:=by grind
 rcases Rat.mul_eq_zero.1 this with e|e
 ·grind
 ·exact absurd e hc
theorem KT{x:Rat}{n D:Int}(hD:D≠0)(h:x*(D:Rat)=(n:Rat)):ht x≤max (wl n) (max (wl D) 1):=by
 have e:x=Rat.divInt n D:=by
  rw[Rat.divInt_eq_div]
  refine ph (su hD) ?_
  rw[h,Rat.div_mul_cancel (su hD)]
 rw[e];exact uk n D
theorem Ch.mono{h k:Nat}{p:List Rat}(hp:Ch h p)(hk:h≤k):Ch k p:=by
 obtain⟨D,h1,h2,h3⟩:=hp
 refine⟨D,h1,by omega,fun i => ?_⟩
 obtain⟨n,a,b⟩:=h3 i
 exact⟨n,a,by omega⟩
theorem Ch.ht{h:Nat}{p:List Rat}(hp:Ch h p)(i:Nat):ht (coef p i)≤max h 1:=by
 obtain⟨D,h1,h2,h3⟩:=hp
 obtain⟨n,a,b⟩:=h3 i
 have:=KT h1 a
 omega
theorem Ch.fl{h:Nat}{p:List Rat}(hp:Ch h p)(h1:1≤h):Fl h p:=lj (fun i=>by have:=hp.ht i;omega)
theorem Ch.congr{h:Nat}{p q:List Rat}(hp:Ch h p)(e:∀i,coef p i=coef q i):Ch h q:=by
 obtain⟨D,h1,h2,h3⟩:=hp
 refine⟨D,h1,h2,fun i => ?_⟩
 rw[←e i];exact h3 i
theorem Ch.trim{h:Nat}{p:List Rat}(hp:Ch h p):Ch h (aL p):=hp.congr (fun i=>(dC p i).symm)
theorem Ch.nil{h:Nat}(h1:1≤h):Ch h []:=⟨1,by decide,by rw[RX];exact h1,fun i=>⟨0,by rw[kF,Rat.zero_mul];rfl,Nat.zero_le _⟩⟩
theorem Ch.cons{h k:Nat}{a:Rat}{p:List Rat}(hp:Ch h p)(ha:Sym.ht a≤k):Ch (h+k) (a::p):=by
 obtain⟨D,h1,h2,h3⟩:=hp
 have hd:=eP a
 have hn:=eF a
 have Ja:(a.den:Int)≠0:=by have:=a.den_nz;omega
 have Pg:a*((a.den:Int):Rat)=(a.num:Rat):=by
  have:a=Rat.divInt a.num a.den:=(Rat.num_divInt_den a).symm
  conv=>lhs;lhs;rw[this]
  rw[Rat.divInt_eq_div,Rat.div_mul_cancel (su Ja)]
 have hm:=dS D a.den
 refine⟨D*a.den,by intro e;rcases Int.mul_eq_zero.1 e with e|e;exact h1 e;exact Ja e,by omega,fun i => ?_⟩
 cases i with
 |zero =>
  refine⟨a.num*D,?_,by have:=dS a.num D;omega⟩
  rw[uq,Rat.intCast_mul,Rat.intCast_mul,←Pg];grind
 |succ i =>
  obtain⟨n,e1,e2⟩:=h3 i
  refine⟨n*a.den,?_,by have:=dS n a.den;omega⟩
  rw[fe,Rat.intCast_mul,Rat.intCast_mul,←e1];grind
theorem Ch.DP{k:Nat} : ∀{p:List Rat},Fl k p→Ch (p.length*k+1) p
 |[],_=>Ch.nil (by omega)
 |a::r,h=>by
  have:=(Ch.DP (fun x hx=>h x (List.mem_cons_of_mem _ hx))).cons (h a (List.mem_cons_self ..))
  rw[List.length_cons,Nat.add_mul,Nat.one_mul]
  exact this.mono (by omega)
theorem Ch.IC{h:Nat}{p:List Rat}(hp:Ch h p)(ht:bX p≠0):Ch h (a6 (1/bX p) p):=by
 obtain⟨D,h1,h2,h3⟩:=hp
 obtain⟨t,e1,e2⟩:=h3 (p.length-1)
 have e1:bX p*(D:Rat)=(t:Rat):=e1
 have Qh:t≠0:=by
  intro e
  rw[e] at e1
  rcases Rat.mul_eq_zero.1 e1 with e|e
  ·exact ht e
  ·exact su h1 e
 refine⟨t,Qh,e2,fun i => ?_⟩
 obtain⟨n,g1,g2⟩:=h3 i
 refine⟨n,?_,g2⟩
 have:=Rat.div_mul_cancel (a:=1) ht
 rw[ct,←g1,←e1]
 grind
theorem Ch.fx{h:Nat}{p:List Rat}(hp:Ch h p)(h1:1≤h)(hz:aK p=false):Ch h (bP p):=by
 by_cases e:p=[]
 ·subst e;exact Ch.nil h1
 ·exact(hp.IC (cE hz e)).trim
theorem Ch.step{h b:Nat}{rest q:List Rat}(hr:Ch h rest)(hq:Ch b q)(hz:bX q≠0):Ch (h+b+1) (mD rest q):=by
 refine Ch.trim ?_
 obtain⟨D,h1,h2,h3⟩:=hr
 obtain⟨E,g1,g2,g3⟩:=hq
 obtain⟨u,u1,u2⟩:=g3 (q.length-1)
 obtain⟨t,t1,t2⟩:=h3 (rest.length-1)
 have u1:bX q*(E:Rat)=(u:Rat):=u1
 have t1:bX rest*(D:Rat)=(t:Rat):=t1
 have Ol:u≠0:=by
  intro e
  rw[e] at u1
  rcases Rat.mul_eq_zero.1 u1 with e|e
  ·exact hz e
  ·exact su g1 e
 have hc:=DK (rest:=rest) hz
 have hm:=dS D u
 refine⟨D*u,by intro e;rcases Int.mul_eq_zero.1 e with e|e;exact h1 e;exact Ol e,by omega,fun i => ?_⟩
 obtain⟨n,e1,e2⟩:=h3 i
 rw[fX,jP,ct]
 by_cases hi:i<rest.length-q.length
 ·rw[if_pos hi]
  refine⟨n*u,?_,by have:=dS n u;omega⟩
  rw[Rat.intCast_mul,Rat.intCast_mul,←e1];grind
 ·rw[if_neg hi]
  obtain⟨m,f1,f2⟩:=g3 (i-(rest.length-q.length))
  refine⟨n*u + -(t*m),?_,by have:=dS n u;have:=dS t m;have:=iy (t*m);have:=BP (n*u) (-(t*m));omega⟩
  rw[Rat.intCast_mul,Rat.intCast_add,Rat.intCast_mul,Rat.intCast_neg,Rat.intCast_mul,←e1,←f1,←t1,←u1,←hc];grind
theorem DQ{b:Nat}{q:List Rat}(hq:Ch b q)(hz:bX q≠0)(nP:q.length≠0):∀(n h:Nat) (out rest:List Rat),Ch h rest→Ch (h+(rest.length+1-q.length)*(b+1)) (nW n out rest q).2
 |0,h,out,rest,hr=>hr.mono (by omega)
 |n+1,h,out,rest,hr=>by
  rw[nW]
  cases hb:Nat.blt rest.length q.length with
  |true=>exact hr.mono (by omega)
  |false =>
   have hl:=uu.1 hb
   have h1:=ow hz nP hl
   have ih:=DQ hq hz nP n (h+b+1) (aL (cY out (fc (rest.length-q.length) [stepC rest q]))) (mD rest q) (hr.step hq hz)
   refine ih.mono ?_
   have e:rest.length+1-q.length=(rest.length-q.length)+1:=by omega
   have h2:((mD rest q).length+1-q.length)*(b+1)≤(rest.length-q.length)*(b+1):=Nat.mul_le_mul_right _ (by omega)
   rw[e,Nat.add_mul,Nat.one_mul]
   omega
theorem GJ{b M:Nat}{q:List Rat}(hq:Ch b q)(qO:1≤b)(hz:bX q≠0)(nP:q.length≠0):∀(n h:Nat) (out rest:List Rat),1≤h→Ch h rest→h+(rest.length+1-q.length)*(b+1)≤M→(∀i,i+q.length≤rest.length→coef out i=0)→(∀i,ht (coef out i)≤M+b)→∀i,ht (coef (nW n out rest q).1 i)≤M+b
 |0,h,out,rest,_,_,_,_,ho=>ho
 |n+1,h,out,rest,h1,hr,hM,Am,ho=>by
  rw[nW]
  cases hb:Nat.blt rest.length q.length with
  |true=>exact ho
  |false =>
   have hl:=uu.1 hb
   have hs:=ow hz nP hl
   have e:rest.length+1-q.length=(rest.length-q.length)+1:=by omega
   have h2:((mD rest q).length+1-q.length)*(b+1)≤(rest.length-q.length)*(b+1):=Nat.mul_le_mul_right _ (by omega)
   rw[e,Nat.add_mul,Nat.one_mul] at hM
   have cc:∀i,coef (aL (cY out (fc (rest.length-q.length) [stepC rest q]))) i=if i=rest.length-q.length then stepC rest q else coef out i:=by
    intro i
    rw[dC,fX,jP]
    by_cases h3:i=rest.length-q.length
    ·rw[if_pos h3,if_neg (by omega),Am i (by omega),h3,Nat.sub_self,uq,Rat.zero_add]
    ·rw[if_neg h3]
     split
     ·rw[Rat.add_zero]
     ·rw[c9 (p:=[stepC rest q]) (by simp;omega),Rat.add_zero]
   refine GJ hq qO hz nP n (h+b+1) _ (mD rest q) (by omega) (hr.step hq hz) (by omega) (fun i hi => ?_) (fun i => ?_)
   ·rw[cc,if_neg (by omega)]
    exact Am i (by omega)
   ·rw[cc]
    split
    ·unfold stepC
     have a1:=nV (bX rest) (bX q)
     have a2:=hr.ht (rest.length-1)
     have a3:=hq.ht (q.length-1)
     have a2:ht (bX rest)≤max h 1:=a2
     have a3:ht (bX q)≤max b 1:=a3
     omega
    ·exact ho i
theorem Ch.rest{h b:Nat}{p q:List Rat}(hp:Ch h p)(hq:Ch b q)(hz:aK q=false)(nP:q≠[]):Ch (h+(p.length+1-q.length)*(b+1)) (bk p q):=by
 have:=DQ hq (cE hz nP) (by intro e;exact nP (List.eq_nil_of_length_eq_zero e)) (p.length+1) h [] (aL p) hp.trim
 refine Ch.mono this ?_
 have h1:=gH p
 have:((aL p).length+1-q.length)*(b+1)≤(p.length+1-q.length)*(b+1):=Nat.mul_le_mul_right _ (by omega)
 omega
theorem Aw{h b:Nat}{p q:List Rat}(hp:Ch h p)(hq:Ch b q)(h1:1≤h)(qO:1≤b)(hz:aK q=false)(nP:q≠[]):Fl (h+(p.length+1-q.length)*(b+1)+b) (cX p q).1:=by
 have hl:=gH p
 have h2:((aL p).length+1-q.length)*(b+1)≤(p.length+1-q.length)*(b+1):=Nat.mul_le_mul_right _ (by omega)
 exact lj (GJ hq qO (cE hz nP) (by intro e;exact nP (List.eq_nil_of_length_eq_zero e)) (p.length+1) h [] (aL p) h1 hp.trim (by omega) (fun i _=>rfl) (fun i=>Nat.le_trans (Nat.le_of_eq jA) (by omega)))
theorem xf{p q:List Rat}(hz:aK q=false)(nP:q≠[]):(cX p q).1.length≤p.length+1-q.length:=by
 have key:∀(n:Nat) (out rest:List Rat),rest.length≤p.length→out.length≤p.length+1-q.length→(nW n out rest q).1.length≤p.length+1-q.length:=by
  intro n
  induction n with
  |zero=>intro out rest _ h;exact h
  |succ n ih =>
   intro out rest h1 h2
   rw[nW]
   cases hb:Nat.blt rest.length q.length with
   |true=>exact h2
   |false =>
    have hl:=uu.1 hb
    have hs:=ow (cE hz nP) (by intro e;exact nP (List.eq_nil_of_length_eq_zero e)) hl
    refine ih _ _ (by omega) ?_
    have h3:=gH (cY out (fc (rest.length-q.length) [stepC rest q]))
    rw[Gx] at h3
    unfold fc at h3
    rw[List.length_append,List.length_replicate] at h3
    simp only[List.length_cons,List.length_nil] at h3
    unfold fc
    omega
 exact key _ _ _ (gH p) (by simp)
def xB(a b:Nat):Nat→Nat
 |0=>a
 |1=>b
 |j+2=>xB a b j+2*(xB a b (j+1)+1)
theorem EW(a b:Nat)(h:a≤b):∀j,xB a b j≤xB a b (j+1)
 |0=>h
 |j+1=>by rw[xB];omega
theorem cz(a b:Nat)(h:a≤b){i j:Nat}(xU:i≤j):xB a b i≤xB a b j:=by
 induction xU with
 |refl=>exact Nat.le_refl _
 |step _ ih=>exact Nat.le_trans ih (EW a b h _)
theorem sv(a b:Nat)(h:a≤b)(j:Nat):∀d,xB a b j+(d+2)*(xB a b (j+1)+1)≤xB a b (j+1+(d+1))
 |0=>Nat.le_refl _
 |d+1=>by
  have ih:=sv a b h j d
  have h1:=cz a b h (i:=j+1) (j:=j+1+d) (by omega)
  have e:xB a b (j+1+(d+1+1))=xB a b (j+1+d)+2*(xB a b (j+1+(d+1))+1):=rfl
  rw[e]
  have e2:(d+1+2)*(xB a b (j+1)+1)=(d+2)*(xB a b (j+1)+1)+(xB a b (j+1)+1):=by rw[show d+1+2=(d+2)+1 from by omega,Nat.add_mul,Nat.one_mul]
  rw[e2]
  omega
structure v8 (a b N i j:Nat) (p q:List Rat):Prop where
 hp:Ch (xB a b i) p
 hq:Ch (xB a b j) q
 lt:i<j
 len:q.length<p.length
 bound:j+p.length≤N+1
 zp:aK p=false
 zq:aK q=false
theorem v8.rest{a b N i j:Nat}{p q:List Rat}(e:v8 a b N i j p q)(dF:a≤b)(nP:q≠[]):Ch (xB a b (j+(p.length-q.length))) (bk p q)∧(bk p q).length<q.length:=by
 have h1:=e.hp.rest e.hq e.zq nP
 have hl:=(fZ p e.zq nP).1
 have hlen:=e.len
 have ba:=e.lt
 refine⟨h1.mono ?_,hl⟩
 obtain⟨j',rfl⟩:∃j',j=j'+1:=⟨j-1,by omega⟩
 obtain⟨d,hd⟩:∃d,p.length-q.length=d+1:=⟨p.length-q.length-1,by omega⟩
 have h2:=cz a b dF (i:=i) (j:=j') (by omega)
 have h3:=sv a b dF j' d
 rw[hd,show p.length+1-q.length=d+2 from by omega]
 omega
theorem v8.next{a b N i j:Nat}{p q r:List Rat}(e:v8 a b N i j p q)(dF:a≤b)(nP:q≠[])(hr:Ch (xB a b (j+(p.length-q.length))) r)(hl:r.length<q.length)(hz:aK r=false):v8 a b N j (j+(p.length-q.length)) q r:=by
 have:=e.len
 have:=e.bound
 exact⟨e.hq,hr,by omega,hl,by omega,e.zq,hz⟩
theorem v8.idx{a b N i j:Nat}{p q:List Rat}(e:v8 a b N i j p q):j≤N+1:=by have:=e.bound;omega
theorem JU{a b N:Nat}(ha:1≤a)(dF:a≤b):∀(n i j:Nat) (p q:List Rat),v8 a b N i j p q→Ch (xB a b (N+1)) (gB n p q)
 |0,i,j,p,q,e=>e.hp.mono (cz a b dF (by have:=e.idx;have:=e.lt;omega))
 |n+1,i,j,p,q,e=>by
  rw[gB]
  by_cases h:q.length=0
  ·rw[beq_iff.2 h,cond_true];exact e.hp.mono (cz a b dF (by have:=e.idx;have:=e.lt;omega))
  ·have di:q≠[]:=fun e=>h (by rw[e];rfl)
   rw[fh.2 h,cond_false]
   obtain⟨h1,h2⟩:=e.rest dF di
   have hz:=cL p q
   refine JU ha dF n _ _ q _ (e.next dF di (h1.fx (Nat.le_trans ha (cz a b dF (i:=0) (Nat.zero_le _))) hz) (by rw[bL hz];exact h2) (bW _))
theorem Ch.derive{h:Nat}{p:List Rat}(hp:Ch h p)(hl:p.length≤1000):Ch (h+1) (ak p):=by
 refine Ch.trim ?_
 have key:∀(q:List Rat) (i:Nat) (j:Nat),coef (gz i q) j=((i+j:Nat):Int)*coef q j:=by
  intro q
  induction q with
  |nil=>intro i j;show(0:Rat)=_*0;rw[Rat.mul_zero]
  |cons a r ih =>
   intro i j
   cases j with
   |zero=>rfl
   |succ j =>
    rw[gz,fe,fe,ih (i+1) j,show i+1+j=i+(j+1) from by omega]
 have hd:∀j,coef (p.drop 1) j=coef p (j+1):=by
  intro j
  cases p with
  |nil=>rfl
  |cons a r=>rfl
 obtain⟨D,h1,h2,h3⟩:=hp
 refine⟨D,h1,by omega,fun i => ?_⟩
 rw[key,hd]
 by_cases hi:i+1<p.length
 ·obtain⟨n,e1,e2⟩:=h3 (i+1)
  refine⟨((1+i:Nat):Int)*n,?_,?_⟩
  ·rw[Rat.intCast_mul,←e1];grind
  ·have:=dS ((1+i:Nat):Int) n
   have:wl ((1+i:Nat):Int)≤1:=mC (by omega)
   omega
 ·rw[c9 (by omega)]
  exact⟨0,by grind,Nat.zero_le _⟩
end Go.Proofs.YtllmkadmohkbfaaGreatDoor.Sym
