/- Lemmas for the statements of this seat. -/
import Derived.Test.YtllmkadmohkbfaaGreatDoorG3
namespace Go.Proofs.YtllmkadmohkbfaaGreatDoor.Sym
open Go Path dE
set_option linter.unusedVariables false
def Dv(p q:List Rat):Prop:=∃u,∀x,evalL q x=evalL u x*evalL p x
def qF(p q:List Rat):Prop:=∃u v,∀x,evalL u x*evalL p x+evalL v x*evalL q x=1
def mu(t:List Rat):Nat→List Rat
 |0=>[1]
 |k+1=>mulL (mu t k) t
theorem fL(c x:Rat):evalL [c] x=c:=by show 0*x+c=c;grind
theorem vG(t:List Rat)(x:Rat):∀k,evalL (mu t k) x=evalL t x^k
 |0=>by rw[mu,fL,Rat.pow_zero]
 |k+1=>by rw[mu,aO,vG t x k,Rat.pow_succ]
theorem Dv.refl(p:List Rat):Dv p p:=⟨[1],fun x=>by rw[fL,Rat.one_mul]⟩
theorem Dv.trans{p q r:List Rat}(h:Dv p q)(k:Dv q r):Dv p r:=by
 obtain⟨u,hu⟩:=h
 obtain⟨v,hv⟩:=k
 exact⟨mulL v u,fun x=>by rw[hv,hu,aO];grind⟩
theorem qF.symm{p q:List Rat}(h:qF p q):qF q p:=by
 obtain⟨u,v,e⟩:=h
 exact⟨v,u,fun x=>by have:=e x;grind⟩
theorem qF.Uf{p q r:List Rat}(h:qF p q)(k:Dv r p):qF r q:=by
 obtain⟨u,v,e⟩:=h
 obtain⟨w,hw⟩:=k
 exact⟨mulL u w,v,fun x=>by have:=e x;rw[hw] at this;rw[aO];grind⟩
theorem qF.mul{p q r:List Rat}(h:qF p q)(k:qF p r):qF p (mulL q r):=by
 obtain⟨u,v,e⟩:=h
 obtain⟨u',v',e'⟩:=k
 refine⟨ft u (mulL (mulL v q) u'),mulL v v',fun x => ?_⟩
 have h1:=e x
 have h2:=e' x
 rw[cu,aO,aO,aO,aO]
 have:(evalL u x+evalL v x*evalL q x*evalL u' x)*evalL p x+evalL v x*evalL v' x*(evalL q x*evalL r x)=evalL u x*evalL p x+evalL v x*evalL q x*(evalL u' x*evalL p x+evalL v' x*evalL r x):=by grind
 rw[this,h2];grind
theorem qF.pow{p q:List Rat}(h:qF p q):∀k,qF p (mu q k)
 |0=>⟨[],[1],fun x=>by rw[mu,fL];show(0:Rat)*_+_=_;grind⟩
 |k+1=>(h.pow k).mul h
theorem qF.dv{p q r:List Rat}(h:qF p q)(k:Dv p (mulL q r)):Dv p r:=by
 obtain⟨u,v,e⟩:=h
 obtain⟨w,hw⟩:=k
 refine⟨ft (mulL u r) (mulL v w),fun x => ?_⟩
 have h1:=e x
 have h2:=hw x
 rw[aO] at h2
 rw[cu,aO,aO]
 have:(evalL u x*evalL r x+evalL v x*evalL w x)*evalL p x=(evalL u x*evalL p x)*evalL r x+evalL v x*(evalL w x*evalL p x):=by grind
 rw[this,←h2]
 have:evalL u x*evalL p x*evalL r x+evalL v x*(evalL q x*evalL r x)=(evalL u x*evalL p x+evalL v x*evalL q x)*evalL r x:=by grind
 rw[this,h1,Rat.one_mul]
theorem OC{t a b:List Rat}(ht:aU t≠[])(h:∀x,evalL t x*evalL a x=evalL t x*evalL b x):∀x,evalL a x=evalL b x:=by
 have key:aU (ft a (bn (-1) b))=[]:=by
  refine Classical.byContradiction fun dk => ?_
  have h1:=nU _ _ ht dk
  have h2:=ko (p:=mulL (aU t) (aU (ft a (bn (-1) b)))) (q:=[]) (fun x=>by
   rw[aO,da,da,cu,bN]
   have:=h x
   show _=(0:Rat)
   grind)
  rw[h2] at h1
  rcases Rat.mul_eq_zero.1 h1.symm with e|e
  ·exact eH (bj _) ht e
  ·exact eH (bj _) dk e
 intro x
 have:=da x (ft a (bn (-1) b))
 rw[key,cu,bN] at this
 have h0:(0:Rat)=evalL a x + -1*evalL b x:=this
 grind
theorem Dv.len{p q:List Rat}(h:Dv p q)(hp:aJ p=false)(hq:aJ q=false)(h0:q≠[]):p≠[]∧p.length≤q.length:=by
 obtain⟨u,hu⟩:=h
 have VJ:p≠[]:=by
  intro e
  subst e
  have:∀i,coef q i=coef [] i:=ko (fun x=>by rw[hu];show _*(0:Rat)=0;rw[Rat.mul_zero])
  exact h0 (jQ hq rfl this)
 have VK:aU u≠[]:=by
  intro e
  have:∀i,coef q i=coef [] i:=ko (fun x=>by rw[hu,←da x u,e];show(0:Rat)*_=0;rw[Rat.zero_mul])
  exact h0 (jQ hq rfl this)
 refine⟨VJ,?_⟩
 have h1:=nU _ p VK VJ
 have h2:=ko (p:=mulL (aU u) p) (q:=q) (fun x=>by rw[aO,da,hu])
 rw[h2] at h1
 have h3:coef q ((aU u).length+p.length-2)≠0:=by
  rw[h1]
  intro e
  rcases Rat.mul_eq_zero.1 e with e|e
  ·exact eH (bj _) VK e
  ·exact eH hp VJ e
 have:=Aq h3
 have:=List.length_pos_iff.2 VK
 omega
theorem Hu{p:List Rat}(hz:aJ p=false):Dv (cr p) p:=by
 by_cases h:p=[]
 ·subst h;exact Dv.refl _
 ·refine⟨[cb p],fun x => ?_⟩
  rw[fL,nD]
  have:=Rat.div_mul_cancel (a:=1) (eH hz h)
  grind
theorem RF(p:List Rat):Dv p (cr p):=⟨[1/cb p],fun x=>by rw[fL,nD]⟩
theorem LH:∀(n:Nat) (p q:List Rat),aJ p=false→aJ q=false→∃u v,∀x,evalL (fa n p q) x=evalL u x*evalL p x+evalL v x*evalL q x
 |0,p,q,_,_=>⟨[1],[],fun x=>by rw[fL];show _=_+(0:Rat)*_;rw[fa];grind⟩
 |n+1,p,q,hp,hq=>by
  rw[fa]
  by_cases h:q.length=0
  ·rw[beq_iff.2 h,cond_true]
   exact⟨[1],[],fun x=>by rw[fL];show _=_+(0:Rat)*_;grind⟩
  ·have dk:q≠[]:=fun e=>h (by rw[e];rfl)
   rw[eL.2 h,cond_false]
   obtain⟨u,v,e⟩:=LH n q (cr (a7 p q)) hq (bO _)
   obtain⟨g1,g2⟩:=eE p hq dk
   refine⟨bn (1/cb (a7 p q)) v,ft u (bn (-(1/cb (a7 p q))) (mulL v (et p q).1)),fun x => ?_⟩
   have h2:evalL (et p q).1 x*evalL q x+evalL (a7 p q) x=evalL p x:=g2 x
   rw[e x,nD,cu,bN,bN,aO,←h2]
   grind
theorem OD:∀(n:Nat) (p q:List Rat),aJ p=false→aJ q=false→q.length<n→Dv (fa n p q) p∧Dv (fa n p q) q
 |0,p,q,_,_,h=>by omega
 |n+1,p,q,hp,hq,hn=>by
  rw[fa]
  by_cases h:q.length=0
  ·rw[beq_iff.2 h,cond_true,List.eq_nil_of_length_eq_zero h]
   exact⟨Dv.refl p,[],fun x=>by show(0:Rat)=0*_;rw[Rat.zero_mul]⟩
  ·have dk:q≠[]:=fun e=>h (by rw[e];rfl)
   rw[eL.2 h,cond_false]
   obtain⟨g1,g2⟩:=eE p hq dk
   obtain⟨d1,d2⟩:=OD n q (cr (a7 p q)) hq (bO _) (by rw[aY (b8 _ _)];unfold a7;omega)
   have d3:=d2.trans (Hu (b8 p q))
   refine⟨?_,d1⟩
   obtain⟨a,ha⟩:=d1
   obtain⟨b,hb⟩:=d3
   refine⟨ft (mulL (et p q).1 a) b,fun x => ?_⟩
   have h2:evalL (et p q).1 x*evalL q x+evalL (a7 p q) x=evalL p x:=g2 x
   rw[←h2,cu,aO,hb x]
   have:=ha x
   rw[this];grind
theorem tZ(p q:List Rat)(hp:aJ p=false)(hq:aJ q=false):∃u v,∀x,evalL (bF p q) x=evalL u x*evalL p x+evalL v x*evalL q x:=by
 obtain⟨u,v,e⟩:=LH (q.length+1) p q hp hq
 unfold bF
 refine⟨bn (1/cb (fa (q.length+1) p q)) u,bn (1/cb (fa (q.length+1) p q)) v,fun x => ?_⟩
 rw[nD,bN,bN,e x];grind
theorem gR(p q:List Rat)(hp:aJ p=false)(hq:aJ q=false):Dv (bF p q) p∧Dv (bF p q) q:=by
 obtain⟨h1,h2⟩:=OD (q.length+1) p q hp hq (Nat.lt_succ_self _)
 have h3:=Hu (kO (q.length+1) p q hp hq)
 exact⟨h3.trans h1,h3.trans h2⟩
theorem Jm{p:List Rat}(hz:aJ p=false)(h:p.length=1):cr p=[1]:=by
 have dk:p≠[]:=by intro e;rw[e] at h;cases h
 match p,h with
 |[a],_ =>
  have ha:a≠0:=eH hz dk
  rw[oD hz dk]
  show[1/a*a]=[1]
  rw[Rat.div_mul_cancel ha]
theorem tq{p q:List Rat}(hp:aJ p=false)(hq:aJ q=false)(h:(bF p q).length=1):qF p q:=by
 have e:bF p q=[1]:=by
  have h1:=wZ (kO (q.length+1) p q hp hq)
  have h2:=Jm (gD p q) h
  unfold bF at h2 ⊢
  rw[←h1,h2]
 obtain⟨u,v,b⟩:=tZ p q hp hq
 refine⟨u,v,fun x => ?_⟩
 rw[←b x,e,fL]
theorem yV{p q:List Rat}(hp:aJ p=false)(hq:aJ q=false)(h:qF p q):bF p q=[1]:=by
 obtain⟨d1,d2⟩:=gR p q hp hq
 obtain⟨u,v,e⟩:=h
 obtain⟨a,ha⟩:=d1
 obtain⟨b,hb⟩:=d2
 have hd:Dv (bF p q) [1]:=⟨ft (mulL u a) (mulL v b),fun x=>by
  have:=e x
  rw[ha,hb] at this
  rw[fL,cu,aO,aO];grind⟩
 obtain⟨g1,g2⟩:=hd.len (gD p q) (by rfl) (by simp)
 have hl:=List.length_pos_iff.2 g1
 have g2:(bF p q).length≤1:=g2
 have h1:=wZ (kO (q.length+1) p q hp hq)
 have h2:=Jm (gD p q) (by omega)
 unfold bF at h2 ⊢
 rw[←h1,h2]
def dEv(p:List Rat)(x:Rat):Rat:=evalL (ld 1 (p.drop 1)) x
theorem dW(p:List Rat)(x:Rat):evalL (ar p) x=dEv p x:=Iz p x
theorem Jn(x:Rat):∀(q:List Rat) (i:Nat),evalL (ld (i+1) q) x=evalL (ld i q) x+evalL q x
 |[],_=>by show(0:Rat)=0+0;grind
 |a::r,i=>by
  rw[ld,ld,evalL,evalL,evalL,Jn x r (i+1)]
  have:(((i+1:Nat):Int):Rat)=((i:Int):Rat)+1:=by simp
  rw[this];grind
theorem so(a:Rat)(p:List Rat)(x:Rat):dEv (a::p) x=evalL p x+x*dEv p x:=by
 show evalL (ld 1 p) x=_
 rw[Jn x p 0]
 have:evalL (ld 0 p) x=x*dEv p x:=by
  cases p with
  |nil=>show(0:Rat)=x*0;rw[Rat.mul_zero]
  |cons b r =>
   show evalL (ld 1 r) x*x+((0:Nat):Int)*b=x*evalL (ld 1 r) x
   have:(((0:Nat):Int):Rat)=0:=rfl
   rw[this];grind
 rw[this];grind
theorem Ke(x:Rat):dEv [] x=0:=rfl
theorem OE(x:Rat):∀p q:List Rat,dEv (ft p q) x=dEv p x+dEv q x
 |[],q=>by rw[ft,Ke,Rat.zero_add]
 |a::p,[]=>by rw[ft,Ke,Rat.add_zero]
 |a::p,b::q=>by rw[ft,so,so,so,cu,OE x p q];grind
theorem Hv(c x:Rat):∀p:List Rat,dEv (bn c p) x=c*dEv p x
 |[]=>by show(0:Rat)=c*0;rw[Rat.mul_zero]
 |a::p=>by
  show dEv (c*a::bn c p) x=_
  rw[so,so,bN,Hv c x p];grind
theorem sq(x:Rat)(q:List Rat):∀p:List Rat,dEv (mulL p q) x=dEv p x*evalL q x+evalL p x*dEv q x
 |[]=>by rw[mulL,Ke];show(0:Rat)=0*_+0*_;grind
 |a::p=>by
  rw[mulL,OE,Hv,so,so,aO,sq x q p,evalL];grind
theorem oE{p q:List Rat}(h:∀x,evalL p x=evalL q x)(x:Rat):dEv p x=dEv q x:=by
 rw[←dW,←dW]
 have:ar p=ar q:=by
  rw[←Bx p,←Bx q,xU h]
 rw[this]
theorem OF(t:List Rat)(x:Rat):∀k,evalL t x*dEv (mu t k) x=((k:Int):Rat)*(evalL (mu t k) x*dEv t x)
 |0=>by
  have:dEv (mu t 0) x=0:=rfl
  rw[this]
  have:(((0:Nat):Int):Rat)=0:=rfl
  rw[this];grind
 |k+1=>by
  have ih:=OF t x k
  have:(((k+1:Nat):Int):Rat)=((k:Int):Rat)+1:=by simp
  rw[mu,sq,aO,this]
  grind
theorem F5{t:List Rat}(ht:aU t≠[])(k:Nat):aU (mu t k)≠[]:=by
 induction k with
 |zero=>rw[mu];decide
 |succ k ih =>
  intro e
  have h1:=nU _ _ ih ht
  have h2:=ko (p:=mulL (aU (mu t k)) (aU t)) (q:=[]) (fun x=>by
   rw[aO,da,da,←aO]
   show evalL (mu t (k+1)) x=_
   rw[←da,e])
  rw[h2] at h1
  rcases Rat.mul_eq_zero.1 h1.symm with e|e
  ·exact eH (bj _) ih e
  ·exact eH (bj _) ht e
theorem RG{t:List Rat}(hz:aJ t=false)(h:2≤t.length)(k:Nat):k+1≤(aU (mu t k)).length:=by
 have dk:t≠[]:=by intro e;rw[e] at h;simp at h
 have htr:=qP hz
 induction k with
 |zero=>have:=List.length_pos_iff.2 (F5 (t:=t) (by rw[htr];exact dk) 0);omega
 |succ k ih =>
  have h1:=nU _ t (F5 (t:=t) (by rw[htr];exact dk) k) dk
  have h2:coef (aU (mu t (k+1))) ((aU (mu t k)).length+t.length-2)≠0:=by
   rw[dV]
   have:=ko (p:=mu t (k+1)) (q:=mulL (aU (mu t k)) t) (fun x=>by rw[mu,aO,aO,da])
   rw[this,h1]
   intro e
   rcases Rat.mul_eq_zero.1 e with e|e
   ·exact eH (bj _) (F5 (t:=t) (by rw[htr];exact dk) k) e
   ·exact eH hz dk e
  have:=Aq h2
  omega
theorem jB{p:List Rat}(h:p≠[]):(ar p).length<p.length:=by
 have h1:=lC (ld 1 (p.drop 1))
 rw[tX,List.length_drop] at h1
 have:=List.length_pos_iff.2 h
 have h2:(ar p).length≤p.length-1:=h1
 omega
structure Sq (p g f w:List Rat):Prop where
 pe:∀x,evalL p x=evalL f x*evalL g x
 de:∀x,dEv p x=evalL w x*evalL g x
 g0:aU g≠[]
 zg:aJ g=false
 zf:aJ f=false
 f0:f≠[]
 zK:qF f w
theorem Sq.rel{p g f w:List Rat}(s:Sq p g f w)(x:Rat):evalL f x*dEv g x=evalL g x*(evalL w x-dEv f x):=by
 have h1:=oE (q:=mulL f g) (fun x=>by rw[s.pe,aO]) x
 rw[sq,s.de] at h1
 grind
theorem XI{p:List Rat}(hz:aJ p=false)(h0:p≠[]):∃w,Sq p (bF p (ar p)) (et p (bF p (ar p))).1 w:=by
 have FV:=F4 (ar p) hz (bc p) h0
 have hgz:=gD p (ar p)
 obtain⟨d1,d2⟩:=gR p (ar p) hz (bc p)
 obtain⟨u,hu⟩:=d1
 obtain⟨w,hw⟩:=d2
 have hdiv:=qR (p:=p) (q:=bF p (ar p)) (a:=aU u) (r:=[]) hgz FV (bj u) rfl (List.length_pos_iff.2 FV) (fun x=>by
  rw[da,hu x];show _+(0:Rat)=_;rw[Rat.add_zero])
 have e1:(et p (bF p (ar p))).1=aU u:=by rw[hdiv]
 have hgt:aU (bF p (ar p))≠[]:=by rw[qP hgz];exact FV
 refine⟨w,⟨fun x=>by rw[e1,da,hu x],fun x=>by rw[←dW,hw x],hgt,hgz,(me _ _).1,?_,?_⟩⟩
 ·rw[e1]
  intro e
  have:∀i,coef p i=coef [] i:=ko (fun x=>by rw[hu,←da x u,e];show(0:Rat)*_=0;rw[Rat.zero_mul])
  exact h0 (jQ hz rfl this)
 ·obtain⟨a,b,hb⟩:=tZ p (ar p) hz (bc p)
  refine⟨a,b,?_⟩
  have:=OC (t:=bF p (ar p)) (a:=ft (mulL a (et p (bF p (ar p))).1) (mulL b w)) (b:=[1]) hgt (fun x=>by
   have h1:=hb x
   rw[fL,cu,aO,aO,e1,da]
   have h2:=hu x
   have h3:=hw x
   rw[h2,h3] at h1
   grind)
  intro x
  have h:=this x
  rw[cu,aO,aO,fL] at h
  exact h
theorem Sq.OG{p g f w t:List Rat}(s:Sq p g f w)(ht:aU t≠[])(h1:Dv t f)(h2:∃v,∀x,dEv f x=evalL v x*evalL t x):∀k,∃r,∀x,evalL g x=evalL (mu t k) x*evalL r x
 |0=>⟨g,fun x=>by rw[mu,fL,Rat.one_mul]⟩
 |k+1=>by
  obtain⟨r,hr⟩:=s.OG ht h1 h2 k
  obtain⟨f1,hf1⟩:=h1
  obtain⟨v,hv⟩:=h2
  have key:∀x,evalL f1 x*(((k:Int):Rat)*dEv t x*evalL r x+evalL t x*dEv r x)=evalL r x*(evalL w x-dEv f x):=by
   have:=OC (t:=mu t k) (a:=mulL f1 (ft (bn ((k:Int):Rat) (mulL (ar t) r)) (mulL t (ar r)))) (b:=mulL r (ft w (bn (-1) (ar f)))) (F5 ht k) (fun x=>by
    rw[aO,aO,cu,cu,bN,bN,aO,aO,dW,dW,dW]
    have g1:=s.rel x
    have g2:=oE (q:=mulL (mu t k) r) (fun x=>by rw[hr,aO]) x
    rw[sq] at g2
    have g3:=OF t x k
    have g4:=hr x
    have g5:=hf1 x
    rw[g4,g2,g5] at g1
    have:evalL f1 x*evalL t x*(dEv (mu t k) x*evalL r x+evalL (mu t k) x*dEv r x)=evalL f1 x*((evalL t x*dEv (mu t k) x)*evalL r x+evalL t x*evalL (mu t k) x*dEv r x):=by grind
    rw[this,g3] at g1
    grind)
   intro x
   have h:=this x
   rw[aO,aO,cu,cu,bN,bN,aO,aO,dW,dW,dW] at h
   grind
  have hd:Dv t (mulL w r):=by
   have h3:=fun x=>oE (q:=mulL f1 t) (fun x=>by rw[hf1,aO]) x
   refine⟨ft (ft (bn ((k:Int):Rat) (mulL r (ft v (bn (-1) (ar f1))))) (mulL f1 (ar r))) (mulL r v),fun x => ?_⟩
   have k1:=key x
   have k2:=h3 x
   rw[sq,hv] at k2
   have k3:=hv x
   rw[aO,cu,cu,bN,aO,cu,bN,aO,aO,dW,dW]
   have k4:evalL f1 x*dEv t x=(evalL v x-dEv f1 x)*evalL t x:=by grind
   have k5:evalL f1 x*(((k:Int):Rat)*dEv t x*evalL r x)=((k:Int):Rat)*((evalL v x-dEv f1 x)*evalL t x)*evalL r x:=by rw[←k4];grind
   have k6:evalL w x*evalL r x=evalL f1 x*(((k:Int):Rat)*dEv t x*evalL r x)+evalL f1 x*(evalL t x*dEv r x)+evalL r x*dEv f x:=by grind
   rw[k6,k5,k3];grind
  obtain⟨r1,wg⟩:=(s.zK.Uf ⟨f1,hf1⟩).dv hd
  exact⟨r1,fun x=>by rw[hr,wg,mu,aO];grind⟩
theorem Sq.free{p g f w:List Rat}(s:Sq p g f w):qF f (ar f):=by
 refine tq s.zf (bc f) ?_
 have dk:=F4 (ar f) s.zf (bc f) s.f0
 have hl:=List.length_pos_iff.2 dk
 refine Classical.byContradiction fun h => ?_
 have h2:2≤(bF f (ar f)).length:=by omega
 have hz:=gD f (ar f)
 obtain⟨d1,d2⟩:=gR f (ar f) s.zf (bc f)
 obtain⟨v,hv⟩:=d2
 obtain⟨r,hr⟩:=s.OG (t:=bF f (ar f)) (by rw[qP hz];exact dk) d1 ⟨v,fun x=>by rw[←dW,hv]⟩ g.length
 have FD:Dv (aU (mu (bF f (ar f)) g.length)) g:=⟨r,fun x=>by rw[da,hr];grind⟩
 have hg:g≠[]:=by intro e;exact s.g0 (by rw[e];rfl)
 have:=(FD.len (bj _) s.zg hg).2
 have:=RG hz h2 g.length
 omega
theorem Sq.LI{p g f w:List Rat}(s:Sq p g f w):∀(n i:Nat) (e r:List Rat),r.length≤n→aJ r=false→(∀x,evalL g x=evalL e x*evalL r x)→Dv e (mu f i)→Dv g (mu f (i+n))
 |n,i,e,r,hl,hz,hg,hd=>by
  have up:∀m,Dv e (mu f (i+m)):=by
   intro m
   induction m with
   |zero=>exact hd
   |succ m ih =>
    obtain⟨u,hu⟩:=ih
    exact⟨mulL u f,fun x=>by show evalL (mulL (mu f (i+m)) f) x=_;rw[aO,hu,aO];grind⟩
  have IN:r≠[]:=by
   intro e'
   have:∀i,coef g i=coef [] i:=ko (fun x=>by rw[hg,e'];show _*(0:Rat)=0;rw[Rat.mul_zero])
   exact s.g0 (by rw[qP s.zg];exact jQ s.zg rfl this)
  have uW:=List.length_pos_iff.2 IN
  by_cases h1:r.length=1
  ·match r,h1 with
   |[c],_ =>
    have hc:c≠0:=eH hz IN
    obtain⟨u,hu⟩:=up n
    refine⟨bn (1/c) u,fun x => ?_⟩
    have h2:=hg x
    rw[fL] at h2
    have h3:=Rat.div_mul_cancel (a:=1) hc
    rw[hu,bN,h2];grind
  ·obtain⟨m,rfl⟩:∃m,n=m+1:=⟨n-1,by omega⟩
   have Sg:=F4 f hz s.zf IN
   have htz:=gD r f
   have DM:=List.length_pos_iff.2 Sg
   obtain⟨d1,d2⟩:=gR r f hz s.zf
   have h2:2≤(bF r f).length:=by
    refine Classical.byContradiction fun bH => ?_
    have hc:=tq hz s.zf (by omega:(bF r f).length=1)
    have hce:qF r e:=((hc.pow i).symm.Uf hd).symm
    have A9:Dv r (mulL (mulL f e) (ar r)):=by
     refine⟨ft (mulL e (ft w (bn (-1) (ar f)))) (bn (-1) (mulL f (ar e))),fun x => ?_⟩
     have g1:=s.rel x
     have g2:=oE (q:=mulL e r) (fun x=>by rw[hg,aO]) x
     rw[sq] at g2
     rw[g2,hg] at g1
     rw[aO,aO,cu,aO,cu,bN,bN,aO,dW,dW,dW]
     grind
    have SS:=(hc.mul hce).dv A9
    by_cases hd0:ar r=[]
    ·
     have key:∀i,coef (ld 1 (r.drop 1)) i=0:=by
      intro i
      have:=dV (ld 1 (r.drop 1)) i
      have e2:aU (ld 1 (r.drop 1))=[]:=hd0
      rw[e2,pB] at this
      exact this.symm
     have AM:∀(q:List Rat) (i j:Nat),coef (ld i q) j=((i+j:Nat):Int)*coef q j:=by
      intro q
      induction q with
      |nil=>intro i j;show(0:Rat)=_*0;rw[Rat.mul_zero]
      |cons a q ih =>
       intro i j
       cases j with
       |zero=>rfl
       |succ j=>rw[ld,iD,iD,ih (i+1) j,show i+1+j=i+(j+1) from by omega]
     have hk:=key (r.length-2)
     rw[AM] at hk
     have DW:coef (r.drop 1) (r.length-2)=cb r:=by
      unfold cb
      rw[show r.length-1=(r.length-2)+1 from by omega]
      cases r with
      |nil=>rfl
      |cons a q=>rfl
     rw[DW] at hk
     rcases Rat.mul_eq_zero.1 hk with h|h
     ·have:=Rat.intCast_inj.1 (show (((1+(r.length-2):Nat):Int):Rat)=((0:Int):Rat) from h)
      omega
     ·exact eH hz IN h
    ·have:=(SS.len hz (bc r) hd0).2
     have h3:=lC (ld 1 (r.drop 1))
     rw[tX,List.length_drop] at h3
     have h4:(ar r).length≤r.length-1:=h3
     omega
   obtain⟨r1,wg⟩:=d1
   have Hj:=bj r1
   have o9:(aU r1).length≤m:=by
    have AI:Dv (aU r1) r:=⟨bF r f,fun x=>by rw[da,wg];grind⟩
    have RH:=(AI.len Hj hz IN).1
    have h5:=nU _ _ RH Sg
    have h6:=ko (p:=mulL (aU r1) (bF r f)) (q:=r) (fun x=>by rw[aO,da,wg])
    rw[h6] at h5
    have h7:coef r ((aU r1).length+(bF r f).length-2)≠0:=by
     rw[h5]
     intro e'
     rcases Rat.mul_eq_zero.1 e' with e'|e'
     ·exact eH Hj RH e'
     ·exact eH htz Sg e'
    have:=Aq h7
    have:=List.length_pos_iff.2 RH
    omega
   have:=s.LI m (i+1) (mulL e (bF r f)) (aU r1) o9 Hj (fun x=>by rw[hg,wg,aO,da];grind) (by
    obtain⟨u,hu⟩:=hd
    obtain⟨v,hv⟩:=d2
    refine⟨mulL u v,fun x => ?_⟩
    show evalL (mulL (mu f i) f) x=_
    rw[aO,aO,aO,hu,hv];grind)
   rwa[show i+1+m=i+(m+1) from by omega] at this
 termination_by n=>n
theorem Sq.all{p g f w:List Rat}(s:Sq p g f w):Dv p (mu f (g.length+1)):=by
 obtain⟨u,hu⟩:=s.LI g.length 0 [1] g (Nat.le_refl _) s.zg (fun x=>by rw[fL,Rat.one_mul]) ⟨[1],fun x=>by rw[mu,fL,Rat.one_mul]⟩
 rw[Nat.zero_add] at hu
 refine⟨u,fun x => ?_⟩
 rw[mu,aO,hu,s.pe];grind
def ab(x:Rat):Rat:=if 0≤x then x else -x
theorem cf(x:Rat):(0≤x∧ab x=x)∨(x<0∧ab x = -x):=by
 unfold ab
 by_cases h:0≤x
 ·rw[if_pos h];exact Or.inl ⟨h,rfl⟩
 ·rw[if_neg h];exact Or.inr ⟨by grind,rfl⟩
theorem bJ(x:Rat):0≤ab x:=by rcases cf x with h|h<;>grind
theorem B8{x:Rat}(h:x≠0):0<ab x:=by rcases cf x with h|h<;>grind
theorem Ar{x c:Rat}(h1:x≤c)(h2 : -x≤c):ab x≤c:=by rcases cf x with h|h<;>grind
theorem ke(x:Rat):x≤ab x:=by rcases cf x with h|h<;>grind
theorem dY(x:Rat) : -x≤ab x:=by rcases cf x with h|h<;>grind
theorem yW(x:Rat):ab (-x)=ab x:=by rcases cf x with h|h<;>rcases cf (-x) with k|k<;>grind
theorem kD(x y:Rat):ab (x+y)≤ab x+ab y:=by
 have h1:=ke x
 have h2:=dY x
 have h3:=ke y
 have h4:=dY y
 exact Ar (by grind) (by grind)
theorem fQ(x y:Rat):ab (x*y)=ab x*ab y:=by
 rcases cf x with ⟨h1,e1⟩|⟨h1,e1⟩<;>rcases cf y with ⟨h2,e2⟩|⟨h2,e2⟩<;>rw[e1,e2]
 ·have:=Rat.mul_nonneg h1 h2
  rcases cf (x*y) with h|h<;>grind
 ·have:=Rat.mul_nonneg h1 (show 0 ≤ -y by grind)
  rcases cf (x*y) with h|h<;>grind
 ·have:=Rat.mul_nonneg (show 0 ≤ -x by grind) h2
  rcases cf (x*y) with h|h<;>grind
 ·have:=Rat.mul_nonneg (show 0 ≤ -x by grind) (show 0 ≤ -y by grind)
  rcases cf (x*y) with h|h<;>grind
theorem sr:ab 0=0:=rfl
theorem cM{a b c d:Rat}(h1:a≤b)(h2:c≤d)(h3:0≤a)(h4:0≤d):a*c≤b*d :=
 Rat.le_trans (Rat.mul_le_mul_of_nonneg_left h2 h3) (Rat.mul_le_mul_of_nonneg_right h1 h4)
def nrm:List Rat→Rat→Rat
 |[],_=>0
 |a::r,R=>nrm r R*R+ab a
def lip:List Rat→Rat→Rat
 |[],_=>0
 |_::r,R=>lip r R*R+nrm r R
def sec:List Rat→Rat→Rat
 |[],_=>0
 |_::r,R=>sec r R*R+lip r R
theorem pE{R:Rat}(hR:0≤R):∀p,0≤nrm p R
 |[]=>Rat.le_refl
 |a::r=>by
  have h1:=Rat.mul_nonneg (pE hR r) hR
  have h2:=bJ a
  rw[nrm];grind
theorem gK{R:Rat}(hR:0≤R):∀p,0≤lip p R
 |[]=>Rat.le_refl
 |a::r=>by
  have h1:=Rat.mul_nonneg (gK hR r) hR
  have h2:=pE hR r
  rw[lip];grind
theorem tt{R:Rat}(hR:0≤R):∀p,0≤sec p R
 |[]=>Rat.le_refl
 |a::r=>by
  have h1:=Rat.mul_nonneg (tt hR r) hR
  have h2:=gK hR r
  rw[sec];grind
theorem kc{R x:Rat}(hx:ab x≤R):∀p,ab (evalL p x)≤nrm p R
 |[]=>Rat.le_refl
 |a::r=>by
  have h1:=kc hx r
  have h2:=kD (evalL r x*x) a
  rw[fQ] at h2
  have h3:=cM h1 hx (bJ _) (Rat.le_trans (bJ x) hx)
  rw[evalL,nrm];grind
theorem w5{R x y:Rat}(hx:ab x≤R)(hy:ab y≤R):∀p,ab (evalL p x-evalL p y)≤lip p R*ab (x-y)
 |[]=>by
  show ab (0-0)≤0*_
  rw[show (0:Rat)-0=0 from by grind,sr,Rat.zero_mul];exact Rat.le_refl
 |a::r=>by
  have h0:=Rat.le_trans (bJ x) hx
  have h1:=w5 hx hy r
  have h2:=kc hy r
  have e:evalL (a::r) x-evalL (a::r) y=(evalL r x-evalL r y)*x+evalL r y*(x-y):=by rw[evalL,evalL];grind
  rw[e]
  have h3:=kD ((evalL r x-evalL r y)*x) (evalL r y*(x-y))
  rw[fQ,fQ] at h3
  have h4:=cM h1 hx (bJ _) h0
  have h5:=Rat.mul_le_mul_of_nonneg_right h2 (bJ (x-y))
  rw[lip];grind
theorem RI{R x:Rat}(hx:ab x≤R):∀p,ab (dEv p x)≤lip p R
 |[]=>Rat.le_refl
 |a::r=>by
  have h1:=RI hx r
  have h2:=kc hx r
  have h3:=kD (evalL r x) (x*dEv r x)
  rw[fQ] at h3
  have h4:=cM hx h1 (bJ _) (gK (Rat.le_trans (bJ x) hx) r)
  rw[so,lip];grind
def OH(x y:Rat):List Rat→Rat
 |[]=>0
 |_::r=>dEv r x+y*OH x y r
theorem Nc(x y:Rat):∀p,evalL p y=evalL p x+(y-x)*dEv p x+(y-x)*(y-x)*OH x y p
 |[]=>by show(0:Rat)=0+(y-x)*0+(y-x)*(y-x)*0;grind
 |a::r=>by
  have:=Nc x y r
  rw[evalL,evalL,so,OH,this];grind
theorem Nd{R x y:Rat}(hx:ab x≤R)(hy:ab y≤R):∀p,ab (OH x y p)≤sec p R
 |[]=>Rat.le_refl
 |a::r=>by
  have h0:=Rat.le_trans (bJ x) hx
  have h1:=Nd hx hy r
  have h2:=RI hx r
  have h3:=kD (dEv r x) (y*OH x y r)
  rw[fQ] at h3
  have h4:=cM hy h1 (bJ _) (tt h0 r)
  rw[OH,sec];grind
def sg(x:Rat):Int:=dz x 0
theorem bk(x:Rat):(x<0∧sg x = -1)∨(x=0∧sg x=0)∨(0<x∧sg x=1):=by
 unfold sg dz
 by_cases h:x<0
 ·rw[if_pos h];exact Or.inl ⟨h,rfl⟩
 ·rw[if_neg h]
  by_cases h2:x=0
  ·rw[if_pos h2];exact Or.inr (Or.inl ⟨h2,rfl⟩)
  ·rw[if_neg h2];exact Or.inr (Or.inr ⟨by grind,rfl⟩)
def varS:Int→List Int→Int
 |_,[]=>0
 |l,s::r=>if s=0 then varS l r else (if s = -l then 1 else 0)+varS s r
def fR(G:List (List Rat))(x:Rat):Int:=varS 0 (G.map (fun g=>sg (evalL g x)))
inductive Tp:Int→List (Int×Int)→Prop
 |nil (s:Int):Tp s []
 |same {s t:Int} {l:List (Int×Int)} (ht:t=1∨t = -1) (h:Tp t l):Tp s ((t,t)::l)
 |gJ {s a b:Int} {l:List (Int×Int)} (hs:s=1∨s = -1) (ha:a=0∨a=1∨a = -1) (hb:b=0∨b=1∨b = -1) (h:Tp (-s) l):Tp s ((a,b)::(-s, -s)::l)
theorem OI{s a:Int}(hs:s=1∨s = -1)(ha:a=0∨a=1∨a = -1)(l:List Int):varS s (a :: -s::l)=1+varS (-s) l:=by
 rcases hs with rfl|rfl<;>rcases ha with rfl|rfl|rfl<;>simp[varS]
theorem Tp.eq{s:Int}{l:List (Int×Int)}(h:Tp s l):varS s (l.map Prod.fst)=varS s (l.map Prod.snd):=by
 induction h with
 |nil s=>rfl
 |same ht h ih =>
  rw[List.map_cons,List.map_cons]
  rcases ht with rfl|rfl<;>simp[varS,ih]
 |gJ hs ha hb h ih =>
  rw[List.map_cons,List.map_cons,List.map_cons,List.map_cons,OI hs ha,OI hs hb,ih]
def LJ(Q κ x:Rat):List (List Rat)→Prop
 |[]=>False
 |[g]=>κ≤ab (evalL g x)
 |[g,h]=>κ≤ab (evalL h x)
 |g::h::k::r=>ab (evalL g x+evalL k x)≤Q*ab (evalL h x)∧LJ Q κ x (h::k::r)
theorem LJ.max{Q κ x η:Rat}(hQ:0≤Q)(hη:0<η):∀(r:List (List Rat)) (g h:List Rat) (N:Nat),LJ Q κ x (g::h::r)→r.length≤N→(Q+1)^N*η≤κ→η≤ab (evalL g x)∨η≤ab (evalL h x)
 |[],g,h,N,hl,hN,hk=>by
  have hl:κ≤ab (evalL h x):=hl
  right
  have key:∀n:Nat,1≤(Q+1)^n:=by
   intro n
   induction n with
   |zero=>rw[Rat.pow_zero];exact Rat.le_refl
   |succ n ih =>
    rw[Rat.pow_succ]
    have:=Rat.mul_nonneg (show 0≤(Q+1)^n by grind) hQ
    grind
  have:=Rat.mul_le_mul_of_nonneg_right (key N) (Rat.le_of_lt hη)
  grind
 |k::r,g,h,N,hl,hN,hk=>by
  obtain⟨N,rfl⟩:∃m,N=m+1:=⟨N-1,by rw[List.length_cons] at hN;omega⟩
  have hl:ab (evalL g x+evalL k x)≤Q*ab (evalL h x)∧LJ Q κ x (h::k::r):=hl
  obtain⟨h1,h2⟩:=hl
  have aa3:0<(Q+1)*η:=Rat.mul_pos (by grind) hη
  rcases LJ.max hQ aa3 r h k N h2 (by rw[List.length_cons] at hN;omega) (by rw[Rat.pow_succ] at hk;grind) with e|e
  ·right
   have:=Rat.mul_nonneg hQ (Rat.le_of_lt hη)
   grind
  ·by_cases hh:η≤ab (evalL h x)
   ·exact Or.inr hh
   ·left
    have h3:=kD (evalL g x+evalL k x) (-(evalL g x))
    rw[yW,show evalL g x+evalL k x + -(evalL g x)=evalL k x from by grind] at h3
    have h4:=Rat.mul_le_mul_of_nonneg_left (show ab (evalL h x)≤η by grind) hQ
    grind
def Ug(ε u v:Rat)(g:List Rat)(s:Int):Prop:=∀x,u≤x→x≤v→sg (evalL g x)=s∧ε≤ab (evalL g x)
def Small(ε u v:Rat)(g:List Rat):Prop:=∀x,u≤x→x≤v→ab (evalL g x)<2*ε
theorem a8{x u v R:Rat}(h1:u≤x)(h2:x≤v)(hu:ab u≤R)(hv:ab v≤R):ab x≤R:=by
 have a:=dY u
 have b:=ke v
 exact Ar (by grind) (by grind)
theorem ss{R L ε u v:Rat}(g:List Rat)(hu:ab u≤R)(hv:ab v≤R)(rk:u≤v)(hL:lip g R≤L)(hε:0<ε)(hd:L*(v-u)≤ε):(∃s,(s=1∨s = -1)∧Ug ε u v g s)∨Small ε u v g:=by
 have var:∀x y,u≤x→x≤v→u≤y→y≤v→ab (evalL g x-evalL g y)≤ε:=by
  intro x y h1 h2 h3 h4
  have d:=w5 (a8 h1 h2 hu hv) (a8 h3 h4 hu hv) g
  have hR:=Rat.le_trans (bJ u) hu
  have Hw:ab (x-y)≤v-u:=Ar (by grind) (by grind)
  have:=cM hL Hw (gK hR g) (by grind)
  grind
 by_cases hs:∃x,u≤x∧x≤v∧ab (evalL g x)<ε
 ·right
  obtain⟨x,h1,h2,h3⟩:=hs
  intro y h4 h5
  have:=var y x h4 h5 h1 h2
  have:=kD (evalL g y-evalL g x) (evalL g x)
  rw[show evalL g y-evalL g x+evalL g x=evalL g y from by grind] at this
  grind
 ·left
  have hb:∀x,u≤x→x≤v→ε≤ab (evalL g x):=fun x h1 h2=>by
   refine Rat.not_lt.1 fun h=>hs ⟨x,h1,h2,h⟩
  have h0:=hb u Rat.le_refl rk
  rcases bk (evalL g u) with ⟨k1,k2⟩|⟨k1,k2⟩|⟨k1,k2⟩
  ·refine⟨-1,Or.inr rfl,fun x h1 h2=>⟨?_,hb x h1 h2⟩⟩
   have v1:=var x u h1 h2 Rat.le_refl rk
   have v2:=hb x h1 h2
   have v3:=ke (evalL g x-evalL g u)
   rcases cf (evalL g u) with c|c
   ·grind
   ·rcases bk (evalL g x) with ⟨m1,m2⟩|⟨m1,m2⟩|⟨m1,m2⟩
    ·exact m2
    ·rw[m1,sr] at v2;grind
    ·rcases cf (evalL g x) with c2|c2<;>grind
  ·rw[k1,sr] at h0;grind
  ·refine⟨1,Or.inl rfl,fun x h1 h2=>⟨?_,hb x h1 h2⟩⟩
   have v1:=var u x Rat.le_refl rk h1 h2
   have v2:=hb x h1 h2
   have v3:=ke (evalL g u-evalL g x)
   rcases cf (evalL g u) with c|c
   ·rcases bk (evalL g x) with ⟨m1,m2⟩|⟨m1,m2⟩|⟨m1,m2⟩
    ·rcases cf (evalL g x) with c2|c2<;>grind
    ·rw[m1,sr] at v2;grind
    ·exact m2
   ·grind
theorem hJ(x:Rat):sg x=0∨sg x=1∨sg x = -1:=by rcases bk x with h|h|h<;>simp[h.2]
theorem VL{a b η:Rat}{s:Int}(ha:η≤ab a)(hs:sg a=s)(h:ab (a+b)<η):sg b = -s:=by
 have h1:=ke (a+b)
 have h2:=dY (a+b)
 rcases bk a with ⟨k1,k2⟩|⟨k1,k2⟩|⟨k1,k2⟩<;>rcases bk b with ⟨m1,m2⟩|⟨m1,m2⟩|⟨m1,m2⟩<;>rcases cf a with c|c<;>first|(subst hs;simp[k2,m2];done)|(exfalso;grind)
theorem Kf{R L Q κ η ε u v:Rat}(hu:ab u≤R)(hv:ab v≤R)(rk:u≤v)(hQ:0≤Q)(hη:0<η)(hε:0<ε)(RJ:2*ε≤η)(RK:Q*(2*ε)<η)(hd:L*(v-u)≤ε){N:Nat}(hN:(Q+1)^N*η≤κ) :
  ∀(n:Nat) (r:List (List Rat)) (g:List Rat) (s:Int),r.length≤n→n≤N→(∀h∈r,lip h R≤L)→(s=1∨s = -1)→Ug ε u v g s→(∀x,u≤x→x≤v→LJ Q κ x (g::r))→Tp s (r.map (fun h=>(sg (evalL h u),sg (evalL h v))))
 |n,[],g,s,_,_,_,_,_,_ => .nil s
 |0,h::r,g,s,hn,_,_,_,_,_=>by simp at hn
 |n+1,h::r,g,s,hn,hnN,LK,hs,hg,hl=>by
  rw[List.length_cons] at hn
  have VM:∀x,u≤x→x≤v→LJ Q κ x (h::r):=fun x h1 h2=>by
   have:=hl x h1 h2
   cases r with
   |nil=>exact this
   |cons k r=>exact this.2
  have O6:∀x,u≤x→x≤v→η≤ab (evalL g x)∨η≤ab (evalL h x):=fun x h1 h2=>LJ.max hQ hη r g h N (hl x h1 h2) (by omega) hN
  rw[List.map_cons]
  rcases ss h hu hv rk (LK h (List.mem_cons_self ..)) hε hd with ⟨t,ht,hb⟩|zX
  ·rw[(hb u Rat.le_refl rk).1,(hb v rk Rat.le_refl).1]
   exact .same ht (Kf hu hv rk hQ hη hε RJ RK hd hN n r h t (by omega) (by omega) (fun k hk=>LK k (List.mem_cons_of_mem _ hk)) ht hb VM)
  ·cases r with
   |nil =>
    exfalso
    have h1:κ≤ab (evalL h u):=hl u Rat.le_refl rk
    have h2:=zX u Rat.le_refl rk
    have key:∀n:Nat,1≤(Q+1)^n:=by
     intro n
     induction n with
     |zero=>rw[Rat.pow_zero];exact Rat.le_refl
     |succ n ih =>
      rw[Rat.pow_succ]
      have:=Rat.mul_nonneg (show 0≤(Q+1)^n by grind) hQ
      grind
    have:=Rat.mul_le_mul_of_nonneg_right (key N) (Rat.le_of_lt hη)
    grind
   |cons k r =>
    rw[List.length_cons] at hn
    obtain⟨m,rfl⟩:∃m,n=m+1:=⟨n-1,by omega⟩
    have hk:Ug ε u v k (-s):=by
     intro x h1 h2
     obtain⟨e1,e2⟩:=hg x h1 h2
     have e3:=zX x h1 h2
     have e4:η≤ab (evalL g x):=by rcases O6 x h1 h2 with e|e;exact e;grind
     have e5:ab (evalL g x+evalL k x)≤Q*ab (evalL h x):=(hl x h1 h2).1
     have e6:=Rat.mul_le_mul_of_nonneg_left (Rat.le_of_lt e3) hQ
     have e7:η≤ab (evalL h x)∨η≤ab (evalL k x):=LJ.max hQ hη r h k N (VM x h1 h2) (by omega) hN
     refine⟨VL e4 e1 (by grind),?_⟩
     rcases e7 with e|e<;>grind
    rw[List.map_cons,(hk u Rat.le_refl rk).1,(hk v rk Rat.le_refl).1]
    refine .gJ hs (hJ _) (hJ _) (Kf hu hv rk hQ hη hε RJ RK hd hN m r k (-s) (by omega) (by omega) (fun k' JB=>LK k' (List.mem_cons_of_mem _ (List.mem_cons_of_mem _ JB))) (by omega) hk ?_)
    intro x h1 h2
    have:=VM x h1 h2
    cases r with
    |nil=>exact this
    |cons k' r=>exact this.2
def chainF:Nat→List Rat→List Rat→List (List Rat)
 |0,p,_=>[p]
 |n+1,p,d=>bif Nat.beq d.length 0 then [p] else p::chainF n d (aU (bn (-1) (a7 p d)))
def aG(p:List Rat):List (List Rat):=chainF (aM p).length (aM p) (ar (aM p))
theorem fc(n:Nat)(p:List Rat):chainF n p []=[p]:=by cases n<;>rfl
theorem eb{n:Nat}{p d:List Rat}(h:d≠[]):chainF (n+1) p d=p::chainF n d (aU (bn (-1) (a7 p d))):=by
 rw[chainF,eL.2 (fun e=>h (List.eq_nil_of_length_eq_zero e)),cond_false]
theorem w6(n:Nat)(p d:List Rat):∃r,chainF n p d=p::r:=by
 cases n with
 |zero=>exact⟨[],rfl⟩
 |succ n =>
  rw[chainF]
  cases Nat.beq d.length 0 with
  |true=>exact⟨[],rfl⟩
  |false=>exact⟨_,rfl⟩
theorem B9:∀(n:Nat) (p d:List Rat),(chainF n p d).length≤n+1
 |0,p,d=>by simp[chainF]
 |n+1,p,d=>by
  rw[chainF]
  cases Nat.beq d.length 0 with
  |true=>simp
  |false=>rw[cond_false,List.length_cons];have:=B9 n d (aU (bn (-1) (a7 p d)));omega
theorem LJ.mono{Q Q' κ κ' x:Rat}(hQ:Q≤Q')(hκ:κ'≤κ):∀(G:List (List Rat)),LJ Q κ x G→LJ Q' κ' x G
 |[],h=>h
 |[g],h=>Rat.le_trans hκ h
 |[g,k],h=>Rat.le_trans hκ h
 |g::h::k::r,hl=>⟨Rat.le_trans hl.1 (Rat.mul_le_mul_of_nonneg_right hQ (bJ _)),LJ.mono hQ hκ (h::k::r) hl.2⟩
theorem tJ{p d:List Rat}(hd:aJ d=false)(h0:d≠[])(x:Rat):evalL p x+evalL (aU (bn (-1) (a7 p d))) x=evalL (et p d).1 x*evalL d x:=by
 have h:evalL (et p d).1 x*evalL d x+evalL (a7 p d) x=evalL p x:=(eE p hd h0).2 x
 rw[da,bN];grind
theorem eM{p d:List Rat}(hd:aJ d=false)(h0:d≠[]):(aU (bn (-1) (a7 p d))).length<d.length:=by
 have h:=(eE p hd h0).1
 have h1:=lC (bn (-1) (a7 p d))
 rw[jY] at h1
 have:(a7 p d).length<d.length:=h
 omega
theorem Hx{p d:List Rat}(hd:aJ d=false)(h0:d≠[])(h:qF p d):qF d (aU (bn (-1) (a7 p d))):=by
 obtain⟨u,v,e⟩:=h
 refine⟨ft (mulL u (et p d).1) v,bn (-1) u,fun x => ?_⟩
 have h1:=e x
 have h2:=tJ (p:=p) hd h0 x
 have h3:evalL p x=evalL (et p d).1 x*evalL d x-evalL (aU (bn (-1) (a7 p d))) x:=by grind
 rw[cu,aO,bN]
 rw[h3] at h1
 grind
theorem Hy{p d:List Rat}(hd:aJ d=false)(h0:d≠[])(h:qF p d)(hr:aU (bn (-1) (a7 p d))=[]):∃c,d=[c]∧c≠0:=by
 obtain⟨u,v,e⟩:=h
 have FD:Dv d [1]:=⟨ft (mulL u (et p d).1) v,fun x=>by
  have h1:=e x
  have h2:=tJ (p:=p) hd h0 x
  rw[hr] at h2
  have h2:evalL p x+0=evalL (et p d).1 x*evalL d x:=h2
  rw[fL,cu,aO]
  have h3:evalL p x=evalL (et p d).1 x*evalL d x:=by grind
  rw[h3] at h1
  grind⟩
 obtain⟨g1,g2⟩:=FD.len hd rfl (by simp)
 have g2:d.length≤1:=g2
 match d,g1,g2 with
 |[c],g1,_=>exact⟨c,rfl,eH hd g1⟩
theorem Hz{R:Rat}(hR:0≤R):∀(n:Nat) (p d:List Rat),aJ p=false→aJ d=false→d≠[]→qF p d→d.length<n+1→∃Q κ,0≤Q∧0<κ∧∀x,ab x≤R→LJ Q κ x (chainF n p d)
 |0,p,d,_,_,h0,_,hl=>absurd (List.eq_nil_of_length_eq_zero (by omega)) h0
 |n+1,p,d,hp,hd,h0,hc,hl=>by
  rw[eb h0]
  by_cases hr:aU (bn (-1) (a7 p d))=[]
  ·obtain⟨c,rfl,FX⟩:=Hy hd h0 hc hr
   rw[hr,fc]
   refine⟨0,ab c,Rat.le_refl,B8 FX,fun x _ => ?_⟩
   show ab c≤ab (evalL [c] x)
   rw[fL];exact Rat.le_refl
  ·have hln:=eM (p:=p) hd h0
   obtain⟨Q,κ,h1,h2,h3⟩:=Hz hR n d (aU (bn (-1) (a7 p d))) hd (bj _) hr (Hx hd h0 hc) (by omega)
   have hn:=pE hR (et p d).1
   refine⟨Q+nrm (et p d).1 R,κ,by grind,h2,fun x hx => ?_⟩
   have h4:=(h3 x hx).mono (show Q≤Q+nrm (et p d).1 R by grind) (Rat.le_refl (a:=κ))
   obtain⟨m,rfl⟩:∃m,n=m+1:=⟨n-1,by
    have:=List.length_pos_iff.2 hr
    omega⟩
   rw[eb hr] at h4 ⊢
   obtain⟨r,e⟩:=w6 m (aU (bn (-1) (a7 p d))) (aU (bn (-1) (a7 d (aU (bn (-1) (a7 p d))))))
   rw[e] at h4 ⊢
   refine⟨?_,h4⟩
   rw[tJ hd h0,fQ]
   have h5:=kc hx (et p d).1
   exact Rat.mul_le_mul_of_nonneg_right (by grind) (bJ _)
def lipA(R:Rat):List (List Rat)→Rat
 |[]=>0
 |g::r=>lip g R+lipA R r
theorem As{R:Rat}(hR:0≤R):∀G,0≤lipA R G
 |[]=>Rat.le_refl
 |g::r=>by
  have h1:=gK hR g
  have h2:=As hR r
  rw[lipA];grind
theorem RL{R:Rat}(hR:0≤R):∀(G:List (List Rat)) (g:List Rat),g∈G→lip g R≤lipA R G
 |[],g,h=>by cases h
 |a::r,g,h=>by
  have h1:=gK hR a
  have h2:=As hR r
  rw[lipA]
  rcases List.mem_cons.1 h with e|h
  ·rw[e];grind
  ·have:=RL hR r g h
   grind
def Loc(f:List Rat)(G:List (List Rat))(ε u v:Rat):Prop :=
 ((∃s,(s=1∨s = -1)∧Ug ε u v f s)∧fR G u=fR G v) ∨
 (∃s:Int,(s=1∨s = -1)∧(∀x y,u≤x→x<y→y≤v→0<(s:Rat)*(evalL f y-evalL f x))∧fR G u+(if sg (evalL f v) = -s then 1 else 0)=fR G v+(if sg (evalL f u) = -s then 1 else 0))
theorem OJ{R ε δ u v:Rat}{f:List Rat}{s:Int}(hu:ab u≤R)(hv:ab v≤R)(hs:s=1∨s = -1)(hb:Ug ε u v (ar f) s)(hε:0<ε)(hd:sec f R*(v-u)<ε):∀x y,u≤x→x<y→y≤v→0<(s:Rat)*(evalL f y-evalL f x):=by
 intro x y h1 h2 h3
 have hx:=a8 (x:=x) h1 (by grind) hu hv
 have hy:=a8 (x:=y) (by grind) h3 hu hv
 have hR:=Rat.le_trans (bJ u) hu
 have t:=Nc x y f
 have ht:=Nd hx hy f
 obtain⟨b1,b2⟩:=hb x h1 (by grind)
 rw[dW] at b1 b2
 have hw:ab ((y-x)*OH x y f)<ε:=by
  rw[fQ]
  have e:ab (y-x)=y-x:=by rcases cf (y-x) with h|h<;>grind
  rw[e]
  have h4:=cM (show y-x≤v-u by grind) ht (by grind) (tt hR f)
  grind
 have e:evalL f y-evalL f x=(y-x)*(dEv f x+(y-x)*OH x y f):=by rw[t];grind
 rw[e]
 have w1:=ke ((y-x)*OH x y f)
 have w2:=dY ((y-x)*OH x y f)
 have Nf:0<(s:Rat)*(dEv f x+(y-x)*OH x y f):=by
  rcases hs with rfl|rfl
  ·rcases bk (dEv f x) with ⟨k1,k2⟩|⟨k1,k2⟩|⟨k1,k2⟩
   ·rw[k2] at b1;cases b1
   ·rw[k2] at b1;cases b1
   ·have:(((1:Int):Rat))=1:=rfl
    rw[this,Rat.one_mul]
    rcases cf (dEv f x) with c|c<;>grind
  ·rcases bk (dEv f x) with ⟨k1,k2⟩|⟨k1,k2⟩|⟨k1,k2⟩
   ·have:(((-1:Int):Rat)) = -1:=rfl
    rw[this]
    rcases cf (dEv f x) with c|c<;>grind
   ·rw[k2] at b1;cases b1
   ·rw[k2] at b1;cases b1
 have:=Rat.mul_pos (show 0<y-x by grind) Nf
 grind
theorem VN{ε u v:Rat}{f:List Rat}{r:List (List Rat)}{s:Int}(hb:Ug ε u v f s)(rk:u≤v)(hp:Tp s (r.map (fun h=>(sg (evalL h u),sg (evalL h v))))):varS 0 (sg (evalL f u)::r.map (fun g=>sg (evalL g u)))=varS 0 (sg (evalL f v)::r.map (fun g=>sg (evalL g v))):=by
 have e:=hp.eq
 rw[List.map_map,List.map_map] at e
 have e:varS s (r.map (fun h=>sg (evalL h u)))=varS s (r.map (fun h=>sg (evalL h v))):=e
 rw[(hb u Rat.le_refl rk).1,(hb v rk Rat.le_refl).1,varS,varS,e]
 split
 ·have e2:s=0:=by assumption
  rw[e2] at e;rw[e]
 ·rfl
theorem RM{s a b:Int}{l m:List Int}(hs:s=1∨s = -1)(ha:a=0∨a=1∨a = -1)(hb:b=0∨b=1∨b = -1)(e:varS s l=varS s m):varS 0 (a::s::l)+(if b = -s then 1 else 0)=varS 0 (b::s::m)+(if a = -s then 1 else 0):=by
 rcases hs with rfl|rfl<;>rcases ha with rfl|rfl|rfl<;>rcases hb with rfl|rfl|rfl<;>simp[varS,e]<;>omega
theorem VO{R Q κ η ε:Rat}{f:List Rat}{n:Nat}(h2:ar f≠[])(hR:0≤R)(hQ:0≤Q)(hη:0<η)(hε:0<ε)(RJ:2*ε≤η)(RK:Q*(2*ε)<η)(hN:(Q+1)^(n+1)*η≤κ)
  (hl:∀x,ab x≤R→LJ Q κ x (chainF (n+1) f (ar f))) {u v:Rat} (hu:ab u≤R) (hv:ab v≤R) (rk:u≤v) (AI:lipA R (chainF (n+1) f (ar f))*(v-u)≤ε) (DL:sec f R*(v-u)<ε):Loc f (chainF (n+1) f (ar f)) ε u v:=by
 have hlen:=B9 n (ar f) (aU (bn (-1) (a7 f (ar f))))
 rw[eb h2] at hl AI ⊢
 obtain⟨r,e⟩:=w6 n (ar f) (aU (bn (-1) (a7 f (ar f))))
 rw[e] at hl AI hlen ⊢
 rw[List.length_cons] at hlen
 have LK:=RL hR (f::ar f::r)
 have Sy:∀x,u≤x→x≤v→LJ Q κ x (f::ar f::r):=fun x h1 h2=>hl x (a8 h1 h2 hu hv)
 rcases ss f hu hv rk (LK f (List.mem_cons_self ..)) hε AI with ⟨s,hs,hb⟩|zX
 ·left
  refine⟨⟨s,hs,hb⟩,?_⟩
  have:=Kf hu hv rk hQ hη hε RJ RK AI hN (n+1) (ar f::r) f s (by rw[List.length_cons];omega) (Nat.le_refl _) (fun h hh=>LK h (List.mem_cons_of_mem _ hh)) hs hb Sy
  exact VN hb rk this
 ·right
  rcases ss (ar f) hu hv rk (LK (ar f) (List.mem_cons_of_mem _ (List.mem_cons_self ..))) hε AI with ⟨s,hs,hb⟩|VP
  ·refine⟨s,hs,OJ (δ:=0) hu hv hs hb hε DL,?_⟩
   have hp:=Kf hu hv rk hQ hη hε RJ RK AI hN (n+1) r (ar f) s (by omega) (Nat.le_refl _) (fun h hh=>LK h (List.mem_cons_of_mem _ (List.mem_cons_of_mem _ hh))) hs hb (fun x h1 h2=>by
    have:=Sy x h1 h2
    cases r with
    |nil=>exact this
    |cons k r=>exact this.2)
   have e1:=hp.eq
   rw[List.map_map,List.map_map] at e1
   have e1:varS s (r.map (fun h=>sg (evalL h u)))=varS s (r.map (fun h=>sg (evalL h v))):=e1
   show varS 0 (sg (evalL f u)::sg (evalL (ar f) u)::r.map (fun g=>sg (evalL g u)))+_=varS 0 (sg (evalL f v)::sg (evalL (ar f) v)::r.map (fun g=>sg (evalL g v)))+_
   rw[(hb u Rat.le_refl rk).1,(hb v rk Rat.le_refl).1]
   exact RM hs (hJ _) (hJ _) e1
  ·exfalso
   have h3:=zX u Rat.le_refl rk
   have h4:=VP u Rat.le_refl rk
   rcases LJ.max hQ hη r f (ar f) (n+1) (Sy u Rat.le_refl rk) (by omega) hN with h|h<;>grind
theorem LL{a:Rat}(h:0<a):∀n:Nat,0<a^n
 |0=>by rw[Rat.pow_zero];decide
 |n+1=>by rw[Rat.pow_succ];exact Rat.mul_pos (LL h n) h
theorem mv{a b:Rat}(ha:0<a)(hb:0<b):0<a/b:=by
 refine Rat.not_le.1 fun h => ?_
 have h1:=Rat.mul_nonneg (show 0 ≤ -(a/b) by grind) (Rat.le_of_lt hb)
 have h2:=Rat.div_mul_cancel (a:=a) (b:=b) (by grind)
 grind
theorem yX{f:List Rat}{R:Rat}(hz:aJ f=false)(h2:ar f≠[])(hf:f≠[])(hc:qF f (ar f))(hR:0≤R):∃δ ε,0<δ∧0<ε∧∀u v,ab u≤R→ab v≤R→u≤v→v-u≤δ→Loc f (chainF f.length f (ar f)) ε u v:=by
 have bH:=jB hf
 obtain⟨n,hn⟩:∃n,f.length=n+1:=⟨f.length-1,by have:=List.length_pos_iff.2 hf;omega⟩
 rw[hn]
 obtain⟨Q,κ,hQ,hκ,hl⟩:=Hz hR (n+1) f (ar f) hz (bc f) h2 hc (by omega)
 have hp:=LL (show 0<Q+1 by grind) (n+1)
 have hη:=mv hκ hp
 have aa4:=Rat.div_mul_cancel (a:=κ) (b:=(Q+1)^(n+1)) (by grind)
 generalize κ/(Q+1)^(n+1)=η at hη aa4
 have hε:=mv hη (show 0<2*(Q+2) by grind)
 have Tq:=Rat.div_mul_cancel (a:=η) (b:=2*(Q+2)) (by grind)
 generalize η/(2*(Q+2))=ε at hε Tq
 have abm:=Rat.mul_nonneg hQ (Rat.le_of_lt hε)
 have hL:=As hR (chainF (n+1) f (ar f))
 have hS:=tt hR f
 have hδ:=mv hε (show 0<lipA R (chainF (n+1) f (ar f))+sec f R+1 by grind)
 have RN:=Rat.div_mul_cancel (a:=ε) (b:=lipA R (chainF (n+1) f (ar f))+sec f R+1) (by grind)
 generalize ε/(lipA R (chainF (n+1) f (ar f))+sec f R+1)=δ at hδ RN
 refine⟨δ,ε,hδ,hε,fun u v hu hv rk hw => ?_⟩
 have w1:=Rat.mul_le_mul_of_nonneg_left hw hL
 have w2:=Rat.mul_le_mul_of_nonneg_left hw hS
 have w3:=Rat.mul_nonneg hL (Rat.le_of_lt hδ)
 have w4:=Rat.mul_nonneg hS (Rat.le_of_lt hδ)
 exact VO h2 hR hQ hη hε (by grind) (by grind) (by grind) hl hu hv rk (by grind) (by grind)
theorem Es{P:Rat→Rat→Prop}{a b δ:Rat}(hδ:0<δ)(dK:a≤b)(hs:∀u v,a≤u→u≤v→v≤b→v-u≤δ→P u v)(ht:∀u v w,a≤u→u≤v→v≤w→w≤b→P u v→P v w→P u w):P a b:=by
 have key:∀(n:Nat) (c:Rat),a≤c→c≤b→c-a≤((n:Int):Rat)*δ→P a c:=by
  intro n
  induction n with
  |zero =>
   intro c h1 h2 h3
   have:(((0:Nat):Int):Rat)=0:=rfl
   rw[this,Rat.zero_mul] at h3
   exact hs a c Rat.le_refl h1 h2 (by grind)
  |succ n ih =>
   intro c h1 h2 h3
   have e:(((n+1:Nat):Int):Rat)=((n:Int):Rat)+1:=by simp
   rw[e] at h3
   by_cases h:c-δ≤a
   ·exact hs a c Rat.le_refl h1 h2 (by grind)
   ·have:=ih (c-δ) (by grind) (by grind) (by grind)
    exact ht a (c-δ) c Rat.le_refl (by grind) (by grind) h2 this (hs (c-δ) c (by grind) (by grind) h2 (by grind))
 have hx:=Rat.lt_floor_add_one ((b-a)/δ)
 have he:=Rat.div_mul_cancel (a:=b-a) (b:=δ) (by grind)
 have FH:0≤((b-a)/δ).floor:=by
  refine Rat.le_floor_iff.2 ?_
  show(0:Rat)≤_
  refine Rat.not_lt.1 fun h => ?_
  have:=Rat.mul_pos (show 0 < -((b-a)/δ) by grind) hδ
  grind
 obtain⟨n,hn⟩:∃n:Nat,((b-a)/δ).floor+1=(n:Int):=⟨(((b-a)/δ).floor+1).toNat,by omega⟩
 rw[hn] at hx
 refine key n b dK Rat.le_refl ?_
 have:=Rat.mul_le_mul_of_nonneg_right (Rat.le_of_lt hx) (Rat.le_of_lt hδ)
 grind
def Pos(p:List Rat)(lo hi:Rat):Prop:=∃c,0<c∧∀x,lo≤x→x≤hi→c≤evalL p x
def o6(p:List Rat)(lo hi:Rat):Prop:=∃c,0<c∧∀x,lo≤x→x≤hi→c≤ab (evalL p x)
theorem o6.join{p:List Rat}{a b c:Rat}(h:o6 p a b)(k:o6 p b c):o6 p a c:=by
 obtain⟨x,x1,x2⟩:=h
 obtain⟨y,y1,y2⟩:=k
 refine⟨eZ x y,?_,fun z z1 z2 => ?_⟩
 ·unfold eZ;split<;>assumption
 ·by_cases hz:z≤b
  ·exact Rat.le_trans (jb x y) (x2 z z1 hz)
  ·exact Rat.le_trans (jc x y) (y2 z (by grind) z2)
theorem o6.ne{p:List Rat}{a b x:Rat}(h:o6 p a b)(h1:a≤x)(h2:x≤b):evalL p x≠0:=by
 obtain⟨c,c1,c2⟩:=h
 intro e
 have:=c2 x h1 h2
 rw[e,sr] at this
 grind
theorem o6.sub{p:List Rat}{a b u v:Rat}(h:o6 p a b)(h1:a≤u)(h2:v≤b):o6 p u v:=by
 obtain⟨c,c1,c2⟩:=h
 exact⟨c,c1,fun x x1 x2=>c2 x (Rat.le_trans h1 x1) (Rat.le_trans x2 h2)⟩
theorem Loc.XJ{f:List Rat}{G:List (List Rat)}{ε u v:Rat}(h:Loc f G ε u v)(rk:u≤v):fR G v≤fR G u:=by
 rcases h with ⟨_,e⟩|⟨s,hs,hm,e⟩
 ·rw[e];exact Int.le_refl _
 ·by_cases hv:sg (evalL f v) = -s
  ·by_cases hu:sg (evalL f u) = -s
   ·rw[if_pos hv,if_pos hu] at e;omega
   ·exfalso
    by_cases he:u=v
    ·rw[he] at hu;exact hu hv
    ·have:=hm u v Rat.le_refl (by grind) Rat.le_refl
     rcases hs with rfl|rfl
     ·have e1:(((1:Int):Rat))=1:=rfl
      rw[e1] at this
      rcases bk (evalL f u) with ⟨k1,k2⟩|⟨k1,k2⟩|⟨k1,k2⟩<;>rcases bk (evalL f v) with ⟨m1,m2⟩|⟨m1,m2⟩|⟨m1,m2⟩<;>first|(exfalso;grind)|(exact hu k2)|(rw [m2] at hv;cases hv)
     ·have e1:(((-1:Int):Rat)) = -1:=rfl
      rw[e1] at this
      rcases bk (evalL f u) with ⟨k1,k2⟩|⟨k1,k2⟩|⟨k1,k2⟩<;>rcases bk (evalL f v) with ⟨m1,m2⟩|⟨m1,m2⟩|⟨m1,m2⟩<;>first|(exfalso;grind)|(exact hu k2)|(rw [m2] at hv;cases hv)
  ·rw[if_neg hv] at e
   split at e<;>omega
theorem Loc.aa5{f:List Rat}{G:List (List Rat)}{ε u v:Rat}(h:Loc f G ε u v)(hε:0<ε)(rk:u≤v)(hc:fR G u=fR G v)(h0:evalL f u≠0):evalL f v≠0∧o6 f u v:=by
 rcases h with ⟨⟨s,hs,hb⟩,_⟩|⟨s,hs,hm,e⟩
 ·have ha:o6 f u v:=⟨ε,hε,fun x x1 x2=>(hb x x1 x2).2⟩
  exact⟨ha.ne rk Rat.le_refl,ha⟩
 ·rw[hc] at e
  have e:(sg (evalL f v) = -s↔sg (evalL f u) = -s):=by
   constructor
   ·intro h
    rw[if_pos h] at e
    refine Classical.byContradiction fun k => ?_
    rw[if_neg k] at e;omega
   ·intro h
    rw[if_pos h] at e
    refine Classical.byContradiction fun k => ?_
    rw[if_neg k] at e;omega
  have s1:(((1:Int):Rat))=1:=rfl
  have s2:(((-1:Int):Rat)) = -1:=rfl
  have mon:∀x y,u≤x→x≤y→y≤v→0≤(s:Rat)*(evalL f y-evalL f x):=by
   intro x y h1 h2 h3
   by_cases Hw:x=y
   ·rw[Hw];grind
   ·exact Rat.le_of_lt (hm x y h1 (by grind) h3)
  have ha:o6 f u v:=by
   by_cases An:sg (evalL f u) = -s
   ·
    have Iw:=e.2 An
    refine⟨ab (evalL f v),B8 ?_,fun x x1 x2 => ?_⟩
    ·intro h
     rw[h] at Iw
     rcases hs with rfl|rfl
     ·cases Iw
     ·cases Iw
    ·have:=mon x v x1 x2 Rat.le_refl
     rcases hs with rfl|rfl
     ·rw[s1] at this
      rcases bk (evalL f v) with ⟨m1,m2⟩|⟨m1,m2⟩|⟨m1,m2⟩
      ·rcases cf (evalL f v) with c|c<;>rcases cf (evalL f x) with d|d<;>grind
      ·rw[m2] at Iw;cases Iw
      ·rw[m2] at Iw;cases Iw
     ·rw[s2] at this
      rcases bk (evalL f v) with ⟨m1,m2⟩|⟨m1,m2⟩|⟨m1,m2⟩
      ·rw[m2] at Iw;cases Iw
      ·rw[m2] at Iw;cases Iw
      ·rcases cf (evalL f v) with c|c<;>rcases cf (evalL f x) with d|d<;>grind
   ·refine⟨ab (evalL f u),B8 h0,fun x x1 x2 => ?_⟩
    have:=mon u x Rat.le_refl x1 x2
    rcases hs with rfl|rfl
    ·rw[s1] at this
     rcases bk (evalL f u) with ⟨m1,m2⟩|⟨m1,m2⟩|⟨m1,m2⟩
     ·exact absurd m2 An
     ·exact absurd m1 h0
     ·rcases cf (evalL f u) with c|c<;>rcases cf (evalL f x) with d|d<;>grind
    ·rw[s2] at this
     rcases bk (evalL f u) with ⟨m1,m2⟩|⟨m1,m2⟩|⟨m1,m2⟩
     ·rcases cf (evalL f u) with c|c<;>rcases cf (evalL f x) with d|d<;>grind
     ·exact absurd m1 h0
     ·exact absurd m2 An
  exact⟨ha.ne rk Rat.le_refl,ha⟩
theorem Loc.aP{f:List Rat}{G:List (List Rat)}{ε u v c R:Rat}(h:Loc f G ε u v)(rk:u≤v)(hu:ab u≤R)(hv:ab v≤R)(hc:0<c)(ha:∀x,u≤x→x≤v→c≤ab (evalL f x))(hd:lip f R*(v-u)<c):fR G u=fR G v:=by
 rcases h with ⟨_,e⟩|⟨s,hs,hm,e⟩
 ·exact e
 ·have d:=w5 hv hu f
  have e1:ab (v-u)=v-u:=by rcases cf (v-u) with h|h<;>grind
  rw[e1] at d
  have d1:=ke (evalL f v-evalL f u)
  have d2:=dY (evalL f v-evalL f u)
  have a1:=ha u Rat.le_refl rk
  have a2:=ha v rk Rat.le_refl
  have es:sg (evalL f u)=sg (evalL f v):=by
   rcases bk (evalL f u) with ⟨k1,k2⟩|⟨k1,k2⟩|⟨k1,k2⟩<;>rcases bk (evalL f v) with ⟨m1,m2⟩|⟨m1,m2⟩|⟨m1,m2⟩<;>rcases cf (evalL f u) with c1|c1<;>rcases cf (evalL f v) with c2|c2<;>first|(exfalso;grind)|(rw [k2,m2];done)
  rw[es] at e
  omega
section
variable {f:List Rat} {R:Rat}
theorem w7{a b:Rat} : ∃R,0≤R∧ab a≤R∧ab b≤R:=by
 refine⟨ab a+ab b,?_,?_,?_⟩
 ·have:=bJ a;have:=bJ b;grind
 ·have:=bJ b;grind
 ·have:=bJ a;grind
theorem nE(h:ar f=[])(x:Rat):fR (chainF f.length f (ar f)) x=0:=by
 rw[h,fc]
 show varS 0 [sg (evalL f x)]=0
 rcases hJ (evalL f x) with e|e|e<;>rw[e]<;>rfl
theorem yY(hz:aJ f=false)(hf:f≠[])(h:ar f=[]):∃c,f=[c]∧c≠0:=by
 match f,hf with
 |[c],_=>exact⟨c,rfl,eH hz (by simp)⟩
 |a::b::r,_ =>
  exfalso
  have key:∀i,coef (ld 1 ((a::b::r).drop 1)) i=0:=by
   intro i
   have e2:aU (ld 1 ((a::b::r).drop 1))=[]:=h
   rw[←dV,e2,pB]
  have AM:∀(q:List Rat) (i j:Nat),coef (ld i q) j=((i+j:Nat):Int)*coef q j:=by
   intro q
   induction q with
   |nil=>intro i j;show(0:Rat)=_*0;rw[Rat.mul_zero]
   |cons a q ih =>
    intro i j
    cases j with
    |zero=>rfl
    |succ j=>rw[ld,iD,iD,ih (i+1) j,show i+1+j=i+(j+1) from by omega]
  have hk:=key r.length
  rw[AM] at hk
  have ht:=eH hz (by simp)
  have e:cb (a::b::r)=coef ((a::b::r).drop 1) r.length:=by
   unfold cb
   rw[show (a::b::r).length-1=r.length+1 from by simp];rfl
  rw[←e] at hk
  rcases Rat.mul_eq_zero.1 hk with h|h
  ·have:=Rat.intCast_inj.1 (show (((1+r.length:Nat):Int):Rat)=((0:Int):Rat) from h)
   omega
  ·exact ht h
theorem kE(hz:aJ f=false)(hf:f≠[])(hc:qF f (ar f)){a b:Rat}(dK:a≤b):fR (chainF f.length f (ar f)) b≤fR (chainF f.length f (ar f)) a:=by
 by_cases h2:ar f=[]
 ·rw[nE h2,nE h2];exact Int.le_refl _
 ·obtain⟨R,hR,ha,hb⟩:=w7 (a:=a) (b:=b)
  obtain⟨δ,ε,hδ,hε,hl⟩:=yX hz h2 hf hc hR
  exact Es (P:=fun u v=>fR (chainF f.length f (ar f)) v≤fR (chainF f.length f (ar f)) u) hδ dK
   (fun u v h1 h3 h4 h5=>(hl u v (a8 h1 (by grind) ha hb) (a8 (by grind) h4 ha hb) h3 h5).XJ h3)
   (fun u v w _ _ _ _ h1 h3=>Int.le_trans h3 h1)
theorem ou(hz:aJ f=false)(hf:f≠[])(hc:qF f (ar f)){a b:Rat}(dK:a≤b)(he:fR (chainF f.length f (ar f)) a=fR (chainF f.length f (ar f)) b)(h0:evalL f a≠0):o6 f a b:=by
 by_cases h2:ar f=[]
 ·obtain⟨c,rfl,FX⟩:=yY hz hf h2
  exact⟨ab c,B8 FX,fun x _ _=>by rw[fL];exact Rat.le_refl⟩
 ·obtain⟨R,hR,ha,hb⟩:=w7 (a:=a) (b:=b)
  obtain⟨δ,ε,hδ,hε,hl⟩:=yX hz h2 hf hc hR
  have:=Es (P:=fun u v=>fR (chainF f.length f (ar f)) v≤fR (chainF f.length f (ar f)) u∧(fR (chainF f.length f (ar f)) u=fR (chainF f.length f (ar f)) v→evalL f u≠0→evalL f v≠0∧o6 f u v)) hδ dK
   (fun u v h1 h3 h4 h5=>by
    have:=hl u v (a8 h1 (by grind) ha hb) (a8 (by grind) h4 ha hb) h3 h5
    exact⟨this.XJ h3,this.aa5 hε h3⟩)
   (fun u v w _ _ _ _ h1 h3=>by
    refine⟨Int.le_trans h3.1 h1.1,fun e n => ?_⟩
    have i1:=h1.1
    have i2:=h3.1
    obtain⟨m1,m2⟩:=h1.2 (by omega) n
    obtain⟨m3,m4⟩:=h3.2 (by omega) m1
    exact⟨m3,m2.join m4⟩)
  exact(this.2 he h0).2
theorem Dw(hz:aJ f=false)(hf:f≠[])(hc:qF f (ar f)){a b:Rat}(dK:a≤b)(h:o6 f a b):fR (chainF f.length f (ar f)) a=fR (chainF f.length f (ar f)) b:=by
 by_cases h2:ar f=[]
 ·rw[nE h2,nE h2]
 ·obtain⟨R,hR,ha,hb⟩:=w7 (a:=a) (b:=b)
  obtain⟨δ,ε,hδ,hε,hl⟩:=yX hz h2 hf hc hR
  obtain⟨c,c1,c2⟩:=h
  have hL:=gK hR f
  have aa6:=mv c1 (show 0<lip f R+1 by grind)
  have RN:=Rat.div_mul_cancel (a:=c) (b:=lip f R+1) (by grind)
  generalize c/(lip f R+1)=δ2 at aa6 RN
  exact Es (P:=fun u v=>fR (chainF f.length f (ar f)) u=fR (chainF f.length f (ar f)) v) (δ:=eZ δ δ2) (by unfold eZ;split<;>assumption) dK
   (fun u v h1 h3 h4 h5=>by
    have hu:=a8 h1 (show u≤b by grind) ha hb
    have hv:=a8 (show a≤v by grind) h4 ha hb
    have w1:=Rat.le_trans h5 (jb δ δ2)
    have w2:=Rat.le_trans h5 (jc δ δ2)
    have w3:=Rat.mul_le_mul_of_nonneg_left w2 hL
    exact(hl u v hu hv h3 w1).aP h3 hu hv c1 (fun x x1 x2=>c2 x (Rat.le_trans h1 x1) (Rat.le_trans x2 h4)) (by grind))
   (fun u v w _ _ _ _ h1 h3=>h1.trans h3)
end
theorem xW{f:List Rat}{a b:Rat}(h:o6 f a b):∀k,o6 (mu f k) a b
 |0=>⟨1,by decide,fun x _ _=>by rw[mu,fL];decide⟩
 |k+1=>by
  obtain⟨c,c1,c2⟩:=xW h k
  obtain⟨d,d1,d2⟩:=h
  refine⟨c*d,Rat.mul_pos c1 d1,fun x x1 x2 => ?_⟩
  rw[mu,aO,fQ]
  exact cM (c2 x x1 x2) (d2 x x1 x2) (Rat.le_of_lt c1) (bJ _)
theorem yZ{p q:List Rat}{a b:Rat}(h:o6 q a b)(hd:Dv p q):o6 p a b:=by
 obtain⟨u,hu⟩:=hd
 obtain⟨c,c1,c2⟩:=h
 obtain⟨R,hR,ha,hb⟩:=w7 (a:=a) (b:=b)
 have hn:=pE hR u
 have hδ:=mv c1 (show 0<nrm u R+1 by grind)
 have he:=Rat.div_mul_cancel (a:=c) (b:=nrm u R+1) (by grind)
 generalize c/(nrm u R+1)=d at hδ he
 refine⟨d,hδ,fun x x1 x2 => ?_⟩
 have h1:=c2 x x1 x2
 rw[hu,fQ] at h1
 have h2:=kc (a8 x1 x2 ha hb) u
 have h3:=Rat.mul_le_mul_of_nonneg_right h2 (bJ (evalL p x))
 have h4:=bJ (evalL p x)
 refine Rat.not_lt.1 fun bH => ?_
 have h5:=Rat.mul_le_mul_of_nonneg_left (Rat.le_of_lt bH) hn
 grind
theorem E8{p:List Rat}{a b:Rat}(dK:a≤b)(h:o6 p a b)(h0:0<evalL p a):Pos p a b:=by
 obtain⟨c,c1,c2⟩:=h
 obtain⟨R,hR,ha,hb⟩:=w7 (a:=a) (b:=b)
 have hL:=gK hR p
 have hδ:=mv c1 (show 0<lip p R+1 by grind)
 have RN:=Rat.div_mul_cancel (a:=c) (b:=lip p R+1) (by grind)
 generalize c/(lip p R+1)=δ at hδ RN
 have key:=Es (P:=fun u v=>0<evalL p u→∀x,u≤x→x≤v→0<evalL p x) hδ dK
  (fun u v h1 h3 h4 h5 hp x x1 x2=>by
   have hu:=a8 h1 (show u≤b by grind) ha hb
   have hx:=a8 (show a≤x by grind) (show x≤b by grind) ha hb
   have d:=w5 hu hx p
   have e1:ab (u-x)=x-u:=by rcases cf (u-x) with h|h<;>grind
   rw[e1] at d
   have w:=Rat.mul_le_mul_of_nonneg_left (show x-u≤δ by grind) hL
   have d1:=ke (evalL p u-evalL p x)
   have a1:=c2 u (by grind) (by grind)
   have a2:=c2 x (by grind) (by grind)
   rcases cf (evalL p u) with k|k<;>rcases cf (evalL p x) with m|m<;>grind)
  (fun u v w h1 h2 h3 h4 hp hq h5 x x1 x2=>by
   by_cases hx:x≤v
   ·exact hp h5 x x1 hx
   ·exact hq (hp h5 v h2 Rat.le_refl) x (by grind) x2)
 refine⟨c,c1,fun x x1 x2 => ?_⟩
 have h1:=key h0 x x1 x2
 have h2:=c2 x x1 x2
 rcases cf (evalL p x) with m|m<;>grind
theorem free_spec{p:List Rat}(hz:aJ p=false)(h0:p≠[]):aJ (aM p)=false∧aM p≠[]∧qF (aM p) (ar (aM p))∧Dv (aM p) p∧∃k,k≤p.length∧Dv p (mu (aM p) k):=by
 obtain⟨w,s⟩:=XI hz h0
 have hm:=bO (et p (bF p (ar p))).1
 have dk:=nh s.zf s.f0
 have d1:=Hu s.zf
 have d2:=RF (et p (bF p (ar p))).1
 have e:aM p=cr (et p (bF p (ar p))).1:=rfl
 rw[e]
 refine⟨hm,dk,?_,?_,?_⟩
 ·have hc:=s.free
  obtain⟨u,v,h⟩:=hc
  have ht:=eH s.zf s.f0
  refine⟨bn (cb (et p (bF p (ar p))).1) u,bn (cb (et p (bF p (ar p))).1) v,fun x => ?_⟩
  have h1:=h x
  have hd:∀x,dEv (cr (et p (bF p (ar p))).1) x=1/cb (et p (bF p (ar p))).1*dEv (et p (bF p (ar p))).1 x:=by
   intro x
   rw[oE (q:=bn (1/cb (et p (bF p (ar p))).1) (et p (bF p (ar p))).1) (fun x=>by rw[nD,bN]) x,Hv]
  rw[dW] at h1
  rw[bN,bN,nD,dW,hd]
  have h2:=Rat.div_mul_cancel (a:=1) ht
  grind
 ·refine d1.trans ⟨bF p (ar p),fun x=>by rw[s.pe];grind⟩
 ·have Ge:=s.all
  have CB:(bF p (ar p)).length+1≤p.length+1:=by
   have:=((gR p (ar p) hz (bc p)).1.len (gD _ _) hz h0).2
   omega
  have pw:∀k,Dv (mu (et p (bF p (ar p))).1 k) (mu (cr (et p (bF p (ar p))).1) k):=by
   intro k
   induction k with
   |zero=>exact Dv.refl _
   |succ k ih =>
    obtain⟨a,ha⟩:=ih
    obtain⟨b,hb⟩:=d2
    exact⟨mulL a b,fun x=>by
     show evalL (mulL _ _) x=_*evalL (mulL _ _) x
     rw[aO,aO,aO,ha,hb];grind⟩
  by_cases hd0:ar p=[]
  ·
   obtain⟨c,rfl,FX⟩:=yY hz h0 hd0
   refine⟨0,by simp,[1/c],fun x => ?_⟩
   show evalL [1] x=_
   rw[fL,fL,fL,Rat.div_mul_cancel FX]
  ·have hgd:=((gR p (ar p) hz (bc p)).2.len (gD _ _) (bc p) hd0).2
   have Tl:=jB h0
   exact⟨(bF p (ar p)).length+1,by omega,Ge.trans (pw _)⟩
end Go.Proofs.YtllmkadmohkbfaaGreatDoor.Sym
namespace Go.Proofs.YtllmkadmohkbfaaGreatDoor.Sym
open Go Path dE
set_option linter.unusedVariables false
def Au:Int→List Int→Int
 |s,[]=>s
 |s,a::r=>if a=0 then Au s r else Au a r
theorem Et:∀(l:List Int) (s:Int),(s=1∨s = -1)→(∀a∈l,a=0∨a=1∨a = -1)→(Au s l=s∧varS s l%2=0)∨(Au s l = -s∧varS s l%2=1)
 |[],s,_,_=>Or.inl ⟨rfl,rfl⟩
 |a::r,s,hs,h=>by
  have ha:=h a (List.mem_cons_self ..)
  rw[Au,varS]
  by_cases h0:a=0
  ·rw[if_pos h0,if_pos h0];exact Et r s hs (fun b hb=>h b (List.mem_cons_of_mem _ hb))
  ·rw[if_neg h0,if_neg h0]
   have ha1:a=1∨a = -1:=ha.resolve_left h0
   have ih:=Et r a ha1 (fun b hb=>h b (List.mem_cons_of_mem _ hb))
   by_cases h1:a = -s
   ·rw[if_pos h1]
    rcases ih with ⟨i1,i2⟩|⟨i1,i2⟩
    ·right;constructor<;>omega
    ·left;constructor<;>omega
   ·rw[if_neg h1]
    have e:a=s:=by omega
    rcases ih with ⟨i1,i2⟩|⟨i1,i2⟩
    ·left;constructor<;>omega
    ·right;constructor<;>omega
theorem rC{x:Rat}(h:x≠0):sg x=1∨sg x = -1:=by rcases bk x with k|k|k<;>first|exact absurd k.1 h|simp[k.2]
theorem HA:∀(n:Nat) (p d:List Rat),aJ d=false→d≠[]→qF p d→d.length<n+1→∃c:Rat,c≠0∧∀(x:Rat) (s:Int),Au s ((chainF n p d).map (fun g=>sg (evalL g x)))=sg c
 |0,p,d,_,h0,_,hl=>absurd (List.eq_nil_of_length_eq_zero (by omega)) h0
 |n+1,p,d,hd,h0,hc,hl=>by
  rw[eb h0]
  by_cases hr:aU (bn (-1) (a7 p d))=[]
  ·obtain⟨c,rfl,FX⟩:=Hy hd h0 hc hr
   rw[hr,fc]
   refine⟨c,FX,fun x s => ?_⟩
   rw[List.map_cons,List.map_cons,List.map_nil,fL,Au]
   have h1:sg c≠0:=by have:=rC FX;omega
   split<;>rw[Au,if_neg h1,Au]
  ·obtain⟨c,FX,CC⟩:=HA n d _ (bj _) hr (Hx hd h0 hc) (by have:=eM (p:=p) hd h0;omega)
   refine⟨c,FX,fun x s => ?_⟩
   rw[List.map_cons,Au]
   split<;>exact CC x _
theorem OK{f:List Rat}(hz:aJ f=false)(hf:f≠[])(hc:qF f (ar f)){u v:Rat}(hu:evalL f u≠0)(hv:evalL f v≠0) :
  (sg (evalL f u)=sg (evalL f v)∧(fR (chainF f.length f (ar f)) u-fR (chainF f.length f (ar f)) v)%2=0)∨(sg (evalL f u) = - sg (evalL f v)∧(fR (chainF f.length f (ar f)) u-fR (chainF f.length f (ar f)) v)%2=1):=by
 by_cases h2:ar f=[]
 ·obtain⟨c,rfl,FX⟩:=yY hz hf h2
  left
  rw[fL,fL,nE h2,nE h2]
  exact⟨rfl,rfl⟩
 ·obtain⟨c,c0,hl⟩:=HA f.length f (ar f) (bc f) h2 hc (by have:=jB hf;omega)
  have key:∀x,evalL f x≠0→(sg c=sg (evalL f x)∧fR (chainF f.length f (ar f)) x%2=0)∨(sg c = - sg (evalL f x)∧fR (chainF f.length f (ar f)) x%2=1):=by
   intro x hx
   obtain⟨r,e⟩:=w6 f.length f (ar f)
   have hs:=rC hx
   have h1:=hl x 0
   rw[e,List.map_cons,Au,if_neg (by omega)] at h1
   have h3:=Et (r.map (fun g=>sg (evalL g x))) (sg (evalL f x)) hs (by
    intro a ha
    obtain⟨g,_,rfl⟩:=List.mem_map.1 ha
    exact hJ _)
   rw[e]
   unfold fR
   rw[List.map_cons,varS,if_neg (by omega),if_neg (by omega)]
   rcases h3 with ⟨i1,i2⟩|⟨i1,i2⟩
   ·left;constructor<;>omega
   ·right;constructor<;>omega
  have hsu:=rC hu
  have hsv:=rC hv
  rcases key u hu with ⟨a1,a2⟩|⟨a1,a2⟩<;>rcases key v hv with ⟨b1,b2⟩|⟨b1,b2⟩<;>first|(left;constructor<;>omega)|(right;constructor<;>omega)
theorem qi{f:List Rat}{a b:Rat}(dK:a≤b)(h:o6 f a b):sg (evalL f a)=sg (evalL f b):=by
 have dk:=h.ne Rat.le_refl dK
 have Fx:=h.ne dK Rat.le_refl
 rcases bk (evalL f a) with ⟨h1,h2⟩|⟨h1,h2⟩|⟨h1,h2⟩
 ·have h3:o6 (bn (-1) f) a b:=by
   obtain⟨c,c1,c2⟩:=h
   refine⟨c,c1,fun x x1 x2 => ?_⟩
   rw[bN,show(-1:Rat)*evalL f x = - evalL f x from by grind,yW]
   exact c2 x x1 x2
  have:=E8 dK h3 (by rw[bN];grind)
  obtain⟨c,c1,c2⟩:=this
  have:=c2 b dK Rat.le_refl
  rw[bN] at this
  rw[h2]
  rcases bk (evalL f b) with k|k|k<;>grind
 ·exact absurd h1 dk
 ·obtain⟨c,c1,c2⟩:=E8 dK h h1
  have:=c2 b dK Rat.le_refl
  rw[h2]
  rcases bk (evalL f b) with k|k|k<;>grind
def Ch(h:Nat)(p:List Rat):Prop:=∃D:Int,D≠0∧wl D≤h∧∀i,∃n:Int,coef p i*(D:Rat)=(n:Rat)∧wl n≤h
theorem y0{D:Int}(h:D≠0):(D:Rat)≠0:=fun e=>h (Rat.intCast_inj.1 (by rw[e];rfl))
theorem vH{a b c:Rat}(hc:c≠0)(h:a*c=b*c):a=b:=by
 have:(a-b)*c=0:=by grind
 rcases Rat.mul_eq_zero.1 this with e|e
 ·grind
 ·exact absurd e hc
theorem PB{x:Rat}{n D:Int}(hD:D≠0)(h:x*(D:Rat)=(n:Rat)):ht x≤max (wl n) (max (wl D) 1):=by
 have e:x=Rat.divInt n D:=by
  rw[Rat.divInt_eq_div]
  refine vH (y0 hD) ?_
  rw[h,Rat.div_mul_cancel (y0 hD)]
 rw[e];exact A2 n D
theorem Ch.mono{h k:Nat}{p:List Rat}(hp:Ch h p)(hk:h≤k):Ch k p:=by
 obtain⟨D,h1,h2,h3⟩:=hp
 refine⟨D,h1,by omega,fun i => ?_⟩
 obtain⟨n,a,b⟩:=h3 i
 exact⟨n,a,by omega⟩
theorem Ch.ht{h:Nat}{p:List Rat}(hp:Ch h p)(i:Nat):ht (coef p i)≤max h 1:=by
 obtain⟨D,h1,h2,h3⟩:=hp
 obtain⟨n,a,b⟩:=h3 i
 have:=PB h1 a
 omega
theorem Ch.fl{h:Nat}{p:List Rat}(hp:Ch h p)(h1:1≤h):Fl h p:=pC (fun i=>by have:=hp.ht i;omega)
theorem Ch.congr{h:Nat}{p q:List Rat}(hp:Ch h p)(e:∀i,coef p i=coef q i):Ch h q:=by
 obtain⟨D,h1,h2,h3⟩:=hp
 refine⟨D,h1,h2,fun i => ?_⟩
 rw[←e i];exact h3 i
theorem Ch.trim{h:Nat}{p:List Rat}(hp:Ch h p):Ch h (aU p):=hp.congr (fun i=>(dV p i).symm)
theorem Ch.nil{h:Nat}(h1:1≤h):Ch h []:=⟨1,by decide,by rw[VH];exact h1,fun i=>⟨0,by rw[pB,Rat.zero_mul];rfl,Nat.zero_le _⟩⟩
theorem Ch.cons{h k:Nat}{a:Rat}{p:List Rat}(hp:Ch h p)(ha:Sym.ht a≤k):Ch (h+k) (a::p):=by
 obtain⟨D,h1,h2,h3⟩:=hp
 have hd:=jO a
 have hn:=js a
 have N0:(a.den:Int)≠0:=by have:=a.den_nz;omega
 have Tr:a*((a.den:Int):Rat)=(a.num:Rat):=by
  have:a=Rat.divInt a.num a.den:=(Rat.num_divInt_den a).symm
  conv=>lhs;lhs;rw[this]
  rw[Rat.divInt_eq_div,Rat.div_mul_cancel (y0 N0)]
 have hm:=ic D a.den
 refine⟨D*a.den,by intro e;rcases Int.mul_eq_zero.1 e with e|e;exact h1 e;exact N0 e,by omega,fun i => ?_⟩
 cases i with
 |zero =>
  refine⟨a.num*D,?_,by have:=ic a.num D;omega⟩
  rw[qh,Rat.intCast_mul,Rat.intCast_mul,←Tr];grind
 |succ i =>
  obtain⟨n,e1,e2⟩:=h3 i
  refine⟨n*a.den,?_,by have:=ic n a.den;omega⟩
  rw[iD,Rat.intCast_mul,Rat.intCast_mul,←e1];grind
theorem Ch.uH{k:Nat} : ∀{p:List Rat},Fl k p→Ch (p.length*k+1) p
 |[],_=>Ch.nil (by omega)
 |a::r,h=>by
  have:=(Ch.uH (fun x hx=>h x (List.mem_cons_of_mem _ hx))).cons (h a (List.mem_cons_self ..))
  rw[List.length_cons,Nat.add_mul,Nat.one_mul]
  exact this.mono (by omega)
theorem Ch.Ng{h:Nat}{p:List Rat}(hp:Ch h p)(ht:cb p≠0):Ch h (bn (1/cb p) p):=by
 obtain⟨D,h1,h2,h3⟩:=hp
 obtain⟨t,e1,e2⟩:=h3 (p.length-1)
 have e1:cb p*(D:Rat)=(t:Rat):=e1
 have Sg:t≠0:=by
  intro e
  rw[e] at e1
  rcases Rat.mul_eq_zero.1 e1 with e|e
  ·exact ht e
  ·exact y0 h1 e
 refine⟨t,Sg,e2,fun i => ?_⟩
 obtain⟨n,g1,g2⟩:=h3 i
 refine⟨n,?_,g2⟩
 have:=Rat.div_mul_cancel (a:=1) ht
 rw[ck,←g1,←e1]
 grind
theorem Ch.dx{h:Nat}{p:List Rat}(hp:Ch h p)(h1:1≤h)(hz:aJ p=false):Ch h (cr p):=by
 by_cases e:p=[]
 ·subst e;exact Ch.nil h1
 ·exact(hp.Ng (eH hz e)).trim
theorem Ch.add{h k:Nat}{p q:List Rat}(hp:Ch h p)(hq:Ch k q):Ch (h+k+1) (ft p q):=by
 obtain⟨D,h1,h2,h3⟩:=hp
 obtain⟨E,g1,g2,g3⟩:=hq
 have hm:=ic D E
 refine⟨D*E,by intro e;rcases Int.mul_eq_zero.1 e with e|e;exact h1 e;exact g1 e,by omega,fun i => ?_⟩
 obtain⟨n,e1,e2⟩:=h3 i
 obtain⟨m,f1,f2⟩:=g3 i
 refine⟨n*E+m*D,?_,by have:=ic n E;have:=ic m D;have:=Ej (n*E) (m*D);omega⟩
 rw[km,Rat.intCast_mul,Rat.intCast_add,Rat.intCast_mul,Rat.intCast_mul,←e1,←f1];grind
theorem Ch.step{h b:Nat}{rest q:List Rat}(hr:Ch h rest)(hq:Ch b q)(hz:cb q≠0):Ch (h+b+1) (sP rest q):=by
 refine Ch.trim ?_
 obtain⟨D,h1,h2,h3⟩:=hr
 obtain⟨E,g1,g2,g3⟩:=hq
 obtain⟨u,u1,u2⟩:=g3 (q.length-1)
 obtain⟨t,t1,t2⟩:=h3 (rest.length-1)
 have u1:cb q*(E:Rat)=(u:Rat):=u1
 have t1:cb rest*(D:Rat)=(t:Rat):=t1
 have O3:u≠0:=by
  intro e
  rw[e] at u1
  rcases Rat.mul_eq_zero.1 u1 with e|e
  ·exact hz e
  ·exact y0 g1 e
 have hc:=Jj (rest:=rest) hz
 have hm:=ic D u
 refine⟨D*u,by intro e;rcases Int.mul_eq_zero.1 e with e|e;exact h1 e;exact O3 e,by omega,fun i => ?_⟩
 obtain⟨n,e1,e2⟩:=h3 i
 rw[km,nC,ck]
 by_cases hi:i<rest.length-q.length
 ·rw[if_pos hi]
  refine⟨n*u,?_,by have:=ic n u;omega⟩
  rw[Rat.intCast_mul,Rat.intCast_mul,←e1];grind
 ·rw[if_neg hi]
  obtain⟨m,f1,f2⟩:=g3 (i-(rest.length-q.length))
  refine⟨n*u + -(t*m),?_,by have:=ic n u;have:=ic t m;have:=kC (t*m);have:=Ej (n*u) (-(t*m));omega⟩
  rw[Rat.intCast_mul,Rat.intCast_add,Rat.intCast_mul,Rat.intCast_neg,Rat.intCast_mul,←e1,←f1,←t1,←u1,←hc];grind
theorem Jo{b:Nat}{q:List Rat}(hq:Ch b q)(hz:cb q≠0)(sL:q.length≠0):∀(n h:Nat) (out rest:List Rat),Ch h rest→Ch (h+(rest.length+1-q.length)*(b+1)) (uz n out rest q).2
 |0,h,out,rest,hr=>hr.mono (by omega)
 |n+1,h,out,rest,hr=>by
  rw[uz]
  cases hb:Nat.blt rest.length q.length with
  |true=>exact hr.mono (by omega)
  |false =>
   have hl:=A6.1 hb
   have h1:=uU hz sL hl
   have ih:=Jo hq hz sL n (h+b+1) (aU (ft out (jP (rest.length-q.length) [stepC rest q]))) (sP rest q) (hr.step hq hz)
   refine ih.mono ?_
   have e:rest.length+1-q.length=(rest.length-q.length)+1:=by omega
   have h2:((sP rest q).length+1-q.length)*(b+1)≤(rest.length-q.length)*(b+1):=Nat.mul_le_mul_right _ (by omega)
   rw[e,Nat.add_mul,Nat.one_mul]
   omega
theorem LM{b M:Nat}{q:List Rat}(hq:Ch b q)(mO:1≤b)(hz:cb q≠0)(sL:q.length≠0):∀(n h:Nat) (out rest:List Rat),1≤h→Ch h rest→h+(rest.length+1-q.length)*(b+1)≤M→(∀i,i+q.length≤rest.length→coef out i=0)→(∀i,ht (coef out i)≤M+b)→∀i,ht (coef (uz n out rest q).1 i)≤M+b
 |0,h,out,rest,_,_,_,_,ho=>ho
 |n+1,h,out,rest,h1,hr,hM,FX,ho=>by
  rw[uz]
  cases hb:Nat.blt rest.length q.length with
  |true=>exact ho
  |false =>
   have hl:=A6.1 hb
   have hs:=uU hz sL hl
   have e:rest.length+1-q.length=(rest.length-q.length)+1:=by omega
   have h2:((sP rest q).length+1-q.length)*(b+1)≤(rest.length-q.length)*(b+1):=Nat.mul_le_mul_right _ (by omega)
   rw[e,Nat.add_mul,Nat.one_mul] at hM
   have cc:∀i,coef (aU (ft out (jP (rest.length-q.length) [stepC rest q]))) i=if i=rest.length-q.length then stepC rest q else coef out i:=by
    intro i
    rw[dV,km,nC]
    by_cases h3:i=rest.length-q.length
    ·rw[if_pos h3,if_neg (by omega),FX i (by omega),h3,Nat.sub_self,qh,Rat.zero_add]
    ·rw[if_neg h3]
     split
     ·rw[Rat.add_zero]
     ·rw[gg (p:=[stepC rest q]) (by simp;omega),Rat.add_zero]
   refine LM hq mO hz sL n (h+b+1) _ (sP rest q) (by omega) (hr.step hq hz) (by omega) (fun i hi => ?_) (fun i => ?_)
   ·rw[cc,if_neg (by omega)]
    exact FX i (by omega)
   ·rw[cc]
    split
    ·unfold stepC
     have a1:=kS (cb rest) (cb q)
     have a2:=hr.ht (rest.length-1)
     have a3:=hq.ht (q.length-1)
     have a2:ht (cb rest)≤max h 1:=a2
     have a3:ht (cb q)≤max b 1:=a3
     omega
    ·exact ho i
theorem Ch.rest{h b:Nat}{p q:List Rat}(hp:Ch h p)(hq:Ch b q)(hz:aJ q=false)(sL:q≠[]):Ch (h+(p.length+1-q.length)*(b+1)) (a7 p q):=by
 have:=Jo hq (eH hz sL) (by intro e;exact sL (List.eq_nil_of_length_eq_zero e)) (p.length+1) h [] (aU p) hp.trim
 refine Ch.mono this ?_
 have h1:=lC p
 have:((aU p).length+1-q.length)*(b+1)≤(p.length+1-q.length)*(b+1):=Nat.mul_le_mul_right _ (by omega)
 omega
theorem tK{h b:Nat}{p q:List Rat}(hp:Ch h p)(hq:Ch b q)(h1:1≤h)(mO:1≤b)(hz:aJ q=false)(sL:q≠[]):Fl (h+(p.length+1-q.length)*(b+1)+b) (et p q).1:=by
 have hl:=lC p
 have h2:((aU p).length+1-q.length)*(b+1)≤(p.length+1-q.length)*(b+1):=Nat.mul_le_mul_right _ (by omega)
 exact pC (LM hq mO (eH hz sL) (by intro e;exact sL (List.eq_nil_of_length_eq_zero e)) (p.length+1) h [] (aU p) h1 hp.trim (by omega) (fun i _=>rfl) (fun i=>Nat.le_trans (Nat.le_of_eq jF) (by omega)))
theorem qS{p q:List Rat}(hz:aJ q=false)(sL:q≠[]):(et p q).1.length≤p.length+1-q.length:=by
 have key:∀(n:Nat) (out rest:List Rat),rest.length≤p.length→out.length≤p.length+1-q.length→(uz n out rest q).1.length≤p.length+1-q.length:=by
  intro n
  induction n with
  |zero=>intro out rest _ h;exact h
  |succ n ih =>
   intro out rest h1 h2
   rw[uz]
   cases hb:Nat.blt rest.length q.length with
   |true=>exact h2
   |false =>
    have hl:=A6.1 hb
    have hs:=uU (eH hz sL) (by intro e;exact sL (List.eq_nil_of_length_eq_zero e)) hl
    refine ih _ _ (by omega) ?_
    have h3:=lC (ft out (jP (rest.length-q.length) [stepC rest q]))
    rw[Hr] at h3
    unfold jP at h3
    rw[List.length_append,List.length_replicate] at h3
    simp only[List.length_cons,List.length_nil] at h3
    unfold jP
    omega
 exact key _ _ _ (lC p) (by simp)
def xB(a b:Nat):Nat→Nat
 |0=>a
 |1=>b
 |j+2=>xB a b j+2*(xB a b (j+1)+1)
theorem Kg(a b:Nat)(h:a≤b):∀j,xB a b j≤xB a b (j+1)
 |0=>h
 |j+1=>by rw[xB];omega
theorem cv(a b:Nat)(h:a≤b){i j:Nat}(Bh:i≤j):xB a b i≤xB a b j:=by
 induction Bh with
 |refl=>exact Nat.le_refl _
 |step _ ih=>exact Nat.le_trans ih (Kg a b h _)
theorem rl(a b:Nat)(h:a≤b)(j:Nat):∀d,xB a b j+(d+2)*(xB a b (j+1)+1)≤xB a b (j+1+(d+1))
 |0=>Nat.le_refl _
 |d+1=>by
  have ih:=rl a b h j d
  have h1:=cv a b h (i:=j+1) (j:=j+1+d) (by omega)
  have e:xB a b (j+1+(d+1+1))=xB a b (j+1+d)+2*(xB a b (j+1+(d+1))+1):=rfl
  rw[e]
  have e2:(d+1+2)*(xB a b (j+1)+1)=(d+2)*(xB a b (j+1)+1)+(xB a b (j+1)+1):=by rw[show d+1+2=(d+2)+1 from by omega,Nat.add_mul,Nat.one_mul]
  rw[e2]
  omega
structure su (a b N i j:Nat) (p q:List Rat):Prop where
 hp:Ch (xB a b i) p
 hq:Ch (xB a b j) q
 lt:i<j
 len:q.length<p.length
 bound:j+p.length≤N+1
 zp:aJ p=false
 zq:aJ q=false
theorem su.rest{a b N i j:Nat}{p q:List Rat}(e:su a b N i j p q)(dK:a≤b)(sL:q≠[]):Ch (xB a b (j+(p.length-q.length))) (a7 p q)∧(a7 p q).length<q.length:=by
 have h1:=e.hp.rest e.hq e.zq sL
 have hl:=(eE p e.zq sL).1
 have hlen:=e.len
 have bH:=e.lt
 refine⟨h1.mono ?_,hl⟩
 obtain⟨j',rfl⟩:∃j',j=j'+1:=⟨j-1,by omega⟩
 obtain⟨d,hd⟩:∃d,p.length-q.length=d+1:=⟨p.length-q.length-1,by omega⟩
 have h2:=cv a b dK (i:=i) (j:=j') (by omega)
 have h3:=rl a b dK j' d
 rw[hd,show p.length+1-q.length=d+2 from by omega]
 omega
theorem su.next{a b N i j:Nat}{p q r:List Rat}(e:su a b N i j p q)(dK:a≤b)(sL:q≠[])(hr:Ch (xB a b (j+(p.length-q.length))) r)(hl:r.length<q.length)(hz:aJ r=false):su a b N j (j+(p.length-q.length)) q r:=by
 have:=e.len
 have:=e.bound
 exact⟨e.hq,hr,by omega,hl,by omega,e.zq,hz⟩
theorem su.idx{a b N i j:Nat}{p q:List Rat}(e:su a b N i j p q):j≤N+1:=by have:=e.bound;omega
theorem OL{a b N:Nat}(ha:1≤a)(dK:a≤b):∀(n i j:Nat) (p q:List Rat),su a b N i j p q→Ch (xB a b (N+1)) (fa n p q)
 |0,i,j,p,q,e=>e.hp.mono (cv a b dK (by have:=e.idx;have:=e.lt;omega))
 |n+1,i,j,p,q,e=>by
  rw[fa]
  by_cases h:q.length=0
  ·rw[beq_iff.2 h,cond_true];exact e.hp.mono (cv a b dK (by have:=e.idx;have:=e.lt;omega))
  ·have dk:q≠[]:=fun e=>h (by rw[e];rfl)
   rw[eL.2 h,cond_false]
   obtain⟨h1,h2⟩:=e.rest dK dk
   have hz:=b8 p q
   refine OL ha dK n _ _ q _ (e.next dK dk (h1.dx (Nat.le_trans ha (cv a b dK (i:=0) (Nat.zero_le _))) hz) (by rw[aY hz];exact h2) (bO _))
theorem Ch.derive{h:Nat}{p:List Rat}(hp:Ch h p)(hl:p.length≤1000):Ch (h+1) (ar p):=by
 refine Ch.trim ?_
 have key:∀(q:List Rat) (i:Nat) (j:Nat),coef (ld i q) j=((i+j:Nat):Int)*coef q j:=by
  intro q
  induction q with
  |nil=>intro i j;show(0:Rat)=_*0;rw[Rat.mul_zero]
  |cons a r ih =>
   intro i j
   cases j with
   |zero=>rfl
   |succ j =>
    rw[ld,iD,iD,ih (i+1) j,show i+1+j=i+(j+1) from by omega]
 have hd:∀j,coef (p.drop 1) j=coef p (j+1):=by
  intro j
  cases p with
  |nil=>rfl
  |cons a r=>rfl
 obtain⟨D,h1,h2,h3⟩:=hp
 refine⟨D,h1,by omega,fun i => ?_⟩
 rw[key,hd]
 by_cases hi:i+1<p.length
 ·obtain⟨n,e1,e2⟩:=h3 (i+1)
  refine⟨((1+i:Nat):Int)*n,?_,?_⟩
  ·rw[Rat.intCast_mul,←e1];grind
  ·have:=ic ((1+i:Nat):Int) n
   have:wl ((1+i:Nat):Int)≤1:=oZ (by omega)
   omega
 ·rw[gg (by omega)]
  exact⟨0,by grind,Nat.zero_le _⟩
end Go.Proofs.YtllmkadmohkbfaaGreatDoor.Sym
