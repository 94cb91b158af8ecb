/- Lemmas for the statements of this seat. -/
import Derived.Test.YtcpnocgollpbhaaGreatDoorG1
import Derived.Test.YtcpnocgollpbhaaGreatDoorP2
namespace Go.Proofs.YtcpnocgollpbhaaGreatDoor.Sym
open Go Path cF
set_option linter.unusedVariables false
theorem Gf{p q:Rat} : 0≤iy p q↔q≤p:=by
 constructor
 ·intro h;have:¬p<q:=fun e=>by have:=Gb.2 e;omega
  grind
 ·intro h;refine ajA.1 fun e => ?_
  have:=Gb.1 e;grind
theorem AN{p q:Rat} : iy p q≤0↔p≤q:=by
 constructor
 ·intro h;have:¬q<p:=fun e=>by have:=Lu.2 e;omega
  grind
 ·intro h;refine ajA.1 fun e => ?_
  have:=Lu.1 e;grind
theorem drop_cons{α:Type}{l:List α}{t:Nat}{v:α}(h:l[t]? = some v):l.drop t=v::l.drop (t+1):=by obtain⟨h1,h2⟩:=afQ.1 h;rw[ahp h1,h2]
theorem Ir{q:Rat}(h:ht q≤68719476736):kS (aI q):=oH (by omega)
theorem yT(p q:Rat):DO p q≤p:=by
 unfold DO;split
 ·exact ag2
 ·rename_i h;have:=mt AN.2 h;grind
theorem yU(p q:Rat):DO p q≤q:=by
 unfold DO;split
 ·rename_i h;exact AN.1 h
 ·exact ag2
namespace QF
theorem Add(p q:Rat)(hp:ht p≤68719476736)(hq:ht q≤68719476736):Cp 62 [(aI p).pv,(aI q).pv] (aI (p+q)).pv:=by have h:=tf.Add (aI p) (aI q) ⟨by have:=(bK hp).1;omega,by have:=(bK hp).2;omega⟩ ⟨by have:=(bK hq).1;omega,by have:=(bK hq).2;omega⟩;rwa[b9,b9] at h
theorem Sub(p q:Rat)(hp:ht p≤68719476736)(hq:ht q≤68719476736):Cp 186 [(aI p).pv,(aI q).pv] (aI (p-q)).pv:=by have h:=tf.Sub (aI p) (aI q) ⟨by have:=(bK hp).1;omega,by have:=(bK hp).2;omega⟩ ⟨by have:=(bK hq).1;omega,by have:=(bK hq).2;omega⟩;rwa[b9,b9] at h
theorem Mul(p q:Rat)(hp:ht p≤68719476736)(hq:ht q≤68719476736):Cp 117 [(aI p).pv,(aI q).pv] (aI (p*q)).pv:=by have h:=tf.Mul (aI p) (aI q) ⟨by have:=(bK hp).1;omega,by have:=(bK hp).2;omega⟩ ⟨by have:=(bK hq).1;omega,by have:=(bK hq).2;omega⟩;rwa[b9,b9] at h
theorem xG(p q:Rat)(hp:ht p≤68719476736)(hq:ht q≤68719476736):Cp 17 [(aI p).pv,(aI q).pv] (vI (iy p q)):=by have h:=tf.xG (aI p) (aI q) ⟨by have:=(bK hp).1;omega,by have:=(bK hp).2;omega⟩ ⟨by have:=(bK hq).1;omega,by have:=(bK hq).2;omega⟩;rwa[b9,b9] at h
theorem Div(p q:Rat)(hp:ht p≤68719476736)(hq:ht q≤68719476736)(h0:q≠0):Cp 180 [(aI p).pv,(aI q).pv] (.aF [(aI (p/q)).pv,.ay]):=by have h:=tf.Div (aI p) (aI q) (Ir hp) (Ir hq) (by rw[b9];exact h0);rwa[b9,b9] at h
theorem Sign(p:Rat)(hp:ht p≤68719476736):Cp 119 [(aI p).pv] (vI (iy p 0)):=by have h:=tf.Sign (aI p) (Ir hp);rwa[b9] at h
theorem Neg(p:Rat)(hp:ht p≤68719476736):Cp 128 [(aI p).pv] (aI (-p)).pv:=by have h:=tf.Neg (aI p) (Ir hp);rwa[b9] at h
theorem Valid(p:Rat)(hp:ht p≤68719476736):Cp 102 [(aI p).pv] (vB true):=by have h:=tf.Valid (aI p) (Ir hp);rwa[rp] at h
theorem DP(p:Rat)(hp:ht p≤68719476736):Cp 62 [(aI p).pv,(⟨false,[],[]⟩:ag).pv] (aI p).pv:=by have h:=Add p 0 hp (by decide);rwa[ai4] at h
end QF
namespace QR
theorem Add(p q:Rat)(hp:ht p≤68719476736)(hq:ht q≤68719476736):Cp 86 [(aI p).pv,(aI q).pv] (aI (p+q)).pv:=by have h:=Vd.Add (aI p) (aI q) ⟨by have:=(bK hp).1;omega,by have:=(bK hp).2;omega⟩ ⟨by have:=(bK hq).1;omega,by have:=(bK hq).2;omega⟩;rwa[b9,b9] at h
theorem Mul(p q:Rat)(hp:ht p≤68719476736)(hq:ht q≤68719476736):Cp 157 [(aI p).pv,(aI q).pv] (aI (p*q)).pv:=by have h:=Vd.Mul (aI p) (aI q) ⟨by have:=(bK hp).1;omega,by have:=(bK hp).2;omega⟩ ⟨by have:=(bK hq).1;omega,by have:=(bK hq).2;omega⟩;rwa[b9,b9] at h
theorem Sign(p:Rat)(hp:ht p≤68719476736):Cp 85 [(aI p).pv] (vI (iy p 0)):=by have h:=Vd.Sign (aI p) (Ir hp);rwa[b9] at h
theorem Neg(p:Rat)(hp:ht p≤68719476736):Cp 149 [(aI p).pv] (aI (-p)).pv:=by have h:=Vd.Neg (aI p) (Ir hp);rwa[b9] at h
end QR
theorem QF.Make(n d:Int)(hn:az n)(hd:az d)(h0:d≠0):Cp 224 [vI n,vI d] (.aF [(aI (Rat.divInt n d)).pv,.ay]):=by have hw:wl n≤2:=mU (by unfold az at hn;omega);have BH:wl d≤2:=mU (by unfold az at hd;omega);have hf:=tf.Vc (Sym.whole n) (Sym.whole d) (show wl _≤_ by omega) (show wl _≤_ by omega) (by rw[aC];exact h0);rw[aC,aC] at hf;exact vp.e0 n d _ _ _ none (cF.Of n hn) (cF.Of d hd) hf
theorem QF.Abs(p:Rat)(hp:ht p≤68719476736):Cp 181 [(aI p).pv] (aI (if p<0 then -p else p)).pv:=by
 have hs:=QF.Sign p hp;by_cases h:p<0
 ·rw[ag9 h];exact sv.e0 _ _ _ hs (Gb.2 h) (QF.Neg p hp)
 ·rw[ag7 h];have hpa:=tf.lO (aI p) (Ir hp);rw[b9] at hpa;have hf:=tf.vv p.num (p.den:Int) (by have:=eQ p;omega) (by have:=fK p;omega) (by have:=p.den_nz;omega);rw[ai5] at hf;exact sv.e1 _ _ _ _ _ hs (Gf.2 (by grind)) hpa hf
def Tg(a b:ag):Bool:=decide (a.neg=b.neg)&&(decide (a.num=b.num)&&decide (a.den=b.den))
theorem Gg{a b:ag} : Tg a b=true↔a=b:=by obtain⟨n,m,d⟩:=a;obtain⟨n',m',d'⟩:=b;unfold Tg;simp only[Bool.and_eq_true,decide_eq_true_eq,ag.mk.injEq]
theorem Pu(a:ag):Tg a a=true:=Gg.2 rfl
def Cv:List ag→List ag→Bool
 |[],[]=>true
 |a::r,b::s=>Tg a b&&Cv r s
 |_,_=>false
theorem xL:∀{p q:List ag},Cv p q=true↔p=q
 |[],[]=>by simp[Cv]
 |a::r,b::s=>by show(Tg a b&&Cv r s)=true↔_;rw[afX,Gg,xL,List.cons.injEq]
 |[],b::s=>by simp[Cv]
 |a::r,[]=>by simp[Cv]
theorem MX(p:List ag):Cv p p=true:=xL.2 rfl
theorem LB{p q:List ag}(h:p≠q):Cv p q=false:=by
 cases hb:Cv p q with
 |true=>exact absurd (xL.1 hb) h
 |false=>rfl
namespace CBa
theorem Words(a b:Sym.Words)(hl:a.length<9223372036854775807):Cp 167 [af a,af b] (vB (decide (a=b))):=by
 by_cases h:a.length=b.length
 ·have loop:∀(j t:Nat),a.length-t=j→t≤a.length→a.take t=b.take t→dS.ai a b t (vB (decide (a=b))):=by
   intro j
   induction j with
   |zero =>intro t hj ht he;rw[agd (by omega),agd (by omega)] at he;rw[agq he];exact dS.kA a b t (by omega)
   |succ j ih =>
    intro t hj ht he;obtain⟨v,hv⟩:∃v,a[t]? = some v:=⟨_,afO (by omega)⟩;obtain⟨w,hw⟩:∃w,b[t]? = some w:=⟨_,afO (by omega)⟩;by_cases h0:v.toNat=w.toNat
    ·exact dS.c9 a b t v w (by omega) hv hw h0 (by omega) (ih (t+1) (by omega) (by omega) (by rw[agH,agH,he,hv,hw,UW h0]))
    ·have et:a≠b:=by
      intro e;subst e;rw[hv] at hw;injection hw with hw
      exact h0 (by rw[hw])
     rw[ags et];exact dS.l10 a b t v w (by omega) hv hw h0
  exact dS.e1 a b h (loop _ 0 rfl (by omega) rfl)
 ·rw[ags (fun e=>h (by rw[e]))];exact dS.e0 a b h
theorem Rat(a b:ag)(h1:a.num.length<9223372036854775807)(h2:a.den.length<9223372036854775807):Cp 96 [a.pv,b.pv] (vB (Tg a b)):=by
 unfold Tg;by_cases hn:a.neg=b.neg
 ·rw[agq hn,ahc];have w1:=Words a.num b.num h1;have w2:=Words a.den b.den h2;cases hw:decide (a.num=b.num) with
  |true=>rw[ahc];rw[hw] at w1;exact kl.e0 a b _ _ hn w1 rfl w2
  |false=>rw[ahf];rw[hw] at w1;exact kl.e1 a b _ hn w1 rfl
 ·rw[ags hn,ahf];exact kl.e2 a b hn
theorem aaP(p q:List ag)(hl:p.length<9223372036854775807)(hf:∀a∈p,a.num.length<9223372036854775807∧a.den.length<9223372036854775807):Cp 46 [ae p,ae q] (vB (Cv p q)):=by
 by_cases h:p.length=q.length
 ·have loop:∀(j t:Nat),p.length-t=j→t≤p.length→p.take t=q.take t→ew.ai p q t (vB (Cv p q)):=by
   intro j
   induction j with
   |zero =>intro t hj ht he;rw[agd (by omega),agd (by omega)] at he;rw[xL.2 he];exact ew.kA p q t (by omega)
   |succ j ih =>
    intro t hj ht he;obtain⟨v,hv⟩:∃v,p[t]? = some v:=⟨_,afO (by omega)⟩;obtain⟨w,hw⟩:∃w,q[t]? = some w:=⟨_,afO (by omega)⟩;have Wj:=hf v (ag4 hv);have hr:=Rat v w Wj.1 Wj.2;cases h0:Tg v w with
    |true =>rw[h0] at hr;exact ew.c9 p q t v w _ (by omega) hv hw hr rfl (by omega) (ih (t+1) (by omega) (by omega) (by rw[agH,agH,he,hv,hw,Gg.1 h0]))
    |false =>
     have et:p≠q:=by
      intro e;subst e;rw[hv] at hw;injection hw with hw
      rw[hw,Pu] at h0;cases h0
     rw[LB et];rw[h0] at hr;exact ew.l10 p q t v w _ (by omega) hv hw hr rfl
  exact ew.e1 p q h (loop _ 0 rfl (by omega) rfl)
 ·rw[LB (fun e=>h (by rw[e]))];exact ew.e0 p q h
end CBa
theorem gn(a:Rat)(r:List Rat):aO (a::r)=bif (aO r).isEmpty&&decide (a=0) then [] else a::aO r:=rfl
theorem nY(a:Rat)(r:List Rat):(aO r=[]∧a=0∧aO (a::r)=[])∨aO (a::r)=a::aO r:=by
 rw[gn];cases h:(aO r).isEmpty&&decide (a=0) with
 |false=>exact Or.inr rfl
 |true =>rw[afX] at h;exact Or.inl ⟨ajE.1 h.1,ahI h.2,rfl⟩
theorem iz:∀q:List Rat,(aO q).length≤q.length
 |[]=>by simp[aO]
 |a::r=>by
  rcases nY a r with ⟨_,_,e⟩|e
  ·rw[e];simp
  ·rw[e];simpa using iz r
theorem bj:∀q:List Rat,aQ (aO q)=false
 |[]=>rfl
 |a::r=>by
  have ih:=bj r;rw[gn];cases h:aO r with
  |nil =>
   by_cases h0:a=0
   ·rw[agq h0];rfl
   ·rw[ags h0];unfold aQ;exact ags h0
  |cons b s =>rw[h] at ih;unfold aQ at ih ⊢;rw[show (bif (b::s).isEmpty&&decide (a=0) then [] else a::b::s)=a::b::s from rfl];rw[List.getLast?_cons_cons];exact ih
theorem kU:∀{q:List Rat},aQ q=false→aO q=q
 |[],_=>rfl
 |[a],h=>by unfold aQ at h;have h:¬a=0:=of_decide_eq_false h;rw[gn,ags h];rfl
 |a::b::s,h=>by unfold aQ at h;rw[List.getLast?_cons_cons] at h;have:=kU (q:=b::s) h;rw[gn,this];rfl
theorem mF{q:List Rat}(h:aQ q=false)(hl:q.length≤65):x8 (q.map aI)=0:=by
 unfold x8;rw[ag7 (by rw[afW];omega),mE,h];rw[show (q.map aI).all ag.valid=true from by rw[agy];intro a ha;obtain⟨x,_,rfl⟩:=agI.1 ha;exact rp x]
 rfl
theorem bF(x:Rat):∀q:List Rat,evalL (aO q) x=evalL q x
 |[]=>rfl
 |a::r=>by
  have ih:=bF x r;rcases nY a r with ⟨h1,h2,e⟩|e
  ·rw[e,evalL,evalL,←ih,h1,h2,evalL];grind
  ·rw[e,evalL,evalL,ih]
theorem Kj(q:List Rat):(aO q).drop 1=aO (q.drop 1):=by
 cases q with
 |nil=>rfl
 |cons a r =>
  rcases nY a r with ⟨h1,h2,e⟩|e
  ·rw[e];exact h1.symm
  ·rw[e];rfl
theorem Cw:∀(q:List Rat) (i:Nat),aO (gz i (aO q))=aO (gz i q)
 |[],_=>rfl
 |a::r,i=>by
  have ih:=Cw r (i+1);rcases nY a r with ⟨h1,h2,e⟩|e
  ·rw[e,gz,gz,gn,←ih,h1,h2];rw[show ((i:Int):Rat)*0=0 from by grind];rfl
  ·rw[e,gz,gz,gn,gn,ih]
theorem vw(q:List Rat):an (aO q)=an q:=by unfold an;rw[Kj,Cw]
theorem DQ(q:List Rat)(x:Rat):evalL (an q) x=evalL (gz 1 (q.drop 1)) x:=by unfold an;rw[bF]
theorem zU(q:List Rat):(an q).length≤q.length:=by unfold an;have:=iz (gz 1 (q.drop 1));rw[ru,ahT] at this;omega
theorem bc(q:List Rat):aQ (an q)=false:=bj _
def coef(p:List Rat)(i:Nat):Rat:=p[i]?.getD 0
def dw:List Rat→List Rat→List Rat
 |[],q=>q
 |a::p,[]=>a::p
 |a::p,b::q=>(a+b)::dw p q
def a7(c:Rat)(q:List Rat):List Rat:=q.map (fun x=>c*x)
def mulL:List Rat→List Rat→List Rat
 |[],_=>[]
 |a::p,q=>dw (a7 a q) (0::mulL p q)
def je(s:Nat)(q:List Rat):List Rat:=List.replicate s 0++q
theorem mG(i:Nat):coef [] i=0:=rfl
theorem yV(a:Rat)(p:List Rat):coef (a::p) 0=a:=rfl
theorem fu(a:Rat)(p:List Rat)(i:Nat):coef (a::p) (i+1)=coef p i:=rfl
theorem qz{p:List Rat}{i:Nat}{v:Rat}(h:p[i]? = some v):coef p i=v:=by unfold coef;rw[h];rfl
theorem eE{p:List Rat}{i:Nat}(h:p.length≤i):coef p i=0:=by unfold coef;rw[agC h];rfl
theorem mH{p:List Rat}{i:Nat}(h:i<p.length):p[i]? = some (coef p i):=by unfold coef;rw[afO h];rfl
theorem iA:∀(p q:List Rat) (i:Nat),coef (dw p q) i=coef p i+coef q i
 |[],q,i=>by rw[dw,mG,ajb]
 |a::p,[],i=>by rw[dw,mG,ai4]
 |a::p,b::q,0=>rfl
 |a::p,b::q,i+1=>by rw[dw,fu,fu,fu,iA p q i]
theorem bZ(c:Rat)(q:List Rat)(i:Nat):coef (a7 c q) i=c*coef q i:=by
 unfold coef a7;rw[afT];cases q[i]? with
 |none=>show(0:Rat)=c*0;rw[ahM]
 |some v=>rfl
theorem vx(a:Rat)(p q:List Rat)(i:Nat):coef (mulL (a::p) q) i=a*coef q i+coef (0::mulL p q) i:=by rw[mulL,iA,bZ]
theorem nZ(s:Nat)(q:List Rat)(i:Nat):coef (je s q) i=if i<s then 0 else coef q (i-s):=by
 unfold coef je;split
 ·rename_i h;rw[ahz (by rw[ahb];exact h),ahk,ag9 h];rfl
 ·rename_i h;rw[aha (by rw[ahb];omega),ahb]
theorem Is:∀(p q:List Rat),(dw p q).length=max p.length q.length
 |[],q=>by rw[dw,aih,Nat.zero_max]
 |a::p,[]=>by rw[dw,aih,Nat.max_zero]
 |a::p,b::q=>by rw[dw,agn,agn,agn,Is p q];omega
theorem gC(c:Rat)(q:List Rat):(a7 c q).length=q.length:=afW ..
theorem lP:∀{p q:List Rat},(∀i,coef p i=coef q i)→aO p=aO q
 |[],[],_=>rfl
 |[],b::q,h=>by have h0:(0:Rat)=b:=h 0;have:=lP (p:=[]) (q:=q) (fun i=>h (i+1));rw[gn,←this,←h0];rfl
 |a::p,[],h=>by have h0:a=(0:Rat):=h 0;have:=lP (p:=p) (q:=[]) (fun i=>h (i+1));rw[gn,this,h0];rfl
 |a::p,b::q,h=>by have h0:a=b:=h 0;rw[gn,gn,lP (p:=p) (q:=q) (fun i=>h (i+1)),h0]
theorem dW:∀(p:List Rat) (i:Nat),coef (aO p) i=coef p i
 |[],_=>rfl
 |a::r,i=>by
  rcases nY a r with ⟨h1,h2,e⟩|e
  ·rw[e];cases i with
   |zero=>exact h2.symm
   |succ i=>rw[fu,←dW r i,h1,mG,mG]
  ·rw[e];cases i with
   |zero=>rfl
   |succ i=>rw[fu,fu,dW r i]
theorem kV{p q:List Rat}(hp:aQ p=false)(hq:aQ q=false)(h:∀i,coef p i=coef q i):p=q:=by rw[←kU hp,←kU hq];exact lP h
theorem bz(x:Rat):∀(p q:List Rat),evalL (dw p q) x=evalL p x+evalL q x
 |[],q=>by rw[dw,evalL,ajb]
 |a::p,[]=>by rw[dw,show evalL [] x=0 from rfl,ai4]
 |a::p,b::q=>by rw[dw,evalL,evalL,evalL,bz x p q];grind
theorem aX(c x:Rat):∀(q:List Rat),evalL (a7 c q) x=c*evalL q x
 |[]=>by show(0:Rat)=c*0;rw[ahM]
 |a::q=>by have:=aX c x q;show evalL (a7 c q) x*x+c*a=c*(evalL q x*x+a);rw[this];grind
theorem aE(x:Rat):∀(p q:List Rat),evalL (mulL p q) x=evalL p x*evalL q x
 |[],q=>by show(0:Rat)=0*_;rw[agJ]
 |a::p,q=>by rw[mulL,bz,aX,evalL,aE x p q,evalL];grind
theorem sF(x:Rat):∀(s:Nat) (q:List Rat),evalL (je s q) x=x^s*evalL q x
 |0,q=>by show evalL q x=_;rw[aiI,aht]
 |s+1,q=>by have:=sF x s q;show evalL (je s q) x*x+0=_;rw[this,air];grind
def It(c:Rat):List Rat→List Rat
 |[]=>[]
 |[_]=>[]
 |_::b::r=>evalL (b::r) c::It c (b::r)
theorem Iu(c:Rat):∀p:List Rat,(It c p).length=p.length-1
 |[]=>rfl
 |[_]=>rfl
 |_::b::r=>by rw[It,agn,Iu c (b::r)];simp
theorem EH(c x:Rat):∀p:List Rat,evalL p x=evalL p c+(x-c)*evalL (It c p) x
 |[]=>by show(0:Rat)=0+(x-c)*0;grind
 |[a]=>by show 0*x+a=(0*c+a)+(x-c)*0;grind
 |a::b::r=>by have:=EH c x (b::r);rw[It];show evalL (b::r) x*x+a=(evalL (b::r) c*c+a)+(x-c)*(evalL (It c (b::r)) x*x+evalL (b::r) c);rw[this];grind
theorem EI(c:Rat):∀p:List Rat,evalL p c=0→(∀y∈It c p,y=0)→∀y∈p,y=0
 |[],_,_=>fun y h=>by cases h
 |[a],h,_=>fun y hy=>by have h:0*c+a=0:=h;rw[ah4.1 hy];grind
 |a::b::r,h,hq=>fun y hy=>by
  rw[It] at hq;have h1:=hq _ (agM ..);have ih:=EI c (b::r) h1 (fun z hz=>hq z (agm _ hz));rcases agp.1 hy with e|hy
  ·rw[evalL,h1] at h;rw[e];grind
  ·exact ih y hy
theorem EJ:∀(n:Nat) (p:List Rat) (N:Nat),p.length≤n→(∀m:Nat,N≤m→evalL p ((m:Int):Rat)=0)→∀y∈p,y=0
 |0,p,N,hl,_=>fun y hy=>by have:p=[]:=afP (by omega);rw[this] at hy;cases hy
 |n+1,p,N,hl,h=>by
  have h0:=h N (afY _);refine EI _ p h0 (EJ n _ (N+1) (by rw[Iu];omega) (fun m hm => ?_));have h1:=h m (by omega);rw[EH ((N:Int):Rat) _ p,h0,ajb] at h1;rcases agV.1 h1 with e|e
  ·have:((m:Int):Rat)=((N:Int):Rat):=by grind
   have:=aj4.1 this;omega
  ·exact e
theorem Pv{p:List Rat}(h:∀y∈p,y=0)(i:Nat):coef p i=0:=by
 unfold coef;cases hv:p[i]? with
 |none=>rfl
 |some v=>exact h v (ag4 hv)
theorem fW{p q:List Rat}(h:∀x,evalL p x=evalL q x)(i:Nat):coef p i=coef q i:=by have hz:=EJ _ (dw p (a7 (-1) q)) 0 (afY _) (fun m _=>by rw[bz,aX,h];grind);have:=Pv hz i;rw[iA,bZ] at this;grind
theorem Iv{p q:List Rat}(h:∀x,evalL p x=evalL q x):aO p=aO q:=lP (fW h)
theorem AO{k:Nat}{p:List Rat}(h:Fl k p)(hk:1≤k)(i:Nat):ht (coef p i)≤k:=by
 unfold coef;cases hv:p[i]? with
 |none=>exact ag3 (ajK k7) hk
 |some v=>exact h v (ag4 hv)
theorem pB{k:Nat}{p:List Rat}(h:∀i,ht (coef p i)≤k):Fl k p:=by intro x hx;obtain⟨i,hi⟩:=ahJ.1 hx;have:=h i;rwa[qz hi] at this
theorem bV{k m:Nat}{q:List Rat}(h:Fl k q)(hk:k≤m):Fl m q:=fun x hx=>ag3 (h x hx) hk
def nu(m:Nat)(g:Nat→Rat):List Rat:=(List.range m).map g
theorem eF(m:Nat)(g:Nat→Rat):(nu m g).length=m:=by unfold nu;rw[afW,ahn]
theorem kW{m i:Nat}(g:Nat→Rat)(h:i<m):(nu m g)[i]? = some (g i):=by unfold nu;rw[afT,ahF h];rfl
theorem Pw{m i:Nat}(g:Nat→Rat)(v:Rat)(h:i<m):(nu m g).set i v=nu m (fun j=>if j=i then v else g j):=by
 refine aiM fun j => ?_
 by_cases hj:j<m
 ·rw[kW _ hj];by_cases e:j=i
  ·subst e;rw[aiy (by rw[eF];exact h),ag9 rfl]
  ·rw[ah1 (by omega),kW _ hj,ag7 e]
 ·rw[agC (by rw[aip,eF];omega),agC (by rw[eF];omega)]
theorem EK(m:Nat):List.replicate m (⟨false,[],[]⟩:ag)=(nu m (fun _=>0)).map aI:=by
 refine aiM fun j => ?_
 rw[afT];by_cases hj:j<m
 ·rw[kW _ hj,ahk,ag9 hj];rfl
 ·rw[agC (by rw[ahb];omega),agC (by rw[eF];omega)];rfl
theorem EL{m:Nat}{g:Nat→Rat}(h:∀i,m≤i→g i=0)(i:Nat):coef (nu m g) i=g i:=by
 by_cases hi:i<m
 ·exact qz (kW g hi)
 ·rw[eE (by rw[eF];omega),h i (by omega)]
theorem Kk{m:Nat}{f g:Nat→Rat}(h:∀i,i<m→f i=g i):nu m f=nu m g:=by unfold nu;exact ahW (fun i hi=>h i (aiw.1 hi))
def bx(p:List Rat):Rat:=coef p (p.length-1)
theorem cP{p:List Rat}(hz:aQ p=false)(h:p≠[]):bx p≠0:=by unfold aQ at hz;have hl:=ag8.2 h;rw[ahX,mH (p:=p) (i:=p.length-1) (by omega)] at hz;exact of_decide_eq_false hz
theorem zV{p:List Rat}{n:Nat}(h:∀i,n≤i→coef p i=0):(aO p).length≤n:=by
 refine ajd fun bH => ?_
 have et:aO p≠[]:=by intro e;rw[e] at bH;simp at bH
 have:=cP (bj p) et;unfold bx at this;rw[dW,h _ (by omega)] at this;exact this rfl
def stepC(rest q:List Rat):Rat:=bx rest/bx q
def ow(rest q:List Rat):List Rat:=aO (dw rest (je (rest.length-q.length) (a7 (-(stepC rest q)) q)))
def pM:Nat→List Rat→List Rat→List Rat→List Rat×List Rat
 |0,out,rest,_=>(out,rest)
 |n+1,out,rest,q=>bif Nat.blt rest.length q.length then (out,rest) else pM n (aO (dw out (je (rest.length-q.length) [stepC rest q]))) (ow rest q) q
def dJ(p q:List Rat):List Rat×List Rat:=pM (p.length+1) [] (aO p) q
def cb(p q:List Rat):List Rat:=(dJ p q).2
def dG(p:List Rat):List Rat:=aO (a7 (1/bx p) p)
def lW:Nat→List Rat→List Rat→List Rat
 |0,p,_=>p
 |n+1,p,q=>bif Nat.beq q.length 0 then p else lW n q (dG (cb p q))
def cu(p q:List Rat):List Rat:=dG (lW (q.length+1) p q)
def aY(p:List Rat):List Rat:=dG (dJ p (cu p (an p))).1
theorem AP{a b:Nat} : Nat.blt a b=true↔a<b:=by rw[Nat.blt_eq]
theorem xM{a b:Nat} : Nat.blt a b=false↔b≤a:=by
 constructor
 ·intro h;exact ajd fun e=>by rw[AP.2 e] at h;cases h
 ·intro h;cases hb:Nat.blt a b with
  |true=>have:=AP.1 hb;omega
  |false=>rfl
theorem EM{rest q:List Rat}(hq:bx q≠0):stepC rest q*bx q=bx rest:=by unfold stepC;rw[agj hq]
theorem rz{rest q:List Rat}(hq:bx q≠0)(o4:q.length≠0)(hl:q.length≤rest.length):(ow rest q).length<rest.length:=by
 have h:=zV (p:=dw rest (je (rest.length-q.length) (a7 (-(stepC rest q)) q))) (n:=rest.length-1) (fun i hi=>by
  rw[iA,nZ,bZ,ag7 (by omega)];by_cases e:i=rest.length-1
  ·have h1:=EM (rest:=rest) hq;unfold bx at h1;rw[e,show rest.length-1-(rest.length-q.length)=q.length-1 from by omega];grind
  ·rw[eE (p:=rest) (by omega),eE (p:=q) (by omega)];grind)
 unfold ow;omega
theorem Kl(rest q:List Rat)(x:Rat):evalL (ow rest q) x=evalL rest x-x^(rest.length-q.length)*stepC rest q*evalL q x:=by unfold ow;rw[bF,bz,sF,aX];grind
theorem EN{q:List Rat}(hq:bx q≠0)(o4:q.length≠0):∀(n:Nat) (out rest:List Rat),rest.length<n →
  (pM n out rest q).2.length<q.length∧∀x,evalL (pM n out rest q).1 x*evalL q x+evalL (pM n out rest q).2 x=evalL out x*evalL q x+evalL rest x
 |0,out,rest,h=>by omega
 |n+1,out,rest,h=>by
  rw[pM];cases hb:Nat.blt rest.length q.length with
  |true=>exact⟨AP.1 hb,fun x=>rfl⟩
  |false =>
   have hl:=xM.1 hb;have h1:=rz hq o4 hl;rw[agf];obtain⟨g1,g2⟩:=EN hq o4 n (aO (dw out (je (rest.length-q.length) [stepC rest q]))) (ow rest q) (by omega);refine⟨g1,fun x => ?_⟩;rw[g2 x,Kl,bF,bz,sF];have:evalL [stepC rest q] x=stepC rest q:=by show 0*x+stepC rest q=stepC rest q;grind
   rw[this];grind
theorem EO{q:List Rat} : ∀(n:Nat) (out rest:List Rat),aQ out=false→aQ rest=false→aQ (pM n out rest q).1=false∧aQ (pM n out rest q).2=false
 |0,out,rest,h1,h2=>⟨h1,h2⟩
 |n+1,out,rest,h1,h2=>by
  rw[pM];cases Nat.blt rest.length q.length with
  |true=>exact⟨h1,h2⟩
  |false=>exact EO n _ _ (bj _) (bj _)
theorem kp{q:List Rat}(p:List Rat)(hz:aQ q=false)(o4:q≠[]):(dJ p q).2.length<q.length∧∀x,evalL (dJ p q).1 x*evalL q x+evalL (dJ p q).2 x=evalL p x:=by have hl:=ag8.2 o4;obtain⟨g1,g2⟩:=EN (cP hz o4) (by omega) (p.length+1) [] (aO p) (by have:=iz p;omega);refine⟨g1,fun x => ?_⟩;show evalL (pM _ _ _ _).1 x*_+evalL (pM _ _ _ _).2 x=_;rw[g2 x,bF];show(0:Rat)*_+_=_;grind
theorem kq(p q:List Rat):aQ (dJ p q).1=false∧aQ (dJ p q).2=false:=EO _ _ _ rfl (bj _)
theorem jf:∀(p q:List Rat),p≠[]→q≠[]→coef (mulL p q) (p.length+q.length-2)=bx p*bx q
 |[],q,h,_=>absurd rfl h
 |[a],q,_,hq=>by
  have hl:=ag8.2 hq;rw[vx];show a*coef q ([a].length+q.length-2)+coef [0] _=a*coef q (q.length-1);rw[show [a].length+q.length-2=q.length-1 from by simp;omega];have:coef [0] (q.length-1)=0:=by
   cases q.length-1 with
   |zero=>rfl
   |succ n=>rfl
  rw[this,ai4]
 |a::b::r,q,_,hq=>by
  have hl:=ag8.2 hq;have ih:=jf (b::r) q (by simp) hq;rw[vx,eE (p:=q) (by simp;omega)];rw[show (a::b::r).length+q.length-2=((b::r).length+q.length-2)+1 from by simp;omega,fu,ih];have:bx (a::b::r)=bx (b::r):=by unfold bx;rw[show (a::b::r).length-1=((b::r).length-1)+1 from by simp,fu]
  rw[this];grind
theorem tW{p:List Rat}{i:Nat}(h:coef p i≠0):i<p.length:=by refine aiu fun e=>h (eE e)
theorem Cx{p q a r:List Rat}(hz:aQ q=false)(o4:q≠[])(ha:aQ a=false)(hr:aQ r=false)(hl:r.length<q.length)(h:∀x,evalL a x*evalL q x+evalL r x=evalL p x):dJ p q=(a,r):=by
 obtain⟨g1,g2⟩:=kp p hz o4;obtain⟨t1,t2⟩:=kq p q;have ea:(dJ p q).1=a:=by
  refine kV t1 ha (fun i => ?_);have key:aO (dw (dJ p q).1 (a7 (-1) a))=[]:=by
   refine afV fun et => ?_
   have h1:=jf _ q et o4;have h2:bx (aO (dw (dJ p q).1 (a7 (-1) a)))*bx q≠0:=by
    intro e;rcases agV.1 e with e|e
    ·exact cP (bj _) et e
    ·exact cP hz o4 e
   have h3:=fW (p:=mulL (aO (dw (dJ p q).1 (a7 (-1) a))) q) (q:=dw r (a7 (-1) (dJ p q).2)) (fun x=>by have:=g2 x;have:=h x;rw[aE,bF,bz,aX,bz,aX];grind) ((aO (dw (dJ p q).1 (a7 (-1) a))).length+q.length-2)
   rw[h1,iA,bZ] at h3;have hp:=ag8.2 et;rw[eE (p:=r) (by omega),eE (p:=(dJ p q).2) (by omega)] at h3;exact h2 (by rw[h3];grind)
  have:=dW (dw (dJ p q).1 (a7 (-1) a)) i;rw[key,iA,bZ,mG] at this;grind
 have er:(dJ p q).2=r:=by refine kV t2 hr (fW (fun x => ?_));have h1:=g2 x;have h2:=h x;rw[ea] at h1;grind
 exact Prod.ext ea er
theorem iB{p:List Rat} : aQ p=false→∀c,c≠0→aQ (a7 c p)=false:=by
 intro hz c hc;by_cases h:p=[]
 ·subst h;rfl
 ·have:=cP hz h;unfold bx at this;unfold aQ;have hl:=ag8.2 h;rw[ahX,gC,mH (by rw[gC];omega),bZ];show decide (c*_=0)=false;refine ags (fun e => ?_);rcases agV.1 e with e|e
  ·exact hc e
  ·exact this e
theorem Cy{c:Rat}(h:c≠0):1/c≠0:=by intro e;have:=agj (a:=1) h;rw[e,agJ] at this;exact absurd this (by decide)
theorem nv{p:List Rat}(hz:aQ p=false)(h:p≠[]):dG p=a7 (1/bx p) p:=by unfold dG;exact kU (iB hz _ (Cy (cP hz h)))
theorem ec(p:List Rat):aQ (dG p)=false:=bj _
theorem eH{p:List Rat}(hz:aQ p=false):(dG p).length=p.length:=by
 by_cases h:p=[]
 ·subst h;rfl
 ·rw[nv hz h,gC]
theorem iH{p:List Rat}(x:Rat):evalL (dG p) x=1/bx p*evalL p x:=by unfold dG;rw[bF,aX]
theorem uK{p:List Rat}(hz:aQ p=false)(h:p≠[]):dG p≠[]:=by intro e;have:=eH hz;rw[e] at this;exact h (afP this.symm)
theorem Iw{p:List Rat}{c:Rat}(hz:aQ p=false)(hc:c≠0):dG (a7 c p)=dG p:=by
 by_cases h:p=[]
 ·subst h;rfl
 ·have ht:=cP hz h;have e:bx (a7 c p)=c*bx p:=by unfold bx;rw[gC,bZ]
  refine kV (ec _) (ec _) (fW (fun x => ?_));rw[iH,iH,e,aX];have h1:=agj (a:=1) ht;have hct:c*bx p≠0:=fun e=>by rcases agV.1 e with e|e;exact hc e;exact ht e
  have h2:=agj (a:=1) hct;have h3:1/(c*bx p)*c=1/bx p:=by
   have:(1/(c*bx p)*c-1/bx p)*bx p=0:=by grind
   rcases agV.1 this with e|e
   ·grind
   ·exact absurd e ht
  grind
theorem zW{p:List Rat}(hz:aQ p=false):dG (dG p)=dG p:=by
 by_cases h:p=[]
 ·subst h;rfl
 ·rw[nv hz h,Iw hz (Cy (cP hz h)),nv hz h]
theorem MY{p q:List Rat}{a b:Rat}(hz:aQ q=false)(hq:q≠[])(ha:a≠0)(hb:b≠0):cb (a7 a p) (a7 b q)=a7 a (cb p q):=by
 obtain⟨g1,g2⟩:=kp p hz hq;obtain⟨t1,t2⟩:=kq p q;have gM:a/b≠0:=by intro e;have:=agj (a:=a) hb;rw[e,agJ] at this;exact ha this.symm
 have:=Cx (p:=a7 a p) (q:=a7 b q) (a:=a7 (a/b) (dJ p q).1) (r:=a7 a (dJ p q).2) (iB hz b hb) (by
  intro e;have:=ah8 List.length e;rw[gC] at this;exact hq (afP this)) (iB t1 _ gM) (iB t2 _ ha) (by rw[gC,gC];exact g1) (fun x=>by
  have h1:=g2 x;have h2:=agj (a:=a) hb;rw[aX,aX,aX,aX,←h1];grind)
 unfold cb;rw[this]
theorem gT(p q:List Rat):aQ (cb p q)=false:=(kq p q).2
theorem MZ(q:List Rat):a7 1 q=q:=by
 unfold a7
 conv=>rhs;rw[←ajO q]
 exact ahW (fun x _=>aht x)
theorem kr:∀(n:Nat) (p q:List Rat),aQ p=false→aQ q=false→aQ (lW n p q)=false
 |0,p,q,hp,_=>hp
 |n+1,p,q,hp,hq=>by
  rw[lW];cases Nat.beq q.length 0 with
  |true=>exact hp
  |false=>exact kr n _ _ hq (ec _)
theorem eM(p q:List Rat):aQ (cu p q)=false:=ec _
theorem AQ:∀(n:Nat) (p q:List Rat),p≠[]∨(q≠[]∧0<n)→lW n p q≠[]
 |0,p,q,h=>by rcases h with h|⟨_,h⟩;exact h;omega
 |n+1,p,q,h=>by
  rw[lW];by_cases hq:q.length=0
  ·rw[beq_iff.2 hq,afZ];rcases h with h|⟨h,_⟩
   ·exact h
   ·exact absurd (afP hq) h
  ·rw[jc.2 hq,agf];exact AQ n q _ (Or.inl (fun e=>hq (by rw[e];rfl)))
theorem AR{p:List Rat}(q:List Rat)(hp:aQ p=false)(hq:aQ q=false)(h:p≠[]):cu p q≠[]:=uK (kr _ _ _ hp hq) (AQ _ _ _ (Or.inl h))
def Dv(p q:List Rat):Prop:=∃u,∀x,evalL q x=evalL u x*evalL p x
def rK(p q:List Rat):Prop:=∃u v,∀x,evalL u x*evalL p x+evalL v x*evalL q x=1
def gp(t:List Rat):Nat→List Rat
 |0=>[1]
 |k+1=>mulL (gp t k) t
theorem eJ(c x:Rat):evalL [c] x=c:=by show 0*x+c=c;grind
theorem Cz(t:List Rat)(x:Rat):∀k,evalL (gp t k) x=evalL t x^k
 |0=>by rw[gp,eJ,aiI]
 |k+1=>by rw[gp,aE,Cz t x k,air]
theorem Dv.refl(p:List Rat):Dv p p:=⟨[1],fun x=>by rw[eJ,aht]⟩
theorem Dv.trans{p q r:List Rat}(h:Dv p q)(k:Dv q r):Dv p r:=by obtain⟨u,hu⟩:=h;obtain⟨v,hv⟩:=k;exact⟨mulL v u,fun x=>by rw[hv,hu,aE];grind⟩
theorem rK.symm{p q:List Rat}(h:rK p q):rK q p:=by obtain⟨u,v,e⟩:=h;exact⟨v,u,fun x=>by have:=e x;grind⟩
theorem rK.Th{p q r:List Rat}(h:rK p q)(k:Dv r p):rK r q:=by obtain⟨u,v,e⟩:=h;obtain⟨w,hw⟩:=k;exact⟨mulL u w,v,fun x=>by have:=e x;rw[hw] at this;rw[aE];grind⟩
theorem rK.mul{p q r:List Rat}(h:rK p q)(k:rK p r):rK p (mulL q r):=by
 obtain⟨u,v,e⟩:=h;obtain⟨u',v',e'⟩:=k;refine⟨dw u (mulL (mulL v q) u'),mulL v v',fun x => ?_⟩;have h1:=e x;have h2:=e' x;rw[bz,aE,aE,aE,aE];have:(evalL u x+evalL v x*evalL q x*evalL u' x)*evalL p x+evalL v x*evalL v' x*(evalL q x*evalL r x)=evalL u x*evalL p x+evalL v x*evalL q x*(evalL u' x*evalL p x+evalL v' x*evalL r x):=by grind
 rw[this,h2];grind
theorem rK.pow{p q:List Rat}(h:rK p q):∀k,rK p (gp q k)
 |0=>⟨[],[1],fun x=>by rw[gp,eJ];show(0:Rat)*_+_=_;grind⟩
 |k+1=>(h.pow k).mul h
theorem rK.dv{p q r:List Rat}(h:rK p q)(k:Dv p (mulL q r)):Dv p r:=by
 obtain⟨u,v,e⟩:=h;obtain⟨w,hw⟩:=k;refine⟨dw (mulL u r) (mulL v w),fun x => ?_⟩;have h1:=e x;have h2:=hw x;rw[aE] at h2;rw[bz,aE,aE];have:(evalL u x*evalL r x+evalL v x*evalL w x)*evalL p x=(evalL u x*evalL p x)*evalL r x+evalL v x*(evalL w x*evalL p x):=by grind
 rw[this,←h2];have:evalL u x*evalL p x*evalL r x+evalL v x*(evalL q x*evalL r x)=(evalL u x*evalL p x+evalL v x*evalL q x)*evalL r x:=by grind
 rw[this,h1,aht]
theorem LC{t a b:List Rat}(ht:aO t≠[])(h:∀x,evalL t x*evalL a x=evalL t x*evalL b x):∀x,evalL a x=evalL b x:=by
 have key:aO (dw a (a7 (-1) b))=[]:=by
  refine afV fun et => ?_
  have h1:=jf _ _ ht et;have h2:=fW (p:=mulL (aO t) (aO (dw a (a7 (-1) b)))) (q:=[]) (fun x=>by rw[aE,bF,bF,bz,aX];have:=h x;show _=(0:Rat);grind)
  rw[h2] at h1;rcases agV.1 h1.symm with e|e
  ·exact cP (bj _) ht e
  ·exact cP (bj _) et e
 intro x;have:=bF x (dw a (a7 (-1) b));rw[key,bz,aX] at this;have h0:(0:Rat)=evalL a x + -1*evalL b x:=this;grind
theorem Dv.len{p q:List Rat}(h:Dv p q)(hp:aQ p=false)(hq:aQ q=false)(h0:q≠[]):p≠[]∧p.length≤q.length:=by
 obtain⟨u,hu⟩:=h;have Vf:p≠[]:=by intro e;subst e;have:∀i,coef q i=coef [] i:=fW (fun x=>by rw[hu];show _*(0:Rat)=0;rw[ahM]);exact h0 (kV hq rfl this)
 have Vg:aO u≠[]:=by intro e;have:∀i,coef q i=coef [] i:=fW (fun x=>by rw[hu,←bF x u,e];show(0:Rat)*_=0;rw[agJ]);exact h0 (kV hq rfl this)
 refine⟨Vf,?_⟩;have h1:=jf _ p Vg Vf;have h2:=fW (p:=mulL (aO u) p) (q:=q) (fun x=>by rw[aE,bF,hu]);rw[h2] at h1;have h3:coef q ((aO u).length+p.length-2)≠0:=by
  rw[h1];intro e;rcases agV.1 e with e|e
  ·exact cP (bj _) Vg e
  ·exact cP hp Vf e
 have:=tW h3;have:=ag8.2 Vg;omega
theorem CA{p:List Rat}(hz:aQ p=false):Dv (dG p) p:=by
 by_cases h:p=[]
 ·subst h;exact Dv.refl _
 ·refine⟨[bx p],fun x => ?_⟩;rw[eJ,iH];have:=agj (a:=1) (cP hz h);grind
theorem Px(p:List Rat):Dv p (dG p):=⟨[1/bx p],fun x=>by rw[eJ,iH]⟩
theorem Ix:∀(n:Nat) (p q:List Rat),aQ p=false→aQ q=false→∃u v,∀x,evalL (lW n p q) x=evalL u x*evalL p x+evalL v x*evalL q x
 |0,p,q,_,_=>⟨[1],[],fun x=>by rw[eJ];show _=_+(0:Rat)*_;rw[lW];grind⟩
 |n+1,p,q,hp,hq=>by
  rw[lW];by_cases h:q.length=0
  ·rw[beq_iff.2 h,afZ];exact⟨[1],[],fun x=>by rw[eJ];show _=_+(0:Rat)*_;grind⟩
  ·have et:q≠[]:=fun e=>h (by rw[e];rfl)
   rw[jc.2 h,agf];obtain⟨u,v,e⟩:=Ix n q (dG (cb p q)) hq (ec _);obtain⟨g1,g2⟩:=kp p hq et;refine⟨a7 (1/bx (cb p q)) v,dw u (a7 (-(1/bx (cb p q))) (mulL v (dJ p q).1)),fun x => ?_⟩;have h2:evalL (dJ p q).1 x*evalL q x+evalL (cb p q) x=evalL p x:=g2 x;rw[e x,iH,bz,aX,aX,aE,←h2];grind
theorem LD:∀(n:Nat) (p q:List Rat),aQ p=false→aQ q=false→q.length<n→Dv (lW n p q) p∧Dv (lW n p q) q
 |0,p,q,_,_,h=>by omega
 |n+1,p,q,hp,hq,hn=>by
  rw[lW];by_cases h:q.length=0
  ·rw[beq_iff.2 h,afZ,afP h];exact⟨Dv.refl p,[],fun x=>by show(0:Rat)=0*_;rw[agJ]⟩
  ·have et:q≠[]:=fun e=>h (by rw[e];rfl)
   rw[jc.2 h,agf];obtain⟨g1,g2⟩:=kp p hq et;obtain⟨d1,d2⟩:=LD n q (dG (cb p q)) hq (ec _) (by rw[eH (gT _ _)];unfold cb;omega);have d3:=d2.trans (CA (gT p q));refine⟨?_,d1⟩;obtain⟨a,ha⟩:=d1;obtain⟨b,hb⟩:=d3;refine⟨dw (mulL (dJ p q).1 a) b,fun x => ?_⟩;have h2:evalL (dJ p q).1 x*evalL q x+evalL (cb p q) x=evalL p x:=g2 x;rw[←h2,bz,aE,hb x];have:=ha x;rw[this];grind
theorem CB(p q:List Rat)(hp:aQ p=false)(hq:aQ q=false):∃u v,∀x,evalL (cu p q) x=evalL u x*evalL p x+evalL v x*evalL q x:=by obtain⟨u,v,e⟩:=Ix (q.length+1) p q hp hq;unfold cu;refine⟨a7 (1/bx (lW (q.length+1) p q)) u,a7 (1/bx (lW (q.length+1) p q)) v,fun x => ?_⟩;rw[iH,aX,aX,e x];grind
theorem nI(p q:List Rat)(hp:aQ p=false)(hq:aQ q=false):Dv (cu p q) p∧Dv (cu p q) q:=by obtain⟨h1,h2⟩:=LD (q.length+1) p q hp hq (Nat.lt_succ_self _);have h3:=CA (kr (q.length+1) p q hp hq);exact⟨h3.trans h1,h3.trans h2⟩
theorem EP{p:List Rat}(hz:aQ p=false)(h:p.length=1):dG p=[1]:=by
 have et:p≠[]:=by intro e;rw[e] at h;cases h
 match p,h with
 |[a],_ =>have ha:a≠0:=cP hz et;rw[nv hz et];show[1/a*a]=[1];rw[agj ha]
theorem wv{p q:List Rat}(hp:aQ p=false)(hq:aQ q=false)(h:(cu p q).length=1):rK p q:=by
 have e:cu p q=[1]:=by have h1:=zW (kr (q.length+1) p q hp hq);have h2:=EP (eM p q) h;unfold cu at h2 ⊢;rw[←h1,h2]
 obtain⟨u,v,b⟩:=CB p q hp hq;refine⟨u,v,fun x => ?_⟩;rw[←b x,e,eJ]
theorem CC{p q:List Rat}(hp:aQ p=false)(hq:aQ q=false)(h:rK p q):cu p q=[1]:=by
 obtain⟨d1,d2⟩:=nI p q hp hq;obtain⟨u,v,e⟩:=h;obtain⟨a,ha⟩:=d1;obtain⟨b,hb⟩:=d2;have hd:Dv (cu p q) [1]:=⟨dw (mulL u a) (mulL v b),fun x=>by have:=e x;rw[ha,hb] at this;rw[eJ,bz,aE,aE];grind⟩
 obtain⟨g1,g2⟩:=hd.len (eM p q) (by rfl) (by simp);have hl:=ag8.2 g1;have g2:(cu p q).length≤1:=g2;have h1:=zW (kr (q.length+1) p q hp hq);have h2:=EP (eM p q) (by omega);unfold cu at h2 ⊢;rw[←h1,h2]
def dEv(p:List Rat)(x:Rat):Rat:=evalL (gz 1 (p.drop 1)) x
theorem cQ(p:List Rat)(x:Rat):evalL (an p) x=dEv p x:=DQ p x
theorem ER(x:Rat):∀(q:List Rat) (i:Nat),evalL (gz (i+1) q) x=evalL (gz i q) x+evalL q x
 |[],_=>by show(0:Rat)=0+0;grind
 |a::r,i=>by
  rw[gz,gz,evalL,evalL,evalL,ER x r (i+1)];have:(((i+1:Nat):Int):Rat)=((i:Int):Rat)+1:=by simp
  rw[this];grind
theorem mI(a:Rat)(p:List Rat)(x:Rat):dEv (a::p) x=evalL p x+x*dEv p x:=by
 show evalL (gz 1 p) x=_;rw[ER x p 0];have:evalL (gz 0 p) x=x*dEv p x:=by
  cases p with
  |nil=>show(0:Rat)=x*0;rw[ahM]
  |cons b r =>show evalL (gz 1 r) x*x+((0:Nat):Int)*b=x*evalL (gz 1 r) x;have:(((0:Nat):Int):Rat)=0:=rfl;rw[this];grind
 rw[this];grind
theorem Gh(x:Rat):dEv [] x=0:=rfl
theorem LF(x:Rat):∀p q:List Rat,dEv (dw p q) x=dEv p x+dEv q x
 |[],q=>by rw[dw,Gh,ajb]
 |a::p,[]=>by rw[dw,Gh,ai4]
 |a::p,b::q=>by rw[dw,mI,mI,mI,bz,LF x p q];grind
theorem CD(c x:Rat):∀p:List Rat,dEv (a7 c p) x=c*dEv p x
 |[]=>by show(0:Rat)=c*0;rw[ahM]
 |a::p=>by show dEv (c*a::a7 c p) x=_;rw[mI,mI,aX,CD c x p];grind
theorem uL(x:Rat)(q:List Rat):∀p:List Rat,dEv (mulL p q) x=dEv p x*evalL q x+evalL p x*dEv q x
 |[]=>by rw[mulL,Gh];show(0:Rat)=0*_+0*_;grind
 |a::p=>by rw[mulL,LF,CD,mI,mI,aE,uL x q p,evalL];grind
theorem rA{p q:List Rat}(h:∀x,evalL p x=evalL q x)(x:Rat):dEv p x=dEv q x:=by
 rw[←cQ,←cQ];have:an p=an q:=by rw[←vw p,←vw q,Iv h]
 rw[this]
theorem LG(t:List Rat)(x:Rat):∀k,evalL t x*dEv (gp t k) x=((k:Int):Rat)*(evalL (gp t k) x*dEv t x)
 |0=>by have:dEv (gp t 0) x=0:=rfl;rw[this];have:(((0:Nat):Int):Rat)=0:=rfl;rw[this];grind
 |k+1=>by
  have ih:=LG t x k;have:(((k+1:Nat):Int):Rat)=((k:Int):Rat)+1:=by simp
  rw[gp,uL,aE,this];grind
theorem AS{t:List Rat}(ht:aO t≠[])(k:Nat):aO (gp t k)≠[]:=by
 induction k with
 |zero=>rw[gp];decide
 |succ k ih =>
  intro e;have h1:=jf _ _ ih ht;have h2:=fW (p:=mulL (aO (gp t k)) (aO t)) (q:=[]) (fun x=>by rw[aE,bF,bF,←aE];show evalL (gp t (k+1)) x=_;rw[←bF,e])
  rw[h2] at h1;rcases agV.1 h1.symm with e|e
  ·exact cP (bj _) ih e
  ·exact cP (bj _) ht e
theorem Py{t:List Rat}(hz:aQ t=false)(h:2≤t.length)(k:Nat):k+1≤(aO (gp t k)).length:=by
 have et:t≠[]:=by intro e;rw[e] at h;simp at h
 have htr:=kU hz
 induction k with
 |zero=>have:=ag8.2 (AS (t:=t) (by rw[htr];exact et) 0);omega
 |succ k ih =>
  have h1:=jf _ t (AS (t:=t) (by rw[htr];exact et) k) et;have h2:coef (aO (gp t (k+1))) ((aO (gp t k)).length+t.length-2)≠0:=by
   rw[dW];have:=fW (p:=gp t (k+1)) (q:=mulL (aO (gp t k)) t) (fun x=>by rw[gp,aE,aE,bF]);rw[this,h1];intro e;rcases agV.1 e with e|e
   ·exact cP (bj _) (AS (t:=t) (by rw[htr];exact et) k) e
   ·exact cP hz et e
  have:=tW h2;omega
theorem lQ{p:List Rat}(h:p≠[]):(an p).length<p.length:=by have h1:=iz (gz 1 (p.drop 1));rw[ru,ahT] at h1;have:=ag8.2 h;have h2:(an p).length≤p.length-1:=h1;omega
structure Sq (p g f w:List Rat):Prop where
 pe:∀x,evalL p x=evalL f x*evalL g x
 de:∀x,dEv p x=evalL w x*evalL g x
 g0:aO g≠[]
 zg:aQ g=false
 zf:aQ f=false
 f0:f≠[]
 M0:rK f w
theorem Sq.rel{p g f w:List Rat}(s:Sq p g f w)(x:Rat):evalL f x*dEv g x=evalL g x*(evalL w x-dEv f x):=by have h1:=rA (q:=mulL f g) (fun x=>by rw[s.pe,aE]) x;rw[uL,s.de] at h1;grind
theorem Xv{p:List Rat}(hz:aQ p=false)(h0:p≠[]):∃w,Sq p (cu p (an p)) (dJ p (cu p (an p))).1 w:=by
 have AJ:=AR (an p) hz (bc p) h0;have hgz:=eM p (an p);obtain⟨d1,d2⟩:=nI p (an p) hz (bc p);obtain⟨u,hu⟩:=d1;obtain⟨w,hw⟩:=d2;have hdiv:=Cx (p:=p) (q:=cu p (an p)) (a:=aO u) (r:=[]) hgz AJ (bj u) rfl (ag8.2 AJ) (fun x=>by rw[bF,hu x];show _+(0:Rat)=_;rw[ai4])
 have e1:(dJ p (cu p (an p))).1=aO u:=by rw[hdiv]
 have hgt:aO (cu p (an p))≠[]:=by rw[kU hgz];exact AJ
 refine⟨w,⟨fun x=>by rw[e1,bF,hu x],fun x=>by rw[←cQ,hw x],hgt,hgz,(kq _ _).1,?_,?_⟩⟩
 ·rw[e1];intro e;have:∀i,coef p i=coef [] i:=fW (fun x=>by rw[hu,←bF x u,e];show(0:Rat)*_=0;rw[agJ]);exact h0 (kV hz rfl this)
 ·obtain⟨a,b,hb⟩:=CB p (an p) hz (bc p);refine⟨a,b,?_⟩;have:=LC (t:=cu p (an p)) (a:=dw (mulL a (dJ p (cu p (an p))).1) (mulL b w)) (b:=[1]) hgt (fun x=>by
   have h1:=hb x;rw[eJ,bz,aE,aE,e1,bF];have h2:=hu x;have h3:=hw x;rw[h2,h3] at h1;grind)
  intro x;have h:=this x;rw[bz,aE,aE,eJ] at h;exact h
theorem Sq.LH{p g f w t:List Rat}(s:Sq p g f w)(ht:aO t≠[])(h1:Dv t f)(h2:∃v,∀x,dEv f x=evalL v x*evalL t x):∀k,∃r,∀x,evalL g x=evalL (gp t k) x*evalL r x
 |0=>⟨g,fun x=>by rw[gp,eJ,aht]⟩
 |k+1=>by
  obtain⟨r,hr⟩:=s.LH ht h1 h2 k;obtain⟨f1,hf1⟩:=h1;obtain⟨v,hv⟩:=h2;have key:∀x,evalL f1 x*(((k:Int):Rat)*dEv t x*evalL r x+evalL t x*dEv r x)=evalL r x*(evalL w x-dEv f x):=by
   have:=LC (t:=gp t k) (a:=mulL f1 (dw (a7 ((k:Int):Rat) (mulL (an t) r)) (mulL t (an r)))) (b:=mulL r (dw w (a7 (-1) (an f)))) (AS ht k) (fun x=>by
    rw[aE,aE,bz,bz,aX,aX,aE,aE,cQ,cQ,cQ];have g1:=s.rel x;have g2:=rA (q:=mulL (gp t k) r) (fun x=>by rw[hr,aE]) x;rw[uL] at g2;have g3:=LG t x k;have g4:=hr x;have g5:=hf1 x;rw[g4,g2,g5] at g1;have:evalL f1 x*evalL t x*(dEv (gp t k) x*evalL r x+evalL (gp t k) x*dEv r x)=evalL f1 x*((evalL t x*dEv (gp t k) x)*evalL r x+evalL t x*evalL (gp t k) x*dEv r x):=by grind
    rw[this,g3] at g1;grind)
   intro x;have h:=this x;rw[aE,aE,bz,bz,aX,aX,aE,aE,cQ,cQ,cQ] at h;grind
  have hd:Dv t (mulL w r):=by
   have h3:=fun x=>rA (q:=mulL f1 t) (fun x=>by rw[hf1,aE]) x
   refine⟨dw (dw (a7 ((k:Int):Rat) (mulL r (dw v (a7 (-1) (an f1))))) (mulL f1 (an r))) (mulL r v),fun x => ?_⟩;have k1:=key x;have k2:=h3 x;rw[uL,hv] at k2;have k3:=hv x;rw[aE,bz,bz,aX,aE,bz,aX,aE,aE,cQ,cQ];have k4:evalL f1 x*dEv t x=(evalL v x-dEv f1 x)*evalL t x:=by grind
   have k5:evalL f1 x*(((k:Int):Rat)*dEv t x*evalL r x)=((k:Int):Rat)*((evalL v x-dEv f1 x)*evalL t x)*evalL r x:=by rw[←k4];grind
   have k6:evalL w x*evalL r x=evalL f1 x*(((k:Int):Rat)*dEv t x*evalL r x)+evalL f1 x*(evalL t x*dEv r x)+evalL r x*dEv f x:=by grind
   rw[k6,k5,k3];grind
  obtain⟨r1,wQ⟩:=(s.M0.Th ⟨f1,hf1⟩).dv hd;exact⟨r1,fun x=>by rw[hr,wQ,gp,aE];grind⟩
theorem Sq.free{p g f w:List Rat}(s:Sq p g f w):rK f (an f):=by
 refine wv s.zf (bc f) ?_;have et:=AR (an f) s.zf (bc f) s.f0;have hl:=ag8.2 et;refine afV fun h => ?_
 have h2:2≤(cu f (an f)).length:=by omega
 have hz:=eM f (an f);obtain⟨d1,d2⟩:=nI f (an f) s.zf (bc f);obtain⟨v,hv⟩:=d2;obtain⟨r,hr⟩:=s.LH (t:=cu f (an f)) (by rw[kU hz];exact et) d1 ⟨v,fun x=>by rw[←cQ,hv]⟩ g.length;have Vh:Dv (aO (gp (cu f (an f)) g.length)) g:=⟨r,fun x=>by rw[bF,hr];grind⟩;have hg:g≠[]:=by intro e;exact s.g0 (by rw[e];rfl)
 have:=(Vh.len (bj _) s.zg hg).2;have:=Py hz h2 g.length;omega
theorem Sq.Ti{p g f w:List Rat}(s:Sq p g f w):∀(n i:Nat) (e r:List Rat),r.length≤n→aQ r=false→(∀x,evalL g x=evalL e x*evalL r x)→Dv e (gp f i)→Dv g (gp f (i+n))
 |n,i,e,r,hl,hz,hg,hd=>by
  have up:∀m,Dv e (gp f (i+m)):=by
   intro m
   induction m with
   |zero=>exact hd
   |succ m ih =>obtain⟨u,hu⟩:=ih;exact⟨mulL u f,fun x=>by show evalL (mulL (gp f (i+m)) f) x=_;rw[aE,hu,aE];grind⟩
  have G6:r≠[]:=by intro e';have:∀i,coef g i=coef [] i:=fW (fun x=>by rw[hg,e'];show _*(0:Rat)=0;rw[ahM]);exact s.g0 (by rw[kU s.zg];exact kV s.zg rfl this)
  have Vi:=ag8.2 G6;by_cases h1:r.length=1
  ·match r,h1 with
   |[c],_ =>have hc:c≠0:=cP hz G6;obtain⟨u,hu⟩:=up n;refine⟨a7 (1/c) u,fun x => ?_⟩;have h2:=hg x;rw[eJ] at h2;have h3:=agj (a:=1) hc;rw[hu,aX,h2];grind
  ·obtain⟨m,rfl⟩:∃m,n=m+1:=⟨n-1,by omega⟩;have Xw:=AR f hz s.zf G6;have htz:=eM r f;have x7:=ag8.2 Xw;obtain⟨d1,d2⟩:=nI r f hz s.zf;have h2:2≤(cu r f).length:=by
    refine afV fun bH => ?_
    have hc:=wv hz s.zf (by omega:(cu r f).length=1);have hce:rK r e:=((hc.pow i).symm.Th hd).symm;have uT:Dv r (mulL (mulL f e) (an r)):=by refine⟨dw (mulL e (dw w (a7 (-1) (an f)))) (a7 (-1) (mulL f (an e))),fun x => ?_⟩;have g1:=s.rel x;have g2:=rA (q:=mulL e r) (fun x=>by rw[hg,aE]) x;rw[uL] at g2;rw[g2,hg] at g1;rw[aE,aE,bz,aE,bz,aX,aX,aE,cQ,cQ,cQ];grind
    have Rp:=(hc.mul hce).dv uT;by_cases Iy:an r=[]
    ·
     have key:∀i,coef (gz 1 (r.drop 1)) i=0:=by intro i;have:=dW (gz 1 (r.drop 1)) i;have e2:aO (gz 1 (r.drop 1))=[]:=Iy;rw[e2,mG] at this;exact this.symm
     have HQ:∀(q:List Rat) (i j:Nat),coef (gz i q) j=((i+j:Nat):Int)*coef q j:=by
      intro q
      induction q with
      |nil=>intro i j;show(0:Rat)=_*0;rw[ahM]
      |cons a q ih =>
       intro i j;cases j with
       |zero=>rfl
       |succ j=>rw[gz,fu,fu,ih (i+1) j,show i+1+j=i+(j+1) from by omega]
     have hk:=key (r.length-2);rw[HQ] at hk;have yi:coef (r.drop 1) (r.length-2)=bx r:=by
      unfold bx;rw[show r.length-1=(r.length-2)+1 from by omega];cases r with
      |nil=>rfl
      |cons a q=>rfl
     rw[yi] at hk;rcases agV.1 hk with h|h
     ·have:=aj4.1 (show (((1+(r.length-2):Nat):Int):Rat)=((0:Int):Rat) from h);omega
     ·exact cP hz G6 h
    ·have:=(Rp.len hz (bc r) Iy).2;have h3:=iz (gz 1 (r.drop 1));rw[ru,ahT] at h3;have h4:(an r).length≤r.length-1:=h3;omega
   obtain⟨r1,wQ⟩:=d1;have H7:=bj r1;have I8:(aO r1).length≤m:=by
    have s9:Dv (aO r1) r:=⟨cu r f,fun x=>by rw[bF,wQ];grind⟩;have Pz:=(s9.len H7 hz G6).1;have h5:=jf _ _ Pz Xw;have h6:=fW (p:=mulL (aO r1) (cu r f)) (q:=r) (fun x=>by rw[aE,bF,wQ]);rw[h6] at h5;have h7:coef r ((aO r1).length+(cu r f).length-2)≠0:=by
     rw[h5];intro e';rcases agV.1 e' with e'|e'
     ·exact cP H7 Pz e'
     ·exact cP htz Xw e'
    have:=tW h7;have:=ag8.2 Pz;omega
   have:=s.Ti m (i+1) (mulL e (cu r f)) (aO r1) I8 H7 (fun x=>by rw[hg,wQ,aE,bF];grind) (by obtain⟨u,hu⟩:=hd;obtain⟨v,hv⟩:=d2;refine⟨mulL u v,fun x => ?_⟩;show evalL (mulL (gp f i) f) x=_;rw[aE,aE,aE,hu,hv];grind)
   rwa[show i+1+m=i+(m+1) from by omega] at this
 termination_by n=>n
theorem Sq.all{p g f w:List Rat}(s:Sq p g f w):Dv p (gp f (g.length+1)):=by obtain⟨u,hu⟩:=s.Ti g.length 0 [1] g (afY _) s.zg (fun x=>by rw[eJ,aht]) ⟨[1],fun x=>by rw[gp,eJ,aht]⟩;rw[agQ] at hu;refine⟨u,fun x => ?_⟩;rw[gp,aE,hu,s.pe];grind
def ab(x:Rat):Rat:=if 0≤x then x else -x
theorem bf(x:Rat):(0≤x∧ab x=x)∨(x<0∧ab x = -x):=by
 unfold ab;by_cases h:0≤x
 ·rw[ag9 h];exact Or.inl ⟨h,rfl⟩
 ·rw[ag7 h];exact Or.inr ⟨by grind,rfl⟩
theorem bU(x:Rat):0≤ab x:=by rcases bf x with h|h<;>grind
theorem yW{x:Rat}(h:x≠0):0<ab x:=by rcases bf x with h|h<;>grind
theorem Iz{x c:Rat}(h1:x≤c)(h2 : -x≤c):ab x≤c:=by rcases bf x with h|h<;>grind
theorem tX(x:Rat):x≤ab x:=by rcases bf x with h|h<;>grind
theorem kt(x:Rat) : -x≤ab x:=by rcases bf x with h|h<;>grind
theorem wz(x:Rat):ab (-x)=ab x:=by rcases bf x with h|h<;>rcases bf (-x) with k|k<;>grind
theorem sG(x y:Rat):ab (x+y)≤ab x+ab y:=by have h1:=tX x;have h2:=kt x;have h3:=tX y;have h4:=kt y;exact Iz (by grind) (by grind)
theorem jZ(x y:Rat):ab (x*y)=ab x*ab y:=by
 rcases bf x with ⟨h1,e1⟩|⟨h1,e1⟩<;>rcases bf y with ⟨h2,e2⟩|⟨h2,e2⟩<;>rw[e1,e2]
 ·have:=agP h1 h2;rcases bf (x*y) with h|h<;>grind
 ·have:=agP h1 (show 0 ≤ -y by grind);rcases bf (x*y) with h|h<;>grind
 ·have:=agP (show 0 ≤ -x by grind) h2;rcases bf (x*y) with h|h<;>grind
 ·have:=agP (show 0 ≤ -x by grind) (show 0 ≤ -y by grind);rcases bf (x*y) with h|h<;>grind
theorem sH:ab 0=0:=rfl
theorem ee{a b c d:Rat}(h1:a≤b)(h2:c≤d)(h3:0≤a)(h4:0≤d):a*c≤b*d :=
 agN (ag5 h2 h3) (ag1 h1 h4)
def nrm:List Rat→Rat→Rat
 |[],_=>0
 |a::r,R=>nrm r R*R+ab a
def lip:List Rat→Rat→Rat
 |[],_=>0
 |_::r,R=>lip r R*R+nrm r R
def sec:List Rat→Rat→Rat
 |[],_=>0
 |_::r,R=>sec r R*R+lip r R
theorem ny{R:Rat}(hR:0≤R):∀p,0≤nrm p R
 |[]=>ag2
 |a::r=>by have h1:=agP (ny hR r) hR;have h2:=bU a;rw[nrm];grind
theorem gU{R:Rat}(hR:0≤R):∀p,0≤lip p R
 |[]=>ag2
 |a::r=>by have h1:=agP (gU hR r) hR;have h2:=ny hR r;rw[lip];grind
theorem nA{R:Rat}(hR:0≤R):∀p,0≤sec p R
 |[]=>ag2
 |a::r=>by have h1:=agP (nA hR r) hR;have h2:=gU hR r;rw[sec];grind
theorem sI{R x:Rat}(hx:ab x≤R):∀p,ab (evalL p x)≤nrm p R
 |[]=>ag2
 |a::r=>by have h1:=sI hx r;have h2:=sG (evalL r x*x) a;rw[jZ] at h2;have h3:=ee h1 hx (bU _) (agN (bU x) hx);rw[evalL,nrm];grind
theorem Gi{R x y:Rat}(hx:ab x≤R)(hy:ab y≤R):∀p,ab (evalL p x-evalL p y)≤lip p R*ab (x-y)
 |[]=>by show ab (0-0)≤0*_;rw[show (0:Rat)-0=0 from by grind,sH,agJ];exact ag2
 |a::r=>by
  have h0:=agN (bU x) hx;have h1:=Gi hx hy r;have h2:=sI hy r;have e:evalL (a::r) x-evalL (a::r) y=(evalL r x-evalL r y)*x+evalL r y*(x-y):=by rw[evalL,evalL];grind
  rw[e];have h3:=sG ((evalL r x-evalL r y)*x) (evalL r y*(x-y));rw[jZ,jZ] at h3;have h4:=ee h1 hx (bU _) h0;have h5:=ag1 h2 (bU (x-y));rw[lip];grind
theorem PA{R x:Rat}(hx:ab x≤R):∀p,ab (dEv p x)≤lip p R
 |[]=>ag2
 |a::r=>by have h1:=PA hx r;have h2:=sI hx r;have h3:=sG (evalL r x) (x*dEv r x);rw[jZ] at h3;have h4:=ee hx h1 (bU _) (gU (agN (bU x) hx) r);rw[mI,lip];grind
def LI(x y:Rat):List Rat→Rat
 |[]=>0
 |_::r=>dEv r x+y*LI x y r
theorem Km(x y:Rat):∀p,evalL p y=evalL p x+(y-x)*dEv p x+(y-x)*(y-x)*LI x y p
 |[]=>by show(0:Rat)=0+(y-x)*0+(y-x)*(y-x)*0;grind
 |a::r=>by have:=Km x y r;rw[evalL,evalL,mI,LI,this];grind
theorem Ko{R x y:Rat}(hx:ab x≤R)(hy:ab y≤R):∀p,ab (LI x y p)≤sec p R
 |[]=>ag2
 |a::r=>by have h0:=agN (bU x) hx;have h1:=Ko hx hy r;have h2:=PA hx r;have h3:=sG (dEv r x) (y*LI x y r);rw[jZ] at h3;have h4:=ee hy h1 (bU _) (nA h0 r);rw[LI,sec];grind
def sg(x:Rat):Int:=iy x 0
theorem cL(x:Rat):(x<0∧sg x = -1)∨(x=0∧sg x=0)∨(0<x∧sg x=1):=by
 unfold sg iy;by_cases h:x<0
 ·rw[ag9 h];exact Or.inl ⟨h,rfl⟩
 ·rw[ag7 h];by_cases h2:x=0
  ·rw[ag9 h2];exact Or.inr (Or.inl ⟨h2,rfl⟩)
  ·rw[ag7 h2];exact Or.inr (Or.inr ⟨by grind,rfl⟩)
def varS:Int→List Int→Int
 |_,[]=>0
 |l,s::r=>if s=0 then varS l r else (if s = -l then 1 else 0)+varS s r
def eZ(G:List (List Rat))(x:Rat):Int:=varS 0 (G.map (fun g=>sg (evalL g x)))
inductive RZ:Int→List (Int×Int)→Prop
 |nil (s:Int):RZ s []
 |same {s t:Int} {l:List (Int×Int)} (ht:t=1∨t = -1) (h:RZ t l):RZ s ((t,t)::l)
 |pK {s a b:Int} {l:List (Int×Int)} (hs:s=1∨s = -1) (ha:a=0∨a=1∨a = -1) (hb:b=0∨b=1∨b = -1) (h:RZ (-s) l):RZ s ((a,b)::(-s, -s)::l)
theorem LJ{s a:Int}(hs:s=1∨s = -1)(ha:a=0∨a=1∨a = -1)(l:List Int):varS s (a :: -s::l)=1+varS (-s) l:=by rcases hs with rfl|rfl<;>rcases ha with rfl|rfl|rfl<;>simp[varS]
theorem RZ.eq{s:Int}{l:List (Int×Int)}(h:RZ s l):varS s (l.map Prod.fst)=varS s (l.map Prod.snd):=by
 induction h with
 |nil s=>rfl
 |same ht h ih =>rw[agD,agD];rcases ht with rfl|rfl<;>simp[varS,ih]
 |pK hs ha hb h ih =>rw[agD,agD,agD,agD,LJ hs ha,LJ hs hb,ih]
def IA(Q κ x:Rat):List (List Rat)→Prop
 |[]=>False
 |[g]=>κ≤ab (evalL g x)
 |[g,h]=>κ≤ab (evalL h x)
 |g::h::k::r=>ab (evalL g x+evalL k x)≤Q*ab (evalL h x)∧IA Q κ x (h::k::r)
theorem IA.max{Q κ x η:Rat}(hQ:0≤Q)(hη:0<η):∀(r:List (List Rat)) (g h:List Rat) (N:Nat),IA Q κ x (g::h::r)→r.length≤N→(Q+1)^N*η≤κ→η≤ab (evalL g x)∨η≤ab (evalL h x)
 |[],g,h,N,hl,hN,hk=>by
  have hl:κ≤ab (evalL h x):=hl;right;have key:∀n:Nat,1≤(Q+1)^n:=by
   intro n
   induction n with
   |zero=>rw[aiI];exact ag2
   |succ n ih =>rw[air];have:=agP (show 0≤(Q+1)^n by grind) hQ;grind
  have:=ag1 (key N) (age hη);grind
 |k::r,g,h,N,hl,hN,hk=>by
  obtain⟨N,rfl⟩:∃m,N=m+1:=⟨N-1,by rw[agn] at hN;omega⟩;have hl:ab (evalL g x+evalL k x)≤Q*ab (evalL h x)∧IA Q κ x (h::k::r):=hl;obtain⟨h1,h2⟩:=hl;have aaT:0<(Q+1)*η:=ahH (by grind) hη;rcases IA.max hQ aaT r h k N h2 (by rw[agn] at hN;omega) (by rw[air] at hk;grind) with e|e
  ·right;have:=agP hQ (age hη);grind
  ·by_cases hh:η≤ab (evalL h x)
   ·exact Or.inr hh
   ·left;have h3:=sG (evalL g x+evalL k x) (-(evalL g x));rw[wz,show evalL g x+evalL k x + -(evalL g x)=evalL k x from by grind] at h3;have h4:=ag5 (show ab (evalL h x)≤η by grind) hQ;grind
def Tj(ε u v:Rat)(g:List Rat)(s:Int):Prop:=∀x,u≤x→x≤v→sg (evalL g x)=s∧ε≤ab (evalL g x)
def Small(ε u v:Rat)(g:List Rat):Prop:=∀x,u≤x→x≤v→ab (evalL g x)<2*ε
theorem eK{x u v R:Rat}(h1:u≤x)(h2:x≤v)(hu:ab u≤R)(hv:ab v≤R):ab x≤R:=by have a:=kt u;have b:=tX v;exact Iz (by grind) (by grind)
theorem mJ{R L ε u v:Rat}(g:List Rat)(hu:ab u≤R)(hv:ab v≤R)(n5:u≤v)(hL:lip g R≤L)(hε:0<ε)(hd:L*(v-u)≤ε):(∃s,(s=1∨s = -1)∧Tj ε u v g s)∨Small ε u v g:=by
 have var:∀x y,u≤x→x≤v→u≤y→y≤v→ab (evalL g x-evalL g y)≤ε:=by intro x y h1 h2 h3 h4;have d:=Gi (eK h1 h2 hu hv) (eK h3 h4 hu hv) g;have hR:=agN (bU u) hu;have CE:ab (x-y)≤v-u:=Iz (by grind) (by grind);have:=ee hL CE (gU hR g) (by grind);grind
 by_cases hs:∃x,u≤x∧x≤v∧ab (evalL g x)<ε
 ·right;obtain⟨x,h1,h2,h3⟩:=hs;intro y h4 h5;have:=var y x h4 h5 h1 h2;have:=sG (evalL g y-evalL g x) (evalL g x);rw[show evalL g y-evalL g x+evalL g x=evalL g y from by grind] at this;grind
 ·left;have hb:∀x,u≤x→x≤v→ε≤ab (evalL g x):=fun x h1 h2=>by
   refine aji.1 fun h=>hs ⟨x,h1,h2,h⟩
  have h0:=hb u ag2 n5;rcases cL (evalL g u) with ⟨k1,k2⟩|⟨k1,k2⟩|⟨k1,k2⟩
  ·refine⟨-1,Or.inr rfl,fun x h1 h2=>⟨?_,hb x h1 h2⟩⟩;have v1:=var x u h1 h2 ag2 n5;have v2:=hb x h1 h2;have v3:=tX (evalL g x-evalL g u);rcases bf (evalL g u) with c|c
   ·grind
   ·rcases cL (evalL g x) with ⟨m1,m2⟩|⟨m1,m2⟩|⟨m1,m2⟩
    ·exact m2
    ·rw[m1,sH] at v2;grind
    ·rcases bf (evalL g x) with c2|c2<;>grind
  ·rw[k1,sH] at h0;grind
  ·refine⟨1,Or.inl rfl,fun x h1 h2=>⟨?_,hb x h1 h2⟩⟩;have v1:=var u x ag2 n5 h1 h2;have v2:=hb x h1 h2;have v3:=tX (evalL g u-evalL g x);rcases bf (evalL g u) with c|c
   ·rcases cL (evalL g x) with ⟨m1,m2⟩|⟨m1,m2⟩|⟨m1,m2⟩
    ·rcases bf (evalL g x) with c2|c2<;>grind
    ·rw[m1,sH] at v2;grind
    ·exact m2
   ·grind
theorem mK(x:Rat):sg x=0∨sg x=1∨sg x = -1:=by rcases cL x with h|h|h<;>simp[h.2]
theorem Vj{a b η:Rat}{s:Int}(ha:η≤ab a)(hs:sg a=s)(h:ab (a+b)<η):sg b = -s:=by have h1:=tX (a+b);have h2:=kt (a+b);rcases cL a with ⟨k1,k2⟩|⟨k1,k2⟩|⟨k1,k2⟩<;>rcases cL b with ⟨m1,m2⟩|⟨m1,m2⟩|⟨m1,m2⟩<;>rcases bf a with c|c<;>first|(subst hs;simp[k2,m2];done)|(exfalso;grind)
theorem Gj{R L Q κ η ε u v:Rat}(hu:ab u≤R)(hv:ab v≤R)(n5:u≤v)(hQ:0≤Q)(hη:0<η)(hε:0<ε)(PB:2*ε≤η)(PC:Q*(2*ε)<η)(hd:L*(v-u)≤ε){N:Nat}(hN:(Q+1)^N*η≤κ) :
  ∀(n:Nat) (r:List (List Rat)) (g:List Rat) (s:Int),r.length≤n→n≤N→(∀h∈r,lip h R≤L)→(s=1∨s = -1)→Tj ε u v g s→(∀x,u≤x→x≤v→IA Q κ x (g::r))→RZ s (r.map (fun h=>(sg (evalL h u),sg (evalL h v))))
 |n,[],g,s,_,_,_,_,_,_ => .nil s
 |0,h::r,g,s,hn,_,_,_,_,_=>by simp at hn
 |n+1,h::r,g,s,hn,hnN,IB,hs,hg,hl=>by
  rw[agn] at hn;have Vk:∀x,u≤x→x≤v→IA Q κ x (h::r):=fun x h1 h2=>by
   have:=hl x h1 h2;cases r with
   |nil=>exact this
   |cons k r=>exact this.2
  have yn:∀x,u≤x→x≤v→η≤ab (evalL g x)∨η≤ab (evalL h x):=fun x h1 h2=>IA.max hQ hη r g h N (hl x h1 h2) (by omega) hN
  rw[agD];rcases mJ h hu hv n5 (IB h (agM ..)) hε hd with ⟨t,ht,hb⟩|MB
  ·rw[(hb u ag2 n5).1,(hb v n5 ag2).1];exact .same ht (Gj hu hv n5 hQ hη hε PB PC hd hN n r h t (by omega) (by omega) (fun k hk=>IB k (agm _ hk)) ht hb Vk)
  ·cases r with
   |nil =>
    exfalso;have h1:κ≤ab (evalL h u):=hl u ag2 n5;have h2:=MB u ag2 n5;have key:∀n:Nat,1≤(Q+1)^n:=by
     intro n
     induction n with
     |zero=>rw[aiI];exact ag2
     |succ n ih =>rw[air];have:=agP (show 0≤(Q+1)^n by grind) hQ;grind
    have:=ag1 (key N) (age hη);grind
   |cons k r =>
    rw[agn] at hn;obtain⟨m,rfl⟩:∃m,n=m+1:=⟨n-1,by omega⟩;have hk:Tj ε u v k (-s):=by
     intro x h1 h2;obtain⟨e1,e2⟩:=hg x h1 h2;have e3:=MB x h1 h2;have e4:η≤ab (evalL g x):=by rcases yn x h1 h2 with e|e;exact e;grind
     have e5:ab (evalL g x+evalL k x)≤Q*ab (evalL h x):=(hl x h1 h2).1;have e6:=ag5 (age e3) hQ;have e7:η≤ab (evalL h x)∨η≤ab (evalL k x):=IA.max hQ hη r h k N (Vk x h1 h2) (by omega) hN;refine⟨Vj e4 e1 (by grind),?_⟩;rcases e7 with e|e<;>grind
    rw[agD,(hk u ag2 n5).1,(hk v n5 ag2).1];refine .pK hs (mK _) (mK _) (Gj hu hv n5 hQ hη hε PB PC hd hN m r k (-s) (by omega) (by omega) (fun k' My=>IB k' (agm _ (agm _ My))) (by omega) hk ?_);intro x h1 h2;have:=Vk x h1 h2;cases r with
    |nil=>exact this
    |cons k' r=>exact this.2
def chainF:Nat→List Rat→List Rat→List (List Rat)
 |0,p,_=>[p]
 |n+1,p,d=>bif Nat.beq d.length 0 then [p] else p::chainF n d (aO (a7 (-1) (cb p d)))
def aZ(p:List Rat):List (List Rat):=chainF (aY p).length (aY p) (an (aY p))
theorem j5(n:Nat)(p:List Rat):chainF n p []=[p]:=by cases n<;>rfl
theorem gN{n:Nat}{p d:List Rat}(h:d≠[]):chainF (n+1) p d=p::chainF n d (aO (a7 (-1) (cb p d))):=by rw[chainF,jc.2 (fun e=>h (afP e)),agf]
theorem tY(n:Nat)(p d:List Rat):∃r,chainF n p d=p::r:=by
 cases n with
 |zero=>exact⟨[],rfl⟩
 |succ n =>
  rw[chainF];cases Nat.beq d.length 0 with
  |true=>exact⟨[],rfl⟩
  |false=>exact⟨_,rfl⟩
theorem wA:∀(n:Nat) (p d:List Rat),(chainF n p d).length≤n+1
 |0,p,d=>by simp[chainF]
 |n+1,p,d=>by
  rw[chainF];cases Nat.beq d.length 0 with
  |true=>simp
  |false=>rw[agf,agn];have:=wA n d (aO (a7 (-1) (cb p d)));omega
theorem IA.mono{Q Q' κ κ' x:Rat}(hQ:Q≤Q')(hκ:κ'≤κ):∀(G:List (List Rat)),IA Q κ x G→IA Q' κ' x G
 |[],h=>h
 |[g],h=>agN hκ h
 |[g,k],h=>agN hκ h
 |g::h::k::r,hl=>⟨agN hl.1 (ag1 hQ (bU _)),IA.mono hQ hκ (h::k::r) hl.2⟩
theorem nJ{p d:List Rat}(hd:aQ d=false)(h0:d≠[])(x:Rat):evalL p x+evalL (aO (a7 (-1) (cb p d))) x=evalL (dJ p d).1 x*evalL d x:=by have h:evalL (dJ p d).1 x*evalL d x+evalL (cb p d) x=evalL p x:=(kp p hd h0).2 x;rw[bF,aX];grind
theorem kx{p d:List Rat}(hd:aQ d=false)(h0:d≠[]):(aO (a7 (-1) (cb p d))).length<d.length:=by have h:=(kp p hd h0).1;have h1:=iz (a7 (-1) (cb p d));rw[gC] at h1;have:(cb p d).length<d.length:=h;omega
theorem CF{p d:List Rat}(hd:aQ d=false)(h0:d≠[])(h:rK p d):rK d (aO (a7 (-1) (cb p d))):=by
 obtain⟨u,v,e⟩:=h;refine⟨dw (mulL u (dJ p d).1) v,a7 (-1) u,fun x => ?_⟩;have h1:=e x;have h2:=nJ (p:=p) hd h0 x;have h3:evalL p x=evalL (dJ p d).1 x*evalL d x-evalL (aO (a7 (-1) (cb p d))) x:=by grind
 rw[bz,aE,aX];rw[h3] at h1;grind
theorem CG{p d:List Rat}(hd:aQ d=false)(h0:d≠[])(h:rK p d)(hr:aO (a7 (-1) (cb p d))=[]):∃c,d=[c]∧c≠0:=by
 obtain⟨u,v,e⟩:=h;have Vh:Dv d [1]:=⟨dw (mulL u (dJ p d).1) v,fun x=>by
  have h1:=e x;have h2:=nJ (p:=p) hd h0 x;rw[hr] at h2;have h2:evalL p x+0=evalL (dJ p d).1 x*evalL d x:=h2;rw[eJ,bz,aE];have h3:evalL p x=evalL (dJ p d).1 x*evalL d x:=by grind
  rw[h3] at h1;grind⟩
 obtain⟨g1,g2⟩:=Vh.len hd rfl (by simp);have g2:d.length≤1:=g2
 match d,g1,g2 with
 |[c],g1,_=>exact⟨c,rfl,cP hd g1⟩
theorem CH{R:Rat}(hR:0≤R):∀(n:Nat) (p d:List Rat),aQ p=false→aQ d=false→d≠[]→rK p d→d.length<n+1→∃Q κ,0≤Q∧0<κ∧∀x,ab x≤R→IA Q κ x (chainF n p d)
 |0,p,d,_,_,h0,_,hl=>absurd (afP (by omega)) h0
 |n+1,p,d,hp,hd,h0,hc,hl=>by
  rw[gN h0];by_cases hr:aO (a7 (-1) (cb p d))=[]
  ·obtain⟨c,rfl,zS⟩:=CG hd h0 hc hr;rw[hr,j5];refine⟨0,ab c,ag2,yW zS,fun x _ => ?_⟩;show ab c≤ab (evalL [c] x);rw[eJ];exact ag2
  ·have hln:=kx (p:=p) hd h0;obtain⟨Q,κ,h1,h2,h3⟩:=CH hR n d (aO (a7 (-1) (cb p d))) hd (bj _) hr (CF hd h0 hc) (by omega);have hn:=ny hR (dJ p d).1;refine⟨Q+nrm (dJ p d).1 R,κ,by grind,h2,fun x hx => ?_⟩;have h4:=(h3 x hx).mono (show Q≤Q+nrm (dJ p d).1 R by grind) (ag2 (a:=κ));obtain⟨m,rfl⟩:∃m,n=m+1:=⟨n-1,by
    have:=ag8.2 hr;omega⟩
   rw[gN hr] at h4 ⊢;obtain⟨r,e⟩:=tY m (aO (a7 (-1) (cb p d))) (aO (a7 (-1) (cb d (aO (a7 (-1) (cb p d))))));rw[e] at h4 ⊢;refine⟨?_,h4⟩;rw[nJ hd h0,jZ];have h5:=sI hx (dJ p d).1;exact ag1 (by grind) (bU _)
def lipA(R:Rat):List (List Rat)→Rat
 |[]=>0
 |g::r=>lip g R+lipA R r
theorem tZ{R:Rat}(hR:0≤R):∀G,0≤lipA R G
 |[]=>ag2
 |g::r=>by have h1:=gU hR g;have h2:=tZ hR r;rw[lipA];grind
theorem PD{R:Rat}(hR:0≤R):∀(G:List (List Rat)) (g:List Rat),g∈G→lip g R≤lipA R G
 |[],g,h=>by cases h
 |a::r,g,h=>by
  have h1:=gU hR a;have h2:=tZ hR r;rw[lipA];rcases agp.1 h with e|h
  ·rw[e];grind
  ·have:=PD hR r g h;grind
def Loc(f:List Rat)(G:List (List Rat))(ε u v:Rat):Prop :=
 ((∃s,(s=1∨s = -1)∧Tj ε u v f s)∧eZ G u=eZ G v) ∨
 (∃s:Int,(s=1∨s = -1)∧(∀x y,u≤x→x<y→y≤v→0<(s:Rat)*(evalL f y-evalL f x))∧eZ G u+(if sg (evalL f v) = -s then 1 else 0)=eZ G v+(if sg (evalL f u) = -s then 1 else 0))
theorem LK{R ε δ u v:Rat}{f:List Rat}{s:Int}(hu:ab u≤R)(hv:ab v≤R)(hs:s=1∨s = -1)(hb:Tj ε u v (an f) s)(hε:0<ε)(hd:sec f R*(v-u)<ε):∀x y,u≤x→x<y→y≤v→0<(s:Rat)*(evalL f y-evalL f x):=by
 intro x y h1 h2 h3;have hx:=eK (x:=x) h1 (by grind) hu hv;have hy:=eK (x:=y) (by grind) h3 hu hv;have hR:=agN (bU u) hu;have t:=Km x y f;have ht:=Ko hx hy f;obtain⟨b1,b2⟩:=hb x h1 (by grind);rw[cQ] at b1 b2;have hw:ab ((y-x)*LI x y f)<ε:=by
  rw[jZ];have e:ab (y-x)=y-x:=by rcases bf (y-x) with h|h<;>grind
  rw[e];have h4:=ee (show y-x≤v-u by grind) ht (by grind) (nA hR f);grind
 have e:evalL f y-evalL f x=(y-x)*(dEv f x+(y-x)*LI x y f):=by rw[t];grind
 rw[e];have w1:=tX ((y-x)*LI x y f);have w2:=kt ((y-x)*LI x y f);have R0:0<(s:Rat)*(dEv f x+(y-x)*LI x y f):=by
  rcases hs with rfl|rfl
  ·rcases cL (dEv f x) with ⟨k1,k2⟩|⟨k1,k2⟩|⟨k1,k2⟩
   ·rw[k2] at b1;cases b1
   ·rw[k2] at b1;cases b1
   ·have:(((1:Int):Rat))=1:=rfl;rw[this,aht];rcases bf (dEv f x) with c|c<;>grind
  ·rcases cL (dEv f x) with ⟨k1,k2⟩|⟨k1,k2⟩|⟨k1,k2⟩
   ·have:(((-1:Int):Rat)) = -1:=rfl;rw[this];rcases bf (dEv f x) with c|c<;>grind
   ·rw[k2] at b1;cases b1
   ·rw[k2] at b1;cases b1
 have:=ahH (show 0<y-x by grind) R0;grind
theorem Vl{ε u v:Rat}{f:List Rat}{r:List (List Rat)}{s:Int}(hb:Tj ε u v f s)(n5:u≤v)(hp:RZ s (r.map (fun h=>(sg (evalL h u),sg (evalL h v))))):varS 0 (sg (evalL f u)::r.map (fun g=>sg (evalL g u)))=varS 0 (sg (evalL f v)::r.map (fun g=>sg (evalL g v))):=by
 have e:=hp.eq;rw[aia,aia] at e;have e:varS s (r.map (fun h=>sg (evalL h u)))=varS s (r.map (fun h=>sg (evalL h v))):=e;rw[(hb u ag2 n5).1,(hb v n5 ag2).1,varS,varS,e];split
 ·have e2:s=0:=by assumption
  rw[e2] at e;rw[e]
 ·rfl
theorem PE{s a b:Int}{l m:List Int}(hs:s=1∨s = -1)(ha:a=0∨a=1∨a = -1)(hb:b=0∨b=1∨b = -1)(e:varS s l=varS s m):varS 0 (a::s::l)+(if b = -s then 1 else 0)=varS 0 (b::s::m)+(if a = -s then 1 else 0):=by rcases hs with rfl|rfl<;>rcases ha with rfl|rfl|rfl<;>rcases hb with rfl|rfl|rfl<;>simp[varS,e]<;>omega
theorem Vm{R Q κ η ε:Rat}{f:List Rat}{n:Nat}(h2:an f≠[])(hR:0≤R)(hQ:0≤Q)(hη:0<η)(hε:0<ε)(PB:2*ε≤η)(PC:Q*(2*ε)<η)(hN:(Q+1)^(n+1)*η≤κ)
  (hl:∀x,ab x≤R→IA Q κ x (chainF (n+1) f (an f))) {u v:Rat} (hu:ab u≤R) (hv:ab v≤R) (n5:u≤v) (s9:lipA R (chainF (n+1) f (an f))*(v-u)≤ε) (JC:sec f R*(v-u)<ε):Loc f (chainF (n+1) f (an f)) ε u v:=by
 have hlen:=wA n (an f) (aO (a7 (-1) (cb f (an f))));rw[gN h2] at hl s9 ⊢;obtain⟨r,e⟩:=tY n (an f) (aO (a7 (-1) (cb f (an f))));rw[e] at hl s9 hlen ⊢;rw[agn] at hlen;have IB:=PD hR (f::an f::r);have Mx:∀x,u≤x→x≤v→IA Q κ x (f::an f::r):=fun x h1 h2=>hl x (eK h1 h2 hu hv)
 rcases mJ f hu hv n5 (IB f (agM ..)) hε s9 with ⟨s,hs,hb⟩|MB
 ·left;refine⟨⟨s,hs,hb⟩,?_⟩;have:=Gj hu hv n5 hQ hη hε PB PC s9 hN (n+1) (an f::r) f s (by rw[agn];omega) (afY _) (fun h hh=>IB h (agm _ hh)) hs hb Mx;exact Vl hb n5 this
 ·right;rcases mJ (an f) hu hv n5 (IB (an f) (agm _ (agM ..))) hε s9 with ⟨s,hs,hb⟩|Vn
  ·refine⟨s,hs,LK (δ:=0) hu hv hs hb hε JC,?_⟩;have hp:=Gj hu hv n5 hQ hη hε PB PC s9 hN (n+1) r (an f) s (by omega) (afY _) (fun h hh=>IB h (agm _ (agm _ hh))) hs hb (fun x h1 h2=>by
    have:=Mx x h1 h2;cases r with
    |nil=>exact this
    |cons k r=>exact this.2)
   have e1:=hp.eq;rw[aia,aia] at e1;have e1:varS s (r.map (fun h=>sg (evalL h u)))=varS s (r.map (fun h=>sg (evalL h v))):=e1;show varS 0 (sg (evalL f u)::sg (evalL (an f) u)::r.map (fun g=>sg (evalL g u)))+_=varS 0 (sg (evalL f v)::sg (evalL (an f) v)::r.map (fun g=>sg (evalL g v)))+_;rw[(hb u ag2 n5).1,(hb v n5 ag2).1];exact PE hs (mK _) (mK _) e1
  ·exfalso;have h3:=MB u ag2 n5;have h4:=Vn u ag2 n5;rcases IA.max hQ hη r f (an f) (n+1) (Mx u ag2 n5) (by omega) hN with h|h<;>grind
theorem IC{a:Rat}(h:0<a):∀n:Nat,0<a^n
 |0=>by rw[aiI];decide
 |n+1=>by rw[air];exact ahH (IC h n) h
theorem kX{a b:Rat}(ha:0<a)(hb:0<b):0<a/b:=by
 refine Rat.not_le.1 fun h => ?_
 have h1:=agP (show 0 ≤ -(a/b) by grind) (age hb);have h2:=agj (a:=a) (b:=b) (by grind);grind
theorem sJ{f:List Rat}{R:Rat}(hz:aQ f=false)(h2:an f≠[])(hf:f≠[])(hc:rK f (an f))(hR:0≤R):∃δ ε,0<δ∧0<ε∧∀u v,ab u≤R→ab v≤R→u≤v→v-u≤δ→Loc f (chainF f.length f (an f)) ε u v:=by have bH:=lQ hf;obtain⟨n,hn⟩:∃n,f.length=n+1:=⟨f.length-1,by have:=ag8.2 hf;omega⟩;rw[hn];obtain⟨Q,κ,hQ,hκ,hl⟩:=CH hR (n+1) f (an f) hz (bc f) h2 hc (by omega);have hp:=IC (show 0<Q+1 by grind) (n+1);have hη:=kX hκ hp;have aaU:=agj (a:=κ) (b:=(Q+1)^(n+1)) (by grind);generalize κ/(Q+1)^(n+1)=η at hη aaU;have hε:=kX hη (show 0<2*(Q+2) by grind);have R1:=agj (a:=η) (b:=2*(Q+2)) (by grind);generalize η/(2*(Q+2))=ε at hε R1;have acx:=agP hQ (age hε);have hL:=tZ hR (chainF (n+1) f (an f));have hS:=nA hR f;have hδ:=kX hε (show 0<lipA R (chainF (n+1) f (an f))+sec f R+1 by grind);have Vo:=agj (a:=ε) (b:=lipA R (chainF (n+1) f (an f))+sec f R+1) (by grind);generalize ε/(lipA R (chainF (n+1) f (an f))+sec f R+1)=δ at hδ Vo;refine⟨δ,ε,hδ,hε,fun u v hu hv n5 hw => ?_⟩;have w1:=ag5 hw hL;have w2:=ag5 hw hS;have w3:=agP hL (age hδ);have w4:=agP hS (age hδ);exact Vm h2 hR hQ hη hε (by grind) (by grind) (by grind) hl hu hv n5 (by grind) (by grind)
theorem Gk{P:Rat→Rat→Prop}{a b δ:Rat}(hδ:0<δ)(gM:a≤b)(hs:∀u v,a≤u→u≤v→v≤b→v-u≤δ→P u v)(ht:∀u v w,a≤u→u≤v→v≤w→w≤b→P u v→P v w→P u w):P a b:=by
 have key:∀(n:Nat) (c:Rat),a≤c→c≤b→c-a≤((n:Int):Rat)*δ→P a c:=by
  intro n
  induction n with
  |zero =>intro c h1 h2 h3;have:(((0:Nat):Int):Rat)=0:=rfl;rw[this,agJ] at h3;exact hs a c ag2 h1 h2 (by grind)
  |succ n ih =>
   intro c h1 h2 h3;have e:(((n+1:Nat):Int):Rat)=((n:Int):Rat)+1:=by simp
   rw[e] at h3;by_cases h:c-δ≤a
   ·exact hs a c ag2 h1 h2 (by grind)
   ·have:=ih (c-δ) (by grind) (by grind) (by grind);exact ht a (c-δ) c ag2 (by grind) (by grind) h2 this (hs (c-δ) c (by grind) (by grind) h2 (by grind))
 have hx:=Rat.lt_floor_add_one ((b-a)/δ);have he:=agj (a:=b-a) (b:=δ) (by grind);have Hr:0≤((b-a)/δ).floor:=by
  refine Rat.le_floor_iff.2 ?_;show(0:Rat)≤_;refine aji.1 fun h => ?_
  have:=ahH (show 0 < -((b-a)/δ) by grind) hδ;grind
 obtain⟨n,hn⟩:∃n:Nat,((b-a)/δ).floor+1=(n:Int):=⟨(((b-a)/δ).floor+1).toNat,by omega⟩;rw[hn] at hx;refine key n b gM ag2 ?_;have:=ag1 (age hx) (age hδ);grind
def n6(p:List Rat)(lo hi:Rat):Prop:=∃c,0<c∧∀x,lo≤x→x≤hi→c≤ab (evalL p x)
theorem n6.join{p:List Rat}{a b c:Rat}(h:n6 p a b)(k:n6 p b c):n6 p a c:=by
 obtain⟨x,x1,x2⟩:=h;obtain⟨y,y1,y2⟩:=k;refine⟨DO x y,?_,fun z z1 z2 => ?_⟩
 ·unfold DO;split<;>assumption
 ·by_cases hz:z≤b
  ·exact agN (yT x y) (x2 z z1 hz)
  ·exact agN (yU x y) (y2 z (by grind) z2)
theorem n6.ne{p:List Rat}{a b x:Rat}(h:n6 p a b)(h1:a≤x)(h2:x≤b):evalL p x≠0:=by obtain⟨c,c1,c2⟩:=h;intro e;have:=c2 x h1 h2;rw[e,sH] at this;grind
theorem n6.sub{p:List Rat}{a b u v:Rat}(h:n6 p a b)(h1:a≤u)(h2:v≤b):n6 p u v:=by obtain⟨c,c1,c2⟩:=h;exact⟨c,c1,fun x x1 x2=>c2 x (agN h1 x1) (agN x2 h2)⟩
theorem Loc.Xx{f:List Rat}{G:List (List Rat)}{ε u v:Rat}(h:Loc f G ε u v)(n5:u≤v):eZ G v≤eZ G u:=by
 rcases h with ⟨_,e⟩|⟨s,hs,hm,e⟩
 ·rw[e];exact ajQ _
 ·by_cases hv:sg (evalL f v) = -s
  ·by_cases hu:sg (evalL f u) = -s
   ·rw[ag9 hv,ag9 hu] at e;omega
   ·exfalso;by_cases he:u=v
    ·rw[he] at hu;exact hu hv
    ·have:=hm u v ag2 (by grind) ag2;rcases hs with rfl|rfl
     ·have e1:(((1:Int):Rat))=1:=rfl;rw[e1] at this;rcases cL (evalL f u) with ⟨k1,k2⟩|⟨k1,k2⟩|⟨k1,k2⟩<;>rcases cL (evalL f v) with ⟨m1,m2⟩|⟨m1,m2⟩|⟨m1,m2⟩<;>first|(exfalso;grind)|(exact hu k2)|(rw [m2] at hv;cases hv)
     ·have e1:(((-1:Int):Rat)) = -1:=rfl;rw[e1] at this;rcases cL (evalL f u) with ⟨k1,k2⟩|⟨k1,k2⟩|⟨k1,k2⟩<;>rcases cL (evalL f v) with ⟨m1,m2⟩|⟨m1,m2⟩|⟨m1,m2⟩<;>first|(exfalso;grind)|(exact hu k2)|(rw [m2] at hv;cases hv)
  ·rw[ag7 hv] at e;split at e<;>omega
theorem Loc.aaV{f:List Rat}{G:List (List Rat)}{ε u v:Rat}(h:Loc f G ε u v)(hε:0<ε)(n5:u≤v)(hc:eZ G u=eZ G v)(h0:evalL f u≠0):evalL f v≠0∧n6 f u v:=by
 rcases h with ⟨⟨s,hs,hb⟩,_⟩|⟨s,hs,hm,e⟩
 ·have ha:n6 f u v:=⟨ε,hε,fun x x1 x2=>(hb x x1 x2).2⟩;exact⟨ha.ne n5 ag2,ha⟩
 ·rw[hc] at e;have e:(sg (evalL f v) = -s↔sg (evalL f u) = -s):=by
   constructor
   ·intro h;rw[ag9 h] at e;refine afV fun k => ?_
    rw[ag7 k] at e;omega
   ·intro h;rw[ag9 h] at e;refine afV fun k => ?_
    rw[ag7 k] at e;omega
  have s1:(((1:Int):Rat))=1:=rfl;have s2:(((-1:Int):Rat)) = -1:=rfl;have mon:∀x y,u≤x→x≤y→y≤v→0≤(s:Rat)*(evalL f y-evalL f x):=by
   intro x y h1 h2 h3;by_cases CE:x=y
   ·rw[CE];grind
   ·exact age (hm x y h1 (by grind) h3)
  have ha:n6 f u v:=by
   by_cases hneg:sg (evalL f u) = -s
   ·
    have DM:=e.2 hneg;refine⟨ab (evalL f v),yW ?_,fun x x1 x2 => ?_⟩
    ·intro h;rw[h] at DM;rcases hs with rfl|rfl
     ·cases DM
     ·cases DM
    ·have:=mon x v x1 x2 ag2;rcases hs with rfl|rfl
     ·rw[s1] at this;rcases cL (evalL f v) with ⟨m1,m2⟩|⟨m1,m2⟩|⟨m1,m2⟩
      ·rcases bf (evalL f v) with c|c<;>rcases bf (evalL f x) with d|d<;>grind
      ·rw[m2] at DM;cases DM
      ·rw[m2] at DM;cases DM
     ·rw[s2] at this;rcases cL (evalL f v) with ⟨m1,m2⟩|⟨m1,m2⟩|⟨m1,m2⟩
      ·rw[m2] at DM;cases DM
      ·rw[m2] at DM;cases DM
      ·rcases bf (evalL f v) with c|c<;>rcases bf (evalL f x) with d|d<;>grind
   ·refine⟨ab (evalL f u),yW h0,fun x x1 x2 => ?_⟩;have:=mon u x ag2 x1 x2;rcases hs with rfl|rfl
    ·rw[s1] at this;rcases cL (evalL f u) with ⟨m1,m2⟩|⟨m1,m2⟩|⟨m1,m2⟩
     ·exact absurd m2 hneg
     ·exact absurd m1 h0
     ·rcases bf (evalL f u) with c|c<;>rcases bf (evalL f x) with d|d<;>grind
    ·rw[s2] at this;rcases cL (evalL f u) with ⟨m1,m2⟩|⟨m1,m2⟩|⟨m1,m2⟩
     ·rcases bf (evalL f u) with c|c<;>rcases bf (evalL f x) with d|d<;>grind
     ·exact absurd m1 h0
     ·exact absurd m2 hneg
  exact⟨ha.ne n5 ag2,ha⟩
theorem Loc.aH{f:List Rat}{G:List (List Rat)}{ε u v c R:Rat}(h:Loc f G ε u v)(n5:u≤v)(hu:ab u≤R)(hv:ab v≤R)(hc:0<c)(ha:∀x,u≤x→x≤v→c≤ab (evalL f x))(hd:lip f R*(v-u)<c):eZ G u=eZ G v:=by
 rcases h with ⟨_,e⟩|⟨s,hs,hm,e⟩
 ·exact e
 ·have d:=Gi hv hu f;have e1:ab (v-u)=v-u:=by rcases bf (v-u) with h|h<;>grind
  rw[e1] at d;have d1:=tX (evalL f v-evalL f u);have d2:=kt (evalL f v-evalL f u);have a1:=ha u ag2 n5;have a2:=ha v n5 ag2;have es:sg (evalL f u)=sg (evalL f v):=by rcases cL (evalL f u) with ⟨k1,k2⟩|⟨k1,k2⟩|⟨k1,k2⟩<;>rcases cL (evalL f v) with ⟨m1,m2⟩|⟨m1,m2⟩|⟨m1,m2⟩<;>rcases bf (evalL f u) with c1|c1<;>rcases bf (evalL f v) with c2|c2<;>first|(exfalso;grind)|(rw [k2,m2];done)
  rw[es] at e;omega
section
variable {f:List Rat} {R:Rat}
theorem xN{a b:Rat} : ∃R,0≤R∧ab a≤R∧ab b≤R:=by
 refine⟨ab a+ab b,?_,?_,?_⟩
 ·have:=bU a;have:=bU b;grind
 ·have:=bU b;grind
 ·have:=bU a;grind
theorem iJ(h:an f=[])(x:Rat):eZ (chainF f.length f (an f)) x=0:=by rw[h,j5];show varS 0 [sg (evalL f x)]=0;rcases mK (evalL f x) with e|e|e<;>rw[e]<;>rfl
theorem sK(hz:aQ f=false)(hf:f≠[])(h:an f=[]):∃c,f=[c]∧c≠0:=by
 match f,hf with
 |[c],_=>exact⟨c,rfl,cP hz (by simp)⟩
 |a::b::r,_ =>
  exfalso;have key:∀i,coef (gz 1 ((a::b::r).drop 1)) i=0:=by intro i;have e2:aO (gz 1 ((a::b::r).drop 1))=[]:=h;rw[←dW,e2,mG]
  have HQ:∀(q:List Rat) (i j:Nat),coef (gz i q) j=((i+j:Nat):Int)*coef q j:=by
   intro q
   induction q with
   |nil=>intro i j;show(0:Rat)=_*0;rw[ahM]
   |cons a q ih =>
    intro i j;cases j with
    |zero=>rfl
    |succ j=>rw[gz,fu,fu,ih (i+1) j,show i+1+j=i+(j+1) from by omega]
  have hk:=key r.length;rw[HQ] at hk;have ht:=cP hz (by simp);have e:bx (a::b::r)=coef ((a::b::r).drop 1) r.length:=by unfold bx;rw[show (a::b::r).length-1=r.length+1 from by simp];rfl
  rw[←e] at hk;rcases agV.1 hk with h|h
  ·have:=aj4.1 (show (((1+r.length:Nat):Int):Rat)=((0:Int):Rat) from h);omega
  ·exact ht h
theorem mL(hz:aQ f=false)(hf:f≠[])(hc:rK f (an f)){a b:Rat}(gM:a≤b):eZ (chainF f.length f (an f)) b≤eZ (chainF f.length f (an f)) a:=by
 by_cases h2:an f=[]
 ·rw[iJ h2,iJ h2];exact ajQ _
 ·obtain⟨R,hR,ha,hb⟩:=xN (a:=a) (b:=b);obtain⟨δ,ε,hδ,hε,hl⟩:=sJ hz h2 hf hc hR;exact Gk (P:=fun u v=>eZ (chainF f.length f (an f)) v≤eZ (chainF f.length f (an f)) u) hδ gM
   (fun u v h1 h3 h4 h5=>(hl u v (eK h1 (by grind) ha hb) (eK (by grind) h4 ha hb) h3 h5).Xx h3)
   (fun u v w _ _ _ _ h1 h3=>Int.le_trans h3 h1)
theorem rB(hz:aQ f=false)(hf:f≠[])(hc:rK f (an f)){a b:Rat}(gM:a≤b)(he:eZ (chainF f.length f (an f)) a=eZ (chainF f.length f (an f)) b)(h0:evalL f a≠0):n6 f a b:=by
 by_cases h2:an f=[]
 ·obtain⟨c,rfl,zS⟩:=sK hz hf h2;exact⟨ab c,yW zS,fun x _ _=>by rw[eJ];exact ag2⟩
 ·obtain⟨R,hR,ha,hb⟩:=xN (a:=a) (b:=b);obtain⟨δ,ε,hδ,hε,hl⟩:=sJ hz h2 hf hc hR;have:=Gk (P:=fun u v=>eZ (chainF f.length f (an f)) v≤eZ (chainF f.length f (an f)) u∧(eZ (chainF f.length f (an f)) u=eZ (chainF f.length f (an f)) v→evalL f u≠0→evalL f v≠0∧n6 f u v)) hδ gM
   (fun u v h1 h3 h4 h5=>by have:=hl u v (eK h1 (by grind) ha hb) (eK (by grind) h4 ha hb) h3 h5;exact⟨this.Xx h3,this.aaV hε h3⟩)
   (fun u v w _ _ _ _ h1 h3=>by refine⟨Int.le_trans h3.1 h1.1,fun e n => ?_⟩;have i1:=h1.1;have i2:=h3.1;obtain⟨m1,m2⟩:=h1.2 (by omega) n;obtain⟨m3,m4⟩:=h3.2 (by omega) m1;exact⟨m3,m2.join m4⟩)
  exact(this.2 he h0).2
theorem ID(hz:aQ f=false)(hf:f≠[])(hc:rK f (an f)){a b:Rat}(gM:a≤b)(h:n6 f a b):eZ (chainF f.length f (an f)) a=eZ (chainF f.length f (an f)) b:=by
 by_cases h2:an f=[]
 ·rw[iJ h2,iJ h2]
 ·obtain⟨R,hR,ha,hb⟩:=xN (a:=a) (b:=b);obtain⟨δ,ε,hδ,hε,hl⟩:=sJ hz h2 hf hc hR;obtain⟨c,c1,c2⟩:=h;have hL:=gU hR f;have aaW:=kX c1 (show 0<lip f R+1 by grind);have Vo:=agj (a:=c) (b:=lip f R+1) (by grind);generalize c/(lip f R+1)=δ2 at aaW Vo;exact Gk (P:=fun u v=>eZ (chainF f.length f (an f)) u=eZ (chainF f.length f (an f)) v) (δ:=DO δ δ2) (by unfold DO;split<;>assumption) gM
   (fun u v h1 h3 h4 h5=>by have hu:=eK h1 (show u≤b by grind) ha hb;have hv:=eK (show a≤v by grind) h4 ha hb;have w1:=agN h5 (yT δ δ2);have w2:=agN h5 (yU δ δ2);have w3:=ag5 w2 hL;exact(hl u v hu hv h3 w1).aH h3 hu hv c1 (fun x x1 x2=>c2 x (agN h1 x1) (agN x2 h4)) (by grind))
   (fun u v w _ _ _ _ h1 h3=>h1.trans h3)
end
theorem IE{f:List Rat}{a b:Rat}(h:n6 f a b):∀k,n6 (gp f k) a b
 |0=>⟨1,by decide,fun x _ _=>by rw[gp,eJ];decide⟩
 |k+1=>by obtain⟨c,c1,c2⟩:=IE h k;obtain⟨d,d1,d2⟩:=h;refine⟨c*d,ahH c1 d1,fun x x1 x2 => ?_⟩;rw[gp,aE,jZ];exact ee (c2 x x1 x2) (d2 x x1 x2) (age c1) (bU _)
theorem Gl{p q:List Rat}{a b:Rat}(h:n6 q a b)(hd:Dv p q):n6 p a b:=by
 obtain⟨u,hu⟩:=hd;obtain⟨c,c1,c2⟩:=h;obtain⟨R,hR,ha,hb⟩:=xN (a:=a) (b:=b);have hn:=ny hR u;have hδ:=kX c1 (show 0<nrm u R+1 by grind);have he:=agj (a:=c) (b:=nrm u R+1) (by grind);generalize c/(nrm u R+1)=d at hδ he;refine⟨d,hδ,fun x x1 x2 => ?_⟩;have h1:=c2 x x1 x2;rw[hu,jZ] at h1;have h2:=sI (eK x1 x2 ha hb) u;have h3:=ag1 h2 (bU (evalL p x));have h4:=bU (evalL p x);refine aji.1 fun bH => ?_
 have h5:=ag5 (age bH) hn;grind
theorem free_spec{p:List Rat}(hz:aQ p=false)(h0:p≠[]):aQ (aY p)=false∧aY p≠[]∧rK (aY p) (an (aY p))∧Dv (aY p) p∧∃k,k≤p.length∧Dv p (gp (aY p) k):=by
 obtain⟨w,s⟩:=Xv hz h0;have hm:=ec (dJ p (cu p (an p))).1;have et:=uK s.zf s.f0;have d1:=CA s.zf;have d2:=Px (dJ p (cu p (an p))).1;have e:aY p=dG (dJ p (cu p (an p))).1:=rfl;rw[e];refine⟨hm,et,?_,?_,?_⟩
 ·have hc:=s.free;obtain⟨u,v,h⟩:=hc;have ht:=cP s.zf s.f0;refine⟨a7 (bx (dJ p (cu p (an p))).1) u,a7 (bx (dJ p (cu p (an p))).1) v,fun x => ?_⟩;have h1:=h x;have hd:∀x,dEv (dG (dJ p (cu p (an p))).1) x=1/bx (dJ p (cu p (an p))).1*dEv (dJ p (cu p (an p))).1 x:=by
   intro x;rw[rA (q:=a7 (1/bx (dJ p (cu p (an p))).1) (dJ p (cu p (an p))).1) (fun x=>by rw[iH,aX]) x,CD]
  rw[cQ] at h1;rw[aX,aX,iH,cQ,hd];have h2:=agj (a:=1) ht;grind
 ·refine d1.trans ⟨cu p (an p),fun x=>by rw[s.pe];grind⟩
 ·have Dw:=s.all;have Dq:(cu p (an p)).length+1≤p.length+1:=by
   have:=((nI p (an p) hz (bc p)).1.len (eM _ _) hz h0).2;omega
  have pw:∀k,Dv (gp (dJ p (cu p (an p))).1 k) (gp (dG (dJ p (cu p (an p))).1) k):=by
   intro k
   induction k with
   |zero=>exact Dv.refl _
   |succ k ih =>
    obtain⟨a,ha⟩:=ih;obtain⟨b,hb⟩:=d2;exact⟨mulL a b,fun x=>by show evalL (mulL _ _) x=_*evalL (mulL _ _) x;rw[aE,aE,aE,ha,hb];grind⟩
  by_cases Iy:an p=[]
  ·
   obtain⟨c,rfl,zS⟩:=sK hz h0 Iy;refine⟨0,by simp,[1/c],fun x => ?_⟩;show evalL [1] x=_;rw[eJ,eJ,eJ,agj zS]
  ·have hgd:=((nI p (an p) hz (bc p)).2.len (eM _ _) (bc p) Iy).2;have hdl:=lQ h0;exact⟨(cu p (an p)).length+1,by omega,Dw.trans (pw _)⟩
end Go.Proofs.YtcpnocgollpbhaaGreatDoor.Sym
namespace Go.Proofs.YtcpnocgollpbhaaGreatDoor.Sym
open Go Path cF
set_option linter.unusedVariables false
def ua:Int→List Int→Int
 |s,[]=>s
 |s,a::r=>if a=0 then ua s r else ua a r
theorem yX:∀(l:List Int) (s:Int),(s=1∨s = -1)→(∀a∈l,a=0∨a=1∨a = -1)→(ua s l=s∧varS s l%2=0)∨(ua s l = -s∧varS s l%2=1)
 |[],s,_,_=>Or.inl ⟨rfl,rfl⟩
 |a::r,s,hs,h=>by
  have ha:=h a (agM ..);rw[ua,varS];by_cases h0:a=0
  ·rw[ag9 h0,ag9 h0];exact yX r s hs (fun b hb=>h b (agm _ hb))
  ·rw[ag7 h0,ag7 h0];have YW:a=1∨a = -1:=ha.resolve_left h0;have ih:=yX r a YW (fun b hb=>h b (agm _ hb));by_cases h1:a = -s
   ·rw[ag9 h1];rcases ih with ⟨i1,i2⟩|⟨i1,i2⟩
    ·right;constructor<;>omega
    ·left;constructor<;>omega
   ·rw[ag7 h1];have e:a=s:=by omega
    rcases ih with ⟨i1,i2⟩|⟨i1,i2⟩
    ·left;constructor<;>omega
    ·right;constructor<;>omega
theorem CI{x:Rat}(h:x≠0):sg x=1∨sg x = -1:=by rcases cL x with k|k|k<;>first|exact absurd k.1 h|simp[k.2]
theorem CJ:∀(n:Nat) (p d:List Rat),aQ d=false→d≠[]→rK p d→d.length<n+1→∃c:Rat,c≠0∧∀(x:Rat) (s:Int),ua s ((chainF n p d).map (fun g=>sg (evalL g x)))=sg c
 |0,p,d,_,h0,_,hl=>absurd (afP (by omega)) h0
 |n+1,p,d,hd,h0,hc,hl=>by
  rw[gN h0];by_cases hr:aO (a7 (-1) (cb p d))=[]
  ·obtain⟨c,rfl,zS⟩:=CG hd h0 hc hr;rw[hr,j5];refine⟨c,zS,fun x s => ?_⟩;rw[agD,agD,aiE,eJ,ua];have h1:sg c≠0:=by have:=CI zS;omega
   split<;>rw[ua,ag7 h1,ua]
  ·obtain⟨c,zS,Gd⟩:=CJ n d _ (bj _) hr (CF hd h0 hc) (by have:=kx (p:=p) hd h0;omega);refine⟨c,zS,fun x s => ?_⟩;rw[agD,ua];split<;>exact Gd x _
theorem LL{f:List Rat}(hz:aQ f=false)(hf:f≠[])(hc:rK f (an f)){u v:Rat}(hu:evalL f u≠0)(hv:evalL f v≠0) :
  (sg (evalL f u)=sg (evalL f v)∧(eZ (chainF f.length f (an f)) u-eZ (chainF f.length f (an f)) v)%2=0)∨(sg (evalL f u) = - sg (evalL f v)∧(eZ (chainF f.length f (an f)) u-eZ (chainF f.length f (an f)) v)%2=1):=by
 by_cases h2:an f=[]
 ·obtain⟨c,rfl,zS⟩:=sK hz hf h2;left;rw[eJ,eJ,iJ h2,iJ h2];exact⟨rfl,rfl⟩
 ·obtain⟨c,c0,hl⟩:=CJ f.length f (an f) (bc f) h2 hc (by have:=lQ hf;omega);have key:∀x,evalL f x≠0→(sg c=sg (evalL f x)∧eZ (chainF f.length f (an f)) x%2=0)∨(sg c = - sg (evalL f x)∧eZ (chainF f.length f (an f)) x%2=1):=by
   intro x hx;obtain⟨r,e⟩:=tY f.length f (an f);have hs:=CI hx;have h1:=hl x 0;rw[e,agD,ua,ag7 (by omega)] at h1;have h3:=yX (r.map (fun g=>sg (evalL g x))) (sg (evalL f x)) hs (by intro a ha;obtain⟨g,_,rfl⟩:=agI.1 ha;exact mK _)
   rw[e];unfold eZ;rw[agD,varS,ag7 (by omega),ag7 (by omega)];rcases h3 with ⟨i1,i2⟩|⟨i1,i2⟩
   ·left;constructor<;>omega
   ·right;constructor<;>omega
  have hsu:=CI hu;have hsv:=CI hv;rcases key u hu with ⟨a1,a2⟩|⟨a1,a2⟩<;>rcases key v hv with ⟨b1,b2⟩|⟨b1,b2⟩<;>first|(left;constructor<;>omega)|(right;constructor<;>omega)
def Wk(p:List Rat)(b:Rat):Prop:=∀c∈p,ab c+ab (bx p)≤b*ab (bx p)
theorem M3{a:Rat}{r:List Rat}(h:r≠[]):bx (a::r)=bx r:=by unfold bx;obtain⟨n,hn⟩:∃n,r.length=n+1:=⟨r.length-1,by have:=ag8.2 h;omega⟩;rw[agn,hn];rfl
theorem uM{s:Rat}(hs:s=1∨s = -1):∀n:Nat,s^n=1∨s^n = -1
 |0=>Or.inl (aiI _)
 |n+1=>by have ih:=uM hs n;rw[air];rcases ih with h|h<;>rcases hs with k|k<;>rw[h,k]<;>grind
theorem CK{T b s x:Rat}(hT:0<T)(hs:s=1∨s = -1)(hx:b≤x)(Ou:0≤x):∀p:List Rat,p≠[]→0<bx p→(∀c∈p,ab c+T≤b*T)→bx p=T→T≤s^(p.length-1)*evalL p (s*x)
 |[],h,_,_,_=>absurd rfl h
 |[a],_,h1,_,h2=>by have e:bx [a]=a:=rfl;rw[eJ,ahj,aiq,aiI,aht,←e,h2];exact ag2
 |a::c::r,_,h1,h2,h3=>by
  rw[M3 (by simp)] at h1 h3;have ih:=CK hT hs hx Ou (c::r) (by simp) h1 (fun y hy=>h2 y (agm _ hy)) h3;have ha:=h2 a (agM ..);rw[agn,agn,aik,air];rw[agn,aik] at ih;have e:evalL (a::c::r) (s*x)=evalL (c::r) (s*x)*(s*x)+a:=rfl;rw[e];generalize evalL (c::r) (s*x)=E at ih ⊢;have hp:=uM hs r.length;generalize s^r.length=P at ih hp ⊢;have h4:T*x≤P*E*x:=ag1 ih Ou;have h5:T*b≤T*x:=ag5 hx (age hT);have h6:=tX a;have h7:=kt a;have e2:P*s*(E*(s*x)+a)=(s*s)*(P*E*x)+P*s*a:=by grind
  have e3:s*s=1:=by rcases hs with rfl|rfl<;>decide +kernel
  rw[e2,e3];have h8:P*s=1∨P*s = -1:=by rcases hs with rfl|rfl<;>rcases hp with h|h<;>rw[h]<;>first|(left;decide +kernel)|(right;decide +kernel)
  rcases h8 with h|h<;>rw[h]<;>grind
theorem R2(p:List Rat):∀c∈a7 (-1) p,∃d∈p,ab c=ab d:=by
 induction p with
 |nil=>intro c hc;cases hc
 |cons a r ih =>
  intro c hc;rcases agp.1 hc with e|hc
  ·refine⟨a,agM ..,?_⟩;rw[e,←wz a];congr 1;grind
  ·obtain⟨d,h1,h2⟩:=ih c hc;exact⟨d,agm _ h1,h2⟩
theorem R3{p:List Rat}{b:Rat}(hz:aQ p=false)(h0:p≠[])(hc:Wk p b)(hb:0≤b){y:Rat}(hy:b≤ab y):ab (bx p)≤ab (evalL p y):=by
 have ht:=cP hz h0;have key:∀q:List Rat,q≠[]→0<bx q→Wk q b→bx q≤ab (evalL q y):=by
  intro q hq hT YX;have e:ab (bx q)=bx q:=by rcases bf (bx q) with h|h<;>grind
  unfold Wk at YX;rw[e] at YX;rcases bf y with ⟨h1,h2⟩|⟨h1,h2⟩
  ·have:=CK hT (Or.inl rfl) (show b≤y by grind) h1 q hq hT YX rfl;rw[aht] at this;have h3:=uM (Or.inl rfl:(1:Rat)=1∨(1:Rat) = -1) (q.length-1);have h4:=tX (evalL q y);have h5:=kt (evalL q y);rcases h3 with h|h<;>rw[h] at this<;>grind
  ·have:=CK hT (Or.inr rfl) (show b ≤ -y by grind) (by grind) q hq hT YX rfl;rw[show (-1:Rat) * -y=y from by grind] at this;have h3:=uM (Or.inr rfl:(-1:Rat)=1∨(-1:Rat) = -1) (q.length-1);have h4:=tX (evalL q y);have h5:=kt (evalL q y);rcases h3 with h|h<;>rw[h] at this<;>grind
 rcases bf (bx p) with ⟨h1,h2⟩|⟨h1,h2⟩
 ·have:=key p h0 (by grind) hc;rw[h2];exact this
 ·have e:bx (a7 (-1) p) = - bx p:=by unfold bx;rw[gC,bZ];grind
  have e3:ab (-bx p) = -bx p:=by rw[wz,h2]
  have:=key (a7 (-1) p) (by cases p with|nil=>exact absurd rfl h0|cons a r=>intro h;cases h) (by rw[e];grind) (by intro c Xy;obtain⟨d,d1,d2⟩:=R2 p c Xy;rw[e,wz,d2];exact hc d d1)
  rw[e,aX] at this;rw[h2];have e2:(-1:Rat)*evalL p y = - evalL p y:=by grind
  rwa[e2,wz] at this
theorem IF{p:List Rat}{b:Rat}(hz:aQ p=false)(h0:p≠[])(hc:Wk p b)(hb:0≤b){u v:Rat}(h:∀x,u≤x→x≤v→b≤ab x):n6 p u v :=
 ⟨ab (bx p),yW (cP hz h0),fun x h1 h2=>R3 hz h0 hc hb (h x h1 h2)⟩
section
variable {p:List Rat} {b:Rat}
theorem Kp(hz:aQ p=false)(h0:p≠[]):bx (aY p)=1:=by
 have hq:=(kq p (cu p (an p))).1;have o4:(dJ p (cu p (an p))).1≠[]:=fun e=>(free_spec hz h0).2.1 (by unfold aY;rw[e];rfl)
 unfold aY;rw[nv hq o4];unfold bx;rw[gC,bZ];have:=cP hq o4;unfold bx at this;rw[agj this]
end
end Go.Proofs.YtcpnocgollpbhaaGreatDoor.Sym
namespace Go.Proofs.YtcpnocgollpbhaaGreatDoor.Sym
open Go Path cF
set_option linter.unusedVariables false
def Ch(h:Nat)(p:List Rat):Prop:=∃D:Int,D≠0∧wl D≤h∧∀i,∃n:Int,coef p i*(D:Rat)=(n:Rat)∧wl n≤h
theorem qC{D:Int}(h:D≠0):(D:Rat)≠0:=fun e=>h (aj4.1 (by rw[e];rfl))
theorem CL{a b c:Rat}(hc:c≠0)(h:a*c=b*c):a=b:=by
 have:(a-b)*c=0:=by grind
 rcases agV.1 this with e|e
 ·grind
 ·exact absurd e hc
theorem oQ{x:Rat}{n D:Int}(hD:D≠0)(h:x*(D:Rat)=(n:Rat)):ht x≤max (wl n) (max (wl D) 1):=by
 have e:x=Rat.divInt n D:=by rw[agK];refine CL (qC hD) ?_;rw[h,agj (qC hD)]
 rw[e];exact uI n D
theorem Ch.mono{h k:Nat}{p:List Rat}(hp:Ch h p)(hk:h≤k):Ch k p:=by obtain⟨D,h1,h2,h3⟩:=hp;refine⟨D,h1,by omega,fun i => ?_⟩;obtain⟨n,a,b⟩:=h3 i;exact⟨n,a,by omega⟩
theorem Ch.ht{h:Nat}{p:List Rat}(hp:Ch h p)(i:Nat):ht (coef p i)≤max h 1:=by obtain⟨D,h1,h2,h3⟩:=hp;obtain⟨n,a,b⟩:=h3 i;have:=oQ h1 a;omega
theorem Ch.fl{h:Nat}{p:List Rat}(hp:Ch h p)(h1:1≤h):Fl h p:=pB (fun i=>by have:=hp.ht i;omega)
theorem Ch.congr{h:Nat}{p q:List Rat}(hp:Ch h p)(e:∀i,coef p i=coef q i):Ch h q:=by obtain⟨D,h1,h2,h3⟩:=hp;refine⟨D,h1,h2,fun i => ?_⟩;rw[←e i];exact h3 i
theorem Ch.trim{h:Nat}{p:List Rat}(hp:Ch h p):Ch h (aO p):=hp.congr (fun i=>(dW p i).symm)
theorem Ch.nil{h:Nat}(h1:1≤h):Ch h []:=⟨1,by decide,by rw[Va];exact h1,fun i=>⟨0,by rw[mG,agJ];rfl,ago _⟩⟩
theorem PF:wl 0=0:=rfl
theorem Ch.cons{h k:Nat}{a:Rat}{p:List Rat}(hp:Ch h p)(ha:Sym.ht a≤k):Ch (h+k) (a::p):=by
 obtain⟨D,h1,h2,h3⟩:=hp;have hd:=fK a;have hn:=eQ a;have KU:(a.den:Int)≠0:=by have:=a.den_nz;omega
 have aaX:a*((a.den:Int):Rat)=(a.num:Rat):=by
  have:a=Rat.divInt a.num a.den:=(ai5 a).symm
  conv=>lhs;lhs;rw[this]
  rw[agK,agj (qC KU)]
 have hm:=eo D a.den;refine⟨D*a.den,by intro e;rcases Int.mul_eq_zero.1 e with e|e;exact h1 e;exact KU e,by omega,fun i => ?_⟩;cases i with
 |zero =>refine⟨a.num*D,?_,by have:=eo a.num D;omega⟩;rw[yV,agt,agt,←aaX];grind
 |succ i =>obtain⟨n,e1,e2⟩:=h3 i;refine⟨n*a.den,?_,by have:=eo n a.den;omega⟩;rw[fu,agt,agt,←e1];grind
theorem Ch.LM{k:Nat} : ∀{p:List Rat},Fl k p→Ch (p.length*k+1) p
 |[],_=>Ch.nil (by omega)
 |a::r,h=>by have:=(Ch.LM (fun x hx=>h x (agm _ hx))).cons (h a (agM ..));rw[agn,agF,ahr];exact this.mono (by omega)
theorem Ch.Kq{h:Nat}{p:List Rat}(hp:Ch h p)(ht:bx p≠0):Ch h (a7 (1/bx p) p):=by
 obtain⟨D,h1,h2,h3⟩:=hp;obtain⟨t,e1,e2⟩:=h3 (p.length-1);have e1:bx p*(D:Rat)=(t:Rat):=e1;have Xw:t≠0:=by
  intro e;rw[e] at e1;rcases agV.1 e1 with e|e
  ·exact ht e
  ·exact qC h1 e
 refine⟨t,Xw,e2,fun i => ?_⟩;obtain⟨n,g1,g2⟩:=h3 i;refine⟨n,?_,g2⟩;have:=agj (a:=1) ht;rw[bZ,←g1,←e1];grind
theorem Ch.lS{h:Nat}{p:List Rat}(hp:Ch h p)(h1:1≤h)(hz:aQ p=false):Ch h (dG p):=by
 by_cases e:p=[]
 ·subst e;exact Ch.nil h1
 ·exact(hp.Kq (cP hz e)).trim
theorem Ch.step{h b:Nat}{rest q:List Rat}(hr:Ch h rest)(hq:Ch b q)(hz:bx q≠0):Ch (h+b+1) (ow rest q):=by
 refine Ch.trim ?_;obtain⟨D,h1,h2,h3⟩:=hr;obtain⟨E,g1,g2,g3⟩:=hq;obtain⟨u,u1,u2⟩:=g3 (q.length-1);obtain⟨t,t1,t2⟩:=h3 (rest.length-1);have u1:bx q*(E:Rat)=(u:Rat):=u1;have t1:bx rest*(D:Rat)=(t:Rat):=t1;have Q5:u≠0:=by
  intro e;rw[e] at u1;rcases agV.1 u1 with e|e
  ·exact hz e
  ·exact qC g1 e
 have hc:=EM (rest:=rest) hz;have hm:=eo D u;refine⟨D*u,by intro e;rcases Int.mul_eq_zero.1 e with e|e;exact h1 e;exact Q5 e,by omega,fun i => ?_⟩;obtain⟨n,e1,e2⟩:=h3 i;rw[iA,nZ,bZ];by_cases hi:i<rest.length-q.length
 ·rw[ag9 hi];refine⟨n*u,?_,by have:=eo n u;omega⟩;rw[agt,agt,←e1];grind
 ·rw[ag7 hi];obtain⟨m,f1,f2⟩:=g3 (i-(rest.length-q.length));refine⟨n*u + -(t*m),?_,by have:=eo n u;have:=eo t m;have:=gj (t*m);have:=yL (n*u) (-(t*m));omega⟩;rw[agt,ah7,agt,ahl,agt,←e1,←f1,←t1,←u1,←hc];grind
theorem ES{b:Nat}{q:List Rat}(hq:Ch b q)(hz:bx q≠0)(o4:q.length≠0):∀(n h:Nat) (out rest:List Rat),Ch h rest→Ch (h+(rest.length+1-q.length)*(b+1)) (pM n out rest q).2
 |0,h,out,rest,hr=>hr.mono (by omega)
 |n+1,h,out,rest,hr=>by
  rw[pM];cases hb:Nat.blt rest.length q.length with
  |true=>exact hr.mono (by omega)
  |false =>
   have hl:=xM.1 hb;have h1:=rz hz o4 hl;have ih:=ES hq hz o4 n (h+b+1) (aO (dw out (je (rest.length-q.length) [stepC rest q]))) (ow rest q) (hr.step hq hz);refine ih.mono ?_;have e:rest.length+1-q.length=(rest.length-q.length)+1:=by omega
   have h2:((ow rest q).length+1-q.length)*(b+1)≤(rest.length-q.length)*(b+1):=afU _ (by omega);rw[e,agF,ahr];omega
theorem IG{b M:Nat}{q:List Rat}(hq:Ch b q)(td:1≤b)(hz:bx q≠0)(o4:q.length≠0):∀(n h:Nat) (out rest:List Rat),1≤h→Ch h rest→h+(rest.length+1-q.length)*(b+1)≤M→(∀i,i+q.length≤rest.length→coef out i=0)→(∀i,ht (coef out i)≤M+b)→∀i,ht (coef (pM n out rest q).1 i)≤M+b
 |0,h,out,rest,_,_,_,_,ho=>ho
 |n+1,h,out,rest,h1,hr,hM,zS,ho=>by
  rw[pM];cases hb:Nat.blt rest.length q.length with
  |true=>exact ho
  |false =>
   have hl:=xM.1 hb;have hs:=rz hz o4 hl;have e:rest.length+1-q.length=(rest.length-q.length)+1:=by omega
   have h2:((ow rest q).length+1-q.length)*(b+1)≤(rest.length-q.length)*(b+1):=afU _ (by omega);rw[e,agF,ahr] at hM;have cc:∀i,coef (aO (dw out (je (rest.length-q.length) [stepC rest q]))) i=if i=rest.length-q.length then stepC rest q else coef out i:=by
    intro i;rw[dW,iA,nZ];by_cases h3:i=rest.length-q.length
    ·rw[ag9 h3,ag7 (by omega),zS i (by omega),h3,aiq,yV,ajb]
    ·rw[ag7 h3];split
     ·rw[ai4]
     ·rw[eE (p:=[stepC rest q]) (by simp;omega),ai4]
   refine IG hq td hz o4 n (h+b+1) _ (ow rest q) (by omega) (hr.step hq hz) (by omega) (fun i hi => ?_) (fun i => ?_)
   ·rw[cc,ag7 (by omega)];exact zS i (by omega)
   ·rw[cc];split
    ·unfold stepC;have a1:=yR (bx rest) (bx q);have a2:=hr.ht (rest.length-1);have a3:=hq.ht (q.length-1);have a2:ht (bx rest)≤max h 1:=a2;have a3:ht (bx q)≤max b 1:=a3;omega
    ·exact ho i
theorem Ch.rest{h b:Nat}{p q:List Rat}(hp:Ch h p)(hq:Ch b q)(hz:aQ q=false)(o4:q≠[]):Ch (h+(p.length+1-q.length)*(b+1)) (cb p q):=by have:=ES hq (cP hz o4) (by intro e;exact o4 (afP e)) (p.length+1) h [] (aO p) hp.trim;refine Ch.mono this ?_;have h1:=iz p;have:((aO p).length+1-q.length)*(b+1)≤(p.length+1-q.length)*(b+1):=afU _ (by omega);omega
theorem Gm{h b:Nat}{p q:List Rat}(hp:Ch h p)(hq:Ch b q)(h1:1≤h)(td:1≤b)(hz:aQ q=false)(o4:q≠[]):Fl (h+(p.length+1-q.length)*(b+1)+b) (dJ p q).1:=by have hl:=iz p;have h2:((aO p).length+1-q.length)*(b+1)≤(p.length+1-q.length)*(b+1):=afU _ (by omega);exact pB (IG hq td (cP hz o4) (by intro e;exact o4 (afP e)) (p.length+1) h [] (aO p) h1 hp.trim (by omega) (fun i _=>rfl) (fun i=>ag3 (ajK k7) (by omega)))
theorem CM{p q:List Rat}(hz:aQ q=false)(o4:q≠[]):(dJ p q).1.length≤p.length+1-q.length:=by
 have key:∀(n:Nat) (out rest:List Rat),rest.length≤p.length→out.length≤p.length+1-q.length→(pM n out rest q).1.length≤p.length+1-q.length:=by
  intro n
  induction n with
  |zero=>intro out rest _ h;exact h
  |succ n ih =>
   intro out rest h1 h2;rw[pM];cases hb:Nat.blt rest.length q.length with
   |true=>exact h2
   |false =>have hl:=xM.1 hb;have hs:=rz (cP hz o4) (by intro e;exact o4 (afP e)) hl;refine ih _ _ (by omega) ?_;have h3:=iz (dw out (je (rest.length-q.length) [stepC rest q]));rw[Is] at h3;unfold je at h3;rw[agB,ahb] at h3;simp only[List.length_cons,List.length_nil] at h3;unfold je;omega
 exact key _ _ _ (iz p) (by simp)
def xB(a b:Nat):Nat→Nat
 |0=>a
 |1=>b
 |j+2=>xB a b j+2*(xB a b (j+1)+1)
theorem Gn(a b:Nat)(h:a≤b):∀j,xB a b j≤xB a b (j+1)
 |0=>h
 |j+1=>by rw[xB];omega
theorem eX(a b:Nat)(h:a≤b){i j:Nat}(AB:i≤j):xB a b i≤xB a b j:=by
 induction AB with
 |refl=>exact afY _
 |step _ ih=>exact ag3 ih (Gn a b h _)
theorem yY(a b:Nat)(h:a≤b)(j:Nat):∀d,xB a b j+(d+2)*(xB a b (j+1)+1)≤xB a b (j+1+(d+1))
 |0=>afY _
 |d+1=>by
  have ih:=yY a b h j d;have h1:=eX a b h (i:=j+1) (j:=j+1+d) (by omega);have e:xB a b (j+1+(d+1+1))=xB a b (j+1+d)+2*(xB a b (j+1+(d+1))+1):=rfl;rw[e];have e2:(d+1+2)*(xB a b (j+1)+1)=(d+2)*(xB a b (j+1)+1)+(xB a b (j+1)+1):=by rw[show d+1+2=(d+2)+1 from by omega,agF,ahr]
  rw[e2];omega
structure DR (a b N i j:Nat) (p q:List Rat):Prop where
 hp:Ch (xB a b i) p
 hq:Ch (xB a b j) q
 lt:i<j
 len:q.length<p.length
 bound:j+p.length≤N+1
 zp:aQ p=false
 zq:aQ q=false
theorem DR.rest{a b N i j:Nat}{p q:List Rat}(e:DR a b N i j p q)(gM:a≤b)(o4:q≠[]):Ch (xB a b (j+(p.length-q.length))) (cb p q)∧(cb p q).length<q.length:=by have h1:=e.hp.rest e.hq e.zq o4;have hl:=(kp p e.zq o4).1;have hlen:=e.len;have bH:=e.lt;refine⟨h1.mono ?_,hl⟩;obtain⟨j',rfl⟩:∃j',j=j'+1:=⟨j-1,by omega⟩;obtain⟨d,hd⟩:∃d,p.length-q.length=d+1:=⟨p.length-q.length-1,by omega⟩;have h2:=eX a b gM (i:=i) (j:=j') (by omega);have h3:=yY a b gM j' d;rw[hd,show p.length+1-q.length=d+2 from by omega];omega
theorem DR.next{a b N i j:Nat}{p q r:List Rat}(e:DR a b N i j p q)(gM:a≤b)(o4:q≠[])(hr:Ch (xB a b (j+(p.length-q.length))) r)(hl:r.length<q.length)(hz:aQ r=false):DR a b N j (j+(p.length-q.length)) q r:=by have:=e.len;have:=e.bound;exact⟨e.hq,hr,by omega,hl,by omega,e.zq,hz⟩
theorem DR.idx{a b N i j:Nat}{p q:List Rat}(e:DR a b N i j p q):j≤N+1:=by have:=e.bound;omega
theorem LN{a b N:Nat}(ha:1≤a)(gM:a≤b):∀(n i j:Nat) (p q:List Rat),DR a b N i j p q→Ch (xB a b (N+1)) (lW n p q)
 |0,i,j,p,q,e=>e.hp.mono (eX a b gM (by have:=e.idx;have:=e.lt;omega))
 |n+1,i,j,p,q,e=>by
  rw[lW];by_cases h:q.length=0
  ·rw[beq_iff.2 h,afZ];exact e.hp.mono (eX a b gM (by have:=e.idx;have:=e.lt;omega))
  ·have et:q≠[]:=fun e=>h (by rw[e];rfl)
   rw[jc.2 h,agf];obtain⟨h1,h2⟩:=e.rest gM et;have hz:=gT p q;refine LN ha gM n _ _ q _ (e.next gM et (h1.lS (ag3 ha (eX a b gM (i:=0) (ago _))) hz) (by rw[eH hz];exact h2) (ec _))
theorem Ch.derive{h:Nat}{p:List Rat}(hp:Ch h p)(hl:p.length≤1000):Ch (h+1) (an p):=by
 refine Ch.trim ?_;have key:∀(q:List Rat) (i:Nat) (j:Nat),coef (gz i q) j=((i+j:Nat):Int)*coef q j:=by
  intro q
  induction q with
  |nil=>intro i j;show(0:Rat)=_*0;rw[ahM]
  |cons a r ih =>
   intro i j;cases j with
   |zero=>rfl
   |succ j =>rw[gz,fu,fu,ih (i+1) j,show i+1+j=i+(j+1) from by omega]
 have hd:∀j,coef (p.drop 1) j=coef p (j+1):=by
  intro j;cases p with
  |nil=>rfl
  |cons a r=>rfl
 obtain⟨D,h1,h2,h3⟩:=hp;refine⟨D,h1,by omega,fun i => ?_⟩;rw[key,hd];by_cases hi:i+1<p.length
 ·obtain⟨n,e1,e2⟩:=h3 (i+1);refine⟨((1+i:Nat):Int)*n,?_,?_⟩
  ·rw[agt,←e1];grind
  ·have:=eo ((1+i:Nat):Int) n;have:wl ((1+i:Nat):Int)≤1:=mU (by omega);omega
 ·rw[eE (by omega)];exact⟨0,by grind,ago _⟩
end Go.Proofs.YtcpnocgollpbhaaGreatDoor.Sym
