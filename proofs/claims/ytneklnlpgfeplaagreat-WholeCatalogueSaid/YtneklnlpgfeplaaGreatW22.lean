/- Lemmas for the statements of this seat. -/
import Derived.Test.YtneklnlpgfeplaaGreatW21
namespace Go.Proofs.YtneklnlpgfeplaaGreat.Sym
open Go Go.RowKit
section
variable {P:Program} {T:ja} {Γ:Ctx} {s s':St} {a:Act} {w:World} {ops:Array Oper} {Q:Exit→Act→World→Prop}
theorem H2{ms:List Nat}{hd:List Nat} : ∀{r pre:List Nat},c2 ops ms hd pre r=true→∀p i q,r=p++i::q→∀o,ops[i]? = some o→∀t∈looks ops o,∀j∈hd,∀oj,ops[j]? = some oj→oj.dst=some t→(j∈pre∨j∈p)∧(ms.getD i 0).testBit j=true
 |[],_,_,p,i,q,h=>by cases p<;>cases h
 |x::r,pre,h,p,i,q,he=>by
  simp only[c2,Bool.and_eq_true] at h;cases p with
  |nil =>
   injection he with he _
   subst he;intro o ho t ht j hj oj VW hd;have h1:=h.1;rw[ho] at h1;simp only[List.all_eq_true] at h1;have h2:=h1 t ht j hj;rw[VW] at h2;simp only[hd] at h2;simp only[Nat.beq_refl,Bool.not_true,Bool.false_or,Bool.and_eq_true] at h2;exact⟨.inl (by simpa using h2.1),h2.2⟩
  |cons y p =>
   injection he with he gi
   subst he;intro o ho t ht j hj oj VW hd;obtain⟨h3,h4⟩:=H2 h.2 p i q gi o ho t ht j hj oj VW hd;refine⟨?_,h4⟩;rcases h3 with h3|h3
   ·rcases ac0.1 h3 with rfl|h3
    ·exact .inr (by simp)
    ·exact .inl h3
   ·exact .inr (by simp[h3])
theorem uL{n:Nat} : ∀(rs:List HR) (hs:List Hint) (s:St),Cb P T n ops rs hs s→distinct ops (rs.map (·.1))=true→vm rs
 |[],_,_,_,_=>trivial
 |(i,o,res)::rs,hs,s,aJ,h=>by obtain⟨h1,_,h3⟩:=aJ;simp only[List.map_cons,distinct,Bool.and_eq_true] at h;refine⟨fun d hd x hx e => ?_,uL rs _ _ h3 h.2⟩;have h4:=h.1;rw[h1] at h4;simp only[Option.bind_some,hd,List.all_eq_true,List.mem_map] at h4;obtain⟨pre,post,nR⟩:=aeR hx;obtain⟨_,Uw,_⟩:=Cb.at h3 pre x post nR;have h5:=h4 x.1 ⟨x,hx,rfl⟩;rw[Uw] at h5;simp only[Option.bind_some,e,Nat.beq_refl,Bool.not_true] at h5;cases h5
theorem map_inj{α β:Type}(f:α→β)(l:List α)(h:(l.map f).Nodup):∀x∈l,∀y∈l,f x=f y→x=y:=by
 induction l with
 |nil=>intro x hx;cases hx
 |cons z l ih =>
  simp only[List.map_cons] at h;obtain⟨h1,h2⟩:=adP.1 h;intro x hx y hy e;rcases ac0.1 hx with h3|h3<;>rcases ac0.1 hy with h4|h4
  ·rw[h3,h4]
  ·exact absurd (aca.2 ⟨y,h4,by rw[←e,h3]⟩) h1
  ·exact absurd (aca.2 ⟨x,h3,by rw[e,h4]⟩) h1
  ·exact ih h2 x h3 y h4 e
theorem I1{ms hd:List Nat}(tl:List Nat)(h:vr ms hd tl=true):∀i∈tl,∀j∈hd,(ms.getD i 0).testBit j=true:=by
 induction tl with
 |nil=>intro i hi;cases hi
 |cons t tl ih =>
  simp only[vr,Bool.and_eq_true,List.all_eq_true] at h;intro i hi j hj;rcases ac0.1 hi with hi|hi
  ·subst hi;exact h.1.1 j hj
  ·exact ih h.2 i hi j hj
theorem Kx(hT:mm P T)(hs:∀r,bz Γ.sin r→Γ.n≤r)(zr:∀i,i<ops.size→∀e∈gX ops i,e<ops.size){hd tl:List Nat}{rs:List HR}{hh ht:List Hint}{s1:St}{ob:List Prop}
  (IY:rs.map (·.1)=hd) (aJ:Cb P T Γ.n ops rs hh s1) (MI:distinct ops hd=true) (F3:c2 ops (oK ops) hd [] hd=true) (xE:vr (oK ops) hd tl=true) (Ky:vu (oK ops) rs=true) (zk:(hd++tl).Nodup)
  (ji:∀i∈hd++tl,i<ops.size) (Sn:∀r:List Nat,(∀i∈r,i∈hd++tl)→r≠[]→∃i∈r,∀e∈gX ops i,e ∉ r) (Pd:∀x∈rs,dW x.2.2.ob)
  (bc:Az P T Γ.n ops tl ht (app [] rs s1)=some (s',ob)) (cf:dW ob) (hk:∀a' w',Rel Γ s' a' w'→Q .normal a' w') :
  ∀(fuel:Nat) (U:List Nat) (bT:Array Bool) (a:Act) (w:World),U.length=fuel→U.Nodup→(∀i∈U,i∈hd++tl)→(∀i∈tl,i∈U)→Es ops bT U→(∀i,i<ops.size→i ∉ U→∀e∈gX ops i,e ∉ U) →
   Rel Γ (app U rs s1) a w→wpAny P .any ops Q fuel bT a w:=by
 have Pb:=uL rs hh s1 aJ (by rw[IY];exact MI);have PJ:hd.Nodup:=(ad7.1 zk).1;have Kz:tl.Nodup:=(ad7.1 zk).2.1;have Oz:∀i∈hd,i ∉ tl:=fun i hi Cu=>(ad7.1 zk).2.2 i hi i Cu rfl
 have KA:∀(U:List Nat) (bT:Array Bool) (a:Act) (w:World),U.Nodup→(∀i,i∈U↔i∈tl)→Es ops bT U→(∀i,i<ops.size→i ∉ U→∀e∈gX ops i,e ∉ U)→Rel Γ (app U rs s1) a w →
   wpAny P .any ops Q U.length bT a w:=by
  intro U bT a w hn hU hl nJ hr;have VX:∀(l:List HR) (s:St),(∀x∈l,x.1 ∉ U)→app U l s=app [] l s:=by
   intro l
   induction l with
   |nil=>intro s _;rfl
   |cons x l ih =>intro s hx;rw[ry];obtain⟨i,o,res⟩:=x;show app U l (if i∈U then s else hAdd s o.dst res)=_;rw[ac3 (hx (i,o,res) (by simp))];exact ih _ (fun y hy=>hx y (by simp[hy]))
  rw[VX rs s1 (fun x hx PI=>Oz x.1 (by rw[←IY];exact aca.2 ⟨x,hx,rfl⟩) ((hU _).1 PI))] at hr;have hlen:U.length=tl.length:=by have h1:=acK hn (fun i hi=>(hU i).1 hi);have h2:=acK Kz (fun i hi=>(hU i).2 hi);omega
  rw[hlen];refine Kv hT hs (hd:=hd) zr hk tl ht _ ob bT a w Kz (fun i hi=>ji i (by simp[hi])) xE ⟨hl.1,fun j hj=>by rw[hl.2 j hj,hU]⟩
   (fun i hi Na e he het=>nJ i hi (fun h=>Na ((hU i).1 h)) e he ((hU e).2 het)) (fun r hr nZ=>Sn r (fun i hi=>by simp[hr.subset hi]) nZ) hr bc cf
 intro fuel
 induction fuel with
 |zero =>
  intro U bT a w hlen hn hU Ux hl nJ hr;have:U=[]:=abT hlen;subst this;have VY:∀i,i∈([]:List Nat)↔i∈tl:=fun i=>⟨fun h=>(by cases h),fun h=>Ux i h⟩
  exact KA [] bT a w hn VY hl nJ hr
 |succ fuel ih =>
  intro U bT a w hlen hn hU Ux hl nJ hr;refine⟨fun zV => ?_,fun i hi => ?_⟩
  ·obtain⟨i,hi,nL⟩:=Sn U hU (fun e=>by rw[e] at hlen;cases hlen);have:i∈Region.ready .any ops bT:=(gr hl (zr i (ji i (hU i hi)))).2 ⟨ji i (hU i hi),hi,nL⟩;rw[zV] at this;cases this
  ·have cT:i<ops.size:=by
    have OB:=hi;rw[mem_ready] at OB;obtain⟨_,o,ho,_⟩:=OB;exact(ach.1 ho).1
   obtain⟨_,GI,nL⟩:=(gr hl (zr i cT)).1 hi;have mask:∀j,((oK ops).getD i 0).testBit j=true→j ∉ U:=fun j hj =>(vp ops i j hj (fun x=>x<ops.size∧x ∉ U) (fun x hx e he=>⟨zr x hx.1 e he,nJ x hx.1 hx.2 e he⟩) (fun e he=>⟨zr i cT e he,nL e he⟩)).2
   rcases acs.1 (hU i GI) with Yx|Na
   ·
    rw[←IY] at Yx;obtain⟨x,hx,KB⟩:=aca.1 Yx;obtain⟨pre,post,nR⟩:=aeR hx;obtain⟨h,Uw,mq⟩:=Cb.at aJ pre x post nR;have Up:∀y∈pre,y∈rs:=fun y hy=>by rw[nR];simp[hy]
    have So:vm pre:=AA (post:=x::post) (by rw[←nR];exact Pb);have PK:∀y∈rs,y.1∈hd:=fun y hy=>by rw[←IY];exact aca.2 ⟨y,hy,rfl⟩
    have pB:∀y∈rs,ops[y.1]? = some y.2.1:=fun y hy=>by obtain⟨p,q,Mu⟩:=aeR hy;obtain⟨_,ZV,_⟩:=Cb.at aJ p y q Mu;exact ZV
    have CD:∀y∈rs,∀z∈rs,y.1=z.1→y=z:=map_inj (·.1) rs (by rw[IY];exact PJ);have Yy:=yg (oK ops) pre post x (by rw[←nR];exact Ky);have Sp:∀y∈rs,((oK ops).getD y.1 0).testBit x.1=true→y.1∈U:=fun y hy hm=>aco fun hc=>by have Sq:y.1<ops.size:=ji y.1 (by simp[PK y hy]);have:=(vp ops y.1 x.1 hm (fun z=>z<ops.size∧z ∉ U) (fun z hz e he=>⟨zr z hz.1 e he,nJ z hz.1 hz.2 e he⟩) (fun e he=>⟨zr y.1 Sq e he,nJ y.1 Sq hc e he⟩)).2;rw[KB] at this;exact this GI
    have ZW:∀y∈post,y∈rs:=fun y hy=>by rw[nR];simp[hy]
    have DJ:∀r,(jv x=some r∨x.2.2.rd=some r)→(∀y∈pre,jv y=some r→y.1 ∉ U)∧(∀y∈post,jv y=some r→y.1∈U):=by
     intro r B4;refine⟨fun y hy hw=>mask y.1 (by rw[←KB];exact Yy.1 y hy (E4 hw B4)),fun y hy hw=>Sp y (ZW y hy) (Yy.2 y hy ?_)⟩;rcases B4 with B4|B4
     ·exact E4 B4 (.inl hw)
     ·exact Kw B4 hw
    have PI:x.1∈U:=by rw[KB];exact GI
    have gP:∀r,(jv x=some r∨x.2.2.rd=some r)→(app U rs s1).aP.get r=(app [] pre s1).aP.get r:=fun r dx=>by rw[nR];exact Ax s1 (DJ r dx).1 (DJ r dx).2 PI
    have nZ:∀y∈pre,y≠x:=fun y hy e=>by have E5:=PJ;rw[←IY,nR,adu,acI] at E5;exact(ad7.1 E5).2.2 y.1 (aca.2 ⟨y,hy,rfl⟩) x.1 (by simp) (by rw[e])
    have VZ:x ∉ post:=fun hm=>by have E5:=PJ;rw[←IY,nR,adu,acI] at E5;exact(adP.1 (ad7.1 E5).2.1).1 (aca.2 ⟨x,hm,rfl⟩)
    have he:∀t∈looks ops x.2.1,(app U rs s1).env.get t=(app [] pre s1).env.get t:=by
     intro t ht;by_cases hy:∃y∈rs,y.2.1.dst=some t
     ·obtain⟨y,hy,Rr⟩:=hy;have FY:hd=pre.map (·.1)++x.1::post.map (·.1):=by rw[←IY,nR];simp
      obtain⟨h1,h2⟩:=H2 F3 _ _ _ FY x.2.1 Uw t ht y.1 (PK y hy) y.2.1 (pB y hy) Rr;have Uv:y.1 ∉ U:=mask y.1 (by rw[←KB];exact h2);have hyp:y∈pre:=by
       rcases h1 with h1|h1
       ·cases h1
       ·obtain⟨z,hz,ZX⟩:=aca.1 h1;rw[←CD z (Up z hz) y hy ZX];exact hz
      rw[lK U t y Rr Uv rs s1 Pb hy,lK [] t y Rr (by simp) pre s1 So hyp]
     ·rw[jW U t rs s1 (fun y Ak Ov=>absurd ⟨y,Ak,Ov⟩ hy),jW [] t pre s1 (fun y Ak Ov=>absurd ⟨y,Up y Ak,Ov⟩ hy)]
    have H3:DG P T Γ.n ops x.2.1 h (app U rs s1)=some x.2.2:=by
     refine GJ mq he (fun r V0=>gP r ?_) (fun d Og hn uF => ?_)
     ·rcases V0 with h1|⟨h1,h2⟩
      ·exact .inr h1
      ·left;unfold jv;rw[h1];exact h2
     ·rw[gP d (.inl (by
       unfold jv;cases EX:x.2.2.new with
       |none=>rw[EX] at hn;cases hn
       |some sc=>rw[Og]))]
      exact uF
    unfold wpOp;rw[←KB,Uw];refine GC hT hs hr H3 (Pd x hx) (fun a' w' dx => ?_);have E6:=IX nR Pb (U:=U) (U':=CE U x.1) (fun j=>nc) (fun y hy e=>CD y hy x hx e) (fun hm=>nZ x hm rfl) PI (fun r FX=>(DJ r (.inl FX)).1) (fun r FX=>(DJ r (.inl FX)).2) VZ s1;have V1:x.1<ops.size:=by rw[KB];exact cT
    refine ih (CE U x.1) _ a' w' (by have:=DI hn PI;omega) (adL _ hn) (fun j hj=>hU j (nc.1 hj).1) (fun j hj=>nc.2 ⟨Ux j hj,fun e=>Oz x.1 (PK x hx) (e ▸ hj)⟩)
     (hl.set V1) (fun j hj Rt e gi V2 => ?_) (Rel.IL E6 dx)
    have Sr:=(nc.1 V2).1;by_cases hjx:j=x.1
    ·subst hjx;rw[KB] at gi;exact nL e gi Sr
    ·exact nJ j hj (fun h=>Rt (nc.2 ⟨h,hjx⟩)) e gi Sr
   ·
    have ZY:∀j∈hd,j ∉ U:=by intro j hj;exact mask j (I1 tl xE i Na j hj)
    exact(KA U bT a w hn (fun j=>⟨fun hj=>by
     rcases acs.1 (hU j hj) with h|h
     ·exact absurd hj (ZY j h)
     ·exact h,Ux j⟩) hl nJ hr |> fun h=>by rw[hlen] at h;exact h.2 i hi)
end
end Go.Proofs.YtneklnlpgfeplaaGreat.Sym
