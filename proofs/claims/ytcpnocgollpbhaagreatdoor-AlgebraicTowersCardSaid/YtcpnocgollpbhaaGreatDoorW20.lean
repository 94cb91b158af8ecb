/- Lemmas for the statements of this seat. -/
import Derived.Test.YtcpnocgollpbhaaGreatDoorW19
namespace Go.Proofs.YtcpnocgollpbhaaGreatDoor.Sym
open Go Go.RowKit
section
variable {P:Program} {T:lh} {Γ:Ctx} {s s':St} {a:Act} {w:World} {ops:Array Oper} {Q:Exit→Act→World→Prop}
theorem LK{ms:List Nat}{hd:List Nat} : ∀{r pre:List Nat},c2 ops ms hd pre r=true→∀p i q,r=p++i::q→∀o,ops[i]? = some o→∀t∈looks ops o,∀j∈hd,∀oj,ops[j]? = some oj→oj.dst=some t→(j∈pre∨j∈p)∧(ms.getD i 0).testBit j=true
 |[],_,_,p,i,q,h=>by cases p<;>cases h
 |x::r,pre,h,p,i,q,he=>by
  simp only[c2,Bool.and_eq_true] at h;cases p with
  |nil =>
   injection he with he _
   subst he;intro o ho t ht j hj oj ZW hd;have h1:=h.1;rw[ho] at h1;simp only[List.all_eq_true] at h1;have h2:=h1 t ht j hj;rw[ZW] at h2;simp only[hd] at h2;simp only[Nat.beq_refl,Bool.not_true,Bool.false_or,Bool.and_eq_true] at h2;exact⟨.inl (by simpa using h2.1),h2.2⟩
  |cons y p =>
   injection he with he iu
   subst he;intro o ho t ht j hj oj ZW hd;obtain⟨h3,h4⟩:=LK h.2 p i q iu o ho t ht j hj oj ZW hd;refine⟨?_,h4⟩;rcases h3 with h3|h3
   ·rcases afY.1 h3 with rfl|h3
    ·exact .inr (by simp)
    ·exact .inl h3
   ·exact .inr (by simp[h3])
theorem wv{n:Nat} : ∀(rs:List HR) (hs:List Hint) (s:St),EH P T n ops rs hs s→distinct ops (rs.map (·.1))=true→wX rs
 |[],_,_,_,_=>trivial
 |(i,o,res)::rs,hs,s,aw,h=>by obtain⟨h1,_,h3⟩:=aw;simp only[List.map_cons,distinct,Bool.and_eq_true] at h;refine⟨fun d hd x hx e => ?_,wv rs _ _ h3 h.2⟩;have h4:=h.1;rw[h1] at h4;simp only[Option.bind_some,hd,List.all_eq_true,List.mem_map] at h4;obtain⟨pre,post,oJ⟩:=aj0 hx;obtain⟨_,YR,_⟩:=EH.at h3 pre x post oJ;have h5:=h4 x.1 ⟨x,hx,rfl⟩;rw[YR] at h5;simp only[Option.bind_some,e,Nat.beq_refl,Bool.not_true] at h5;cases h5
theorem map_inj{α β:Type}(f:α→β)(l:List α)(h:(l.map f).Nodup):∀x∈l,∀y∈l,f x=f y→x=y:=by
 induction l with
 |nil=>intro x hx;cases hx
 |cons z l ih =>
  simp only[List.map_cons] at h;obtain⟨h1,h2⟩:=ai0.1 h;intro x hx y hy e;rcases afY.1 hx with h3|h3<;>rcases afY.1 hy with h4|h4
  ·rw[h3,h4]
  ·exact absurd (agj.2 ⟨y,h4,by rw[←e,h3]⟩) h1
  ·exact absurd (agj.2 ⟨x,h3,by rw[e,h4]⟩) h1
  ·exact ih h2 x h3 y h4 e
theorem Nl{ms hd:List Nat}(tl:List Nat)(h:w7 ms hd tl=true):∀i∈tl,∀j∈hd,(ms.getD i 0).testBit j=true:=by
 induction tl with
 |nil=>intro i hi;cases hi
 |cons t tl ih =>
  simp only[w7,Bool.and_eq_true,List.all_eq_true] at h;intro i hi j hj;rcases afY.1 hi with hi|hi
  ·subst hi;exact h.1.1 j hj
  ·exact ih h.2 i hi j hj
theorem Pc(hT:oE P T)(hs:∀r,bK Γ.sin r→Γ.n≤r)(Fe:∀i,i<ops.size→∀e∈jE ops i,e<ops.size){hd tl:List Nat}{rs:List HR}{hh ht:List Hint}{s1:St}{ob:List Prop}
  (Nk:rs.map (·.1)=hd) (aw:EH P T Γ.n ops rs hh s1) (RD:distinct ops hd=true) (Kx:c2 ops (pJ ops) hd [] hd=true) (zu:w7 (pJ ops) hd tl=true) (Pd:w8 (pJ ops) rs=true) (BL:(hd++tl).Nodup)
  (mg:∀i∈hd++tl,i<ops.size) (Xi:∀r:List Nat,(∀i∈r,i∈hd++tl)→r≠[]→∃i∈r,∀e∈jE ops i,e ∉ r) (Ut:∀x∈rs,dX x.2.2.ob)
  (aO:CY P T Γ.n ops tl ht (app [] rs s1)=some (s',ob)) (cv:dX ob) (hk:∀a' w',Rel Γ s' a' w'→Q .normal a' w') :
  ∀(fuel:Nat) (U:List Nat) (listed:Array Bool) (a:Act) (w:World),U.length=fuel→U.Nodup→(∀i∈U,i∈hd++tl)→(∀i∈tl,i∈U)→O9 ops listed U→(∀i,i<ops.size→i ∉ U→∀e∈jE ops i,e ∉ U) →
   Rel Γ (app U rs s1) a w→wpAny P .any ops Q fuel listed a w:=by
 have Uq:=wv rs hh s1 aw (by rw[Nk];exact RD);have UO:hd.Nodup:=(aho.1 BL).1;have Pe:tl.Nodup:=(aho.1 BL).2.1;have Tu:∀i∈hd,i ∉ tl:=fun i hi E4=>(aho.1 BL).2.2 i hi i E4 rfl
 have Pf:∀(U:List Nat) (listed:Array Bool) (a:Act) (w:World),U.Nodup→(∀i,i∈U↔i∈tl)→O9 ops listed U→(∀i,i<ops.size→i ∉ U→∀e∈jE ops i,e ∉ U)→Rel Γ (app U rs s1) a w →
   wpAny P .any ops Q U.length listed a w:=by
  intro U listed a w hn hU hl sF hr;have ZX:∀(l:List HR) (s:St),(∀x∈l,x.1 ∉ U)→app U l s=app [] l s:=by
   intro l
   induction l with
   |nil=>intro s _;rfl
   |cons x l ih =>intro s hx;rw[sW];obtain⟨i,o,res⟩:=x;show app U l (if i∈U then s else hAdd s o.dst res)=_;rw[afG (hx (i,o,res) (by simp))];exact ih _ (fun y hy=>hx y (by simp[hy]))
  rw[ZX rs s1 (fun x hx UM=>Tu x.1 (by rw[←Nk];exact agj.2 ⟨x,hx,rfl⟩) ((hU _).1 UM))] at hr;have hlen:U.length=tl.length:=by have h1:=ahc hn (fun i hi=>(hU i).1 hi);have h2:=ahc Pe (fun i hi=>(hU i).2 hi);omega
  rw[hlen];refine Pa hT hs (hd:=hd) Fe hk tl ht _ ob listed a w Pe (fun i hi=>mg i (by simp[hi])) zu ⟨hl.1,fun j hj=>by rw[hl.2 j hj,hU]⟩
   (fun i hi UN e he het=>sF i hi (fun h=>UN ((hU i).1 h)) e he ((hU e).2 het)) (fun r hr fT=>Xi r (fun i hi=>by simp[hr.subset hi]) fT) hr aO cv
 intro fuel
 induction fuel with
 |zero =>
  intro U listed a w hlen hn hU YS hl sF hr;have:U=[]:=afr hlen;subst this;have ZY:∀i,i∈([]:List Nat)↔i∈tl:=fun i=>⟨fun h=>(by cases h),fun h=>YS i h⟩
  exact Pf [] listed a w hn ZY hl sF hr
 |succ fuel ih =>
  intro U listed a w hlen hn hU YS hl sF hr;refine⟨fun Gf => ?_,fun i hi => ?_⟩
  ·obtain⟨i,hi,pE⟩:=Xi U hU (fun e=>by rw[e] at hlen;cases hlen);have:i∈Region.ready .any ops listed:=(kD hl (Fe i (mg i (hU i hi)))).2 ⟨mg i (hU i hi),hi,pE⟩;rw[Gf] at this;cases this
  ·have dI:i<ops.size:=by
    have AS:=hi;rw[mem_ready] at AS;obtain⟨_,o,ho,_⟩:=AS;exact(agC.1 ho).1
   obtain⟨_,Og,pE⟩:=(kD hl (Fe i dI)).1 hi;have mask:∀j,((pJ ops).getD i 0).testBit j=true→j ∉ U:=fun j hj =>(w5 ops i j hj (fun x=>x<ops.size∧x ∉ U) (fun x hx e he=>⟨Fe x hx.1 e he,sF x hx.1 hx.2 e he⟩) (fun e he=>⟨Fe i dI e he,pE e he⟩)).2
   rcases agO.1 (hU i Og) with hih|UN
   ·
    rw[←Nk] at hih;obtain⟨x,hx,UP⟩:=agj.1 hih;obtain⟨pre,post,oJ⟩:=aj0 hx;obtain⟨h,YR,pG⟩:=EH.at aw pre x post oJ;have YL:∀y∈pre,y∈rs:=fun y hy=>by rw[oJ];simp[hy]
    have Xj:wX pre:=CZ (post:=x::post) (by rw[←oJ];exact Uq);have Nn:∀y∈rs,y.1∈hd:=fun y hy=>by rw[←Nk];exact agj.2 ⟨y,hy,rfl⟩
    have v7:∀y∈rs,ops[y.1]? = some y.2.1:=fun y hy=>by obtain⟨p,q,RZ⟩:=aj0 hy;obtain⟨_,hoy,_⟩:=EH.at aw p y q RZ;exact hoy
    have Fc:∀y∈rs,∀z∈rs,y.1=z.1→y=z:=map_inj (·.1) rs (by rw[Nk];exact UO);have hap:=AR (pJ ops) pre post x (by rw[←oJ];exact Pd);have Xk:∀y∈rs,((pJ ops).getD y.1 0).testBit x.1=true→y.1∈U:=fun y hy hm=>afE fun hc=>by have Xl:y.1<ops.size:=mg y.1 (by simp[Nn y hy]);have:=(w5 ops y.1 x.1 hm (fun z=>z<ops.size∧z ∉ U) (fun z hz e he=>⟨Fe z hz.1 e he,sF z hz.1 hz.2 e he⟩) (fun e he=>⟨Fe y.1 Xl e he,sF y.1 Xl hc e he⟩)).2;rw[UP] at this;exact this Og
    have hys:∀y∈post,y∈rs:=fun y hy=>by rw[oJ];simp[hy]
    have Gr:∀r,(jW x=some r∨x.2.2.rd=some r)→(∀y∈pre,jW y=some r→y.1 ∉ U)∧(∀y∈post,jW y=some r→y.1∈U):=by
     intro r EA;refine⟨fun y hy hw=>mask y.1 (by rw[←UP];exact hap.1 y hy (Iy hw EA)),fun y hy hw=>Xk y (hys y hy) (hap.2 y hy ?_)⟩;rcases EA with EA|EA
     ·exact Iy EA (.inl hw)
     ·exact Pb EA hw
    have UM:x.1∈U:=by rw[UP];exact Og
    have gW:∀r,(jW x=some r∨x.2.2.rd=some r)→(app U rs s1).aK.get r=(app [] pre s1).aK.get r:=fun r dS=>by rw[oJ];exact CW s1 (Gr r dS).1 (Gr r dS).2 UM
    have fT:∀y∈pre,y≠x:=fun y hy e=>by have Iz:=UO;rw[←Nk,oJ,agd,agk] at Iz;exact(aho.1 Iz).2.2 y.1 (agj.2 ⟨y,hy,rfl⟩) x.1 (by simp) (by rw[e])
    have ZZ:x ∉ post:=fun hm=>by have Iz:=UO;rw[←Nk,oJ,agd,agk] at Iz;exact(ai0.1 (aho.1 Iz).2.1).1 (agj.2 ⟨x,hm,rfl⟩)
    have he:∀t∈looks ops x.2.1,(app U rs s1).env.get t=(app [] pre s1).env.get t:=by
     intro t ht;by_cases hy:∃y∈rs,y.2.1.dst=some t
     ·obtain⟨y,hy,WB⟩:=hy;have M5:hd=pre.map (·.1)++x.1::post.map (·.1):=by rw[←Nk,oJ];simp
      obtain⟨h1,h2⟩:=LK Kx _ _ _ M5 x.2.1 YR t ht y.1 (Nn y hy) y.2.1 (v7 y hy) WB;have YQ:y.1 ∉ U:=mask y.1 (by rw[←UP];exact h2);have hyp:y∈pre:=by
       rcases h1 with h1|h1
       ·cases h1
       ·obtain⟨z,hz,hze⟩:=agj.1 h1;rw[←Fc z (YL z hz) y hy hze];exact hz
      rw[mB U t y WB YQ rs s1 Uq hy,mB [] t y WB (by simp) pre s1 Xj hyp]
     ·rw[kC U t rs s1 (fun y JS O7=>absurd ⟨y,JS,O7⟩ hy),kC [] t pre s1 (fun y JS O7=>absurd ⟨y,YL y JS,O7⟩ hy)]
    have LL:Gp P T Γ.n ops x.2.1 h (app U rs s1)=some x.2.2:=by
     refine Kw pG he (fun r R0=>gW r ?_) (fun d Tk hn wh => ?_)
     ·rcases R0 with h1|⟨h1,h2⟩
      ·exact .inr h1
      ·left;unfold jW;rw[h1];exact h2
     ·rw[gW d (.inl (by
       unfold jW;cases RW:x.2.2.new with
       |none=>rw[RW] at hn;cases hn
       |some sc=>rw[Tk]))]
      exact wh
    unfold wpOp;rw[←UP,YR];refine Ks hT hs hr LL (Ut x hx) (fun a' w' dS => ?_);have Pg:=Nj oJ Uq (U:=U) (U':=Ix U x.1) (fun j=>o6) (fun y hy e=>Fc y hy x hx e) (fun hm=>fT x hm rfl) UM (fun r Ui=>(Gr r (.inl Ui)).1) (fun r Ui=>(Gr r (.inl Ui)).2) ZZ s1;have Z0:x.1<ops.size:=by rw[UP];exact dI
    refine ih (Ix U x.1) _ a' w' (by have:=LJ hn UM;omega) (aiN _ hn) (fun j hj=>hU j (o6.1 hj).1) (fun j hj=>o6.2 ⟨YS j hj,fun e=>Tu x.1 (Nn x hx) (e ▸ hj)⟩)
     (hl.set Z0) (fun j hj WC e iu Z1 => ?_) (Rel.RN Pg dS)
    have Xm:=(o6.1 Z1).1;by_cases hjx:j=x.1
    ·subst hjx;rw[UP] at iu;exact pE e iu Xm
    ·exact sF j hj (fun h=>WC (o6.2 ⟨h,hjx⟩)) e iu Xm
   ·
    have hhd:∀j∈hd,j ∉ U:=by intro j hj;exact mask j (Nl tl zu i UN j hj)
    exact(Pf U listed a w hn (fun j=>⟨fun hj=>by
     rcases agO.1 (hU j hj) with h|h
     ·exact absurd hj (hhd j h)
     ·exact h,YS j⟩) hl sF hr |> fun h=>by rw[hlen] at h;exact h.2 i hi)
end
end Go.Proofs.YtcpnocgollpbhaaGreatDoor.Sym
