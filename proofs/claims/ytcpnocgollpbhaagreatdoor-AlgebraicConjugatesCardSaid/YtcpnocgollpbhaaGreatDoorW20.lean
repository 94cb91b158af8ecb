/- Lemmas for the statements of this seat. -/
import Derived.Test.YtcpnocgollpbhaaGreatDoorW19
namespace Go.Proofs.YtcpnocgollpbhaaGreatDoor.Sym
open Go Go.RowKit
section
variable {P:Program} {T:kL} {Γ:Ctx} {s s':St} {a:Act} {w:World} {ops:Array Oper} {Q:Exit→Act→World→Prop}
theorem K3{ms:List Nat}{hd:List Nat} : ∀{r pre:List Nat},c2 ops ms hd pre r=true→∀p i q,r=p++i::q→∀o,ops[i]? = some o→∀t∈looks ops o,∀j∈hd,∀oj,ops[j]? = some oj→oj.dst=some t→(j∈pre∨j∈p)∧(ms.getD i 0).testBit j=true
 |[],_,_,p,i,q,h=>by cases p<;>cases h
 |x::r,pre,h,p,i,q,he=>by
  simp only[c2,Bool.and_eq_true] at h;cases p with
  |nil =>
   injection he with he _
   subst he;intro o ho t ht j hj oj ZU hd;have h1:=h.1;rw[ho] at h1;simp only[List.all_eq_true] at h1;have h2:=h1 t ht j hj;rw[ZU] at h2;simp only[hd] at h2;simp only[Nat.beq_refl,Bool.not_true,Bool.false_or,Bool.and_eq_true] at h2;exact⟨.inl (by simpa using h2.1),h2.2⟩
  |cons y p =>
   injection he with he gQ
   subst he;intro o ho t ht j hj oj ZU hd;obtain⟨h3,h4⟩:=K3 h.2 p i q gQ o ho t ht j hj oj ZU hd;refine⟨?_,h4⟩;rcases h3 with h3|h3
   ·rcases agp.1 h3 with rfl|h3
    ·exact .inr (by simp)
    ·exact .inl h3
   ·exact .inr (by simp[h3])
theorem vj{n:Nat} : ∀(rs:List HR) (hs:List Hint) (s:St),DI P T n ops rs hs s→distinct ops (rs.map (·.1))=true→vK rs
 |[],_,_,_,_=>trivial
 |(i,o,res)::rs,hs,s,ar,h=>by obtain⟨h1,_,h3⟩:=ar;simp only[List.map_cons,distinct,Bool.and_eq_true] at h;refine⟨fun d hd x hx e => ?_,vj rs _ _ h3 h.2⟩;have h4:=h.1;rw[h1] at h4;simp only[Option.bind_some,hd,List.all_eq_true,List.mem_map] at h4;obtain⟨pre,post,oe⟩:=ajs hx;obtain⟨_,YK,_⟩:=DI.at h3 pre x post oe;have h5:=h4 x.1 ⟨x,hx,rfl⟩;rw[YK] at h5;simp only[Option.bind_some,e,Nat.beq_refl,Bool.not_true] at h5;cases h5
theorem map_inj{α β:Type}(f:α→β)(l:List α)(h:(l.map f).Nodup):∀x∈l,∀y∈l,f x=f y→x=y:=by
 induction l with
 |nil=>intro x hx;cases hx
 |cons z l ih =>
  simp only[List.map_cons] at h;obtain⟨h1,h2⟩:=aio.1 h;intro x hx y hy e;rcases agp.1 hx with h3|h3<;>rcases agp.1 hy with h4|h4
  ·rw[h3,h4]
  ·exact absurd (agI.2 ⟨y,h4,by rw[←e,h3]⟩) h1
  ·exact absurd (agI.2 ⟨x,h3,by rw[e,h4]⟩) h1
  ·exact ih h2 x h3 y h4 e
theorem MG{ms hd:List Nat}(tl:List Nat)(h:vP ms hd tl=true):∀i∈tl,∀j∈hd,(ms.getD i 0).testBit j=true:=by
 induction tl with
 |nil=>intro i hi;cases hi
 |cons t tl ih =>
  simp only[vP,Bool.and_eq_true,List.all_eq_true] at h;intro i hi j hj;rcases agp.1 hi with hi|hi
  ·subst hi;exact h.1.1 j hj
  ·exact ih h.2 i hi j hj
theorem OE(hT:n8 P T)(hs:∀r,bB Γ.sin r→Γ.n≤r)(Ei:∀i,i<ops.size→∀e∈jm ops i,e<ops.size){hd tl:List Nat}{rs:List HR}{hh ht:List Hint}{s1:St}{ob:List Prop}
  (MF:rs.map (·.1)=hd) (ar:DI P T Γ.n ops rs hh s1) (Q0:distinct ops hd=true) (HQ:c2 ops (o6 ops) hd [] hd=true) (x7:vP (o6 ops) hd tl=true) (OF:vQ (o6 ops) rs=true) (Ay:(hd++tl).Nodup)
  (lT:∀i∈hd++tl,i<ops.size) (WW:∀r:List Nat,(∀i∈r,i∈hd++tl)→r≠[]→∃i∈r,∀e∈jm ops i,e ∉ r) (TX:∀x∈rs,dK x.2.2.ob)
  (aK:BJ P T Γ.n ops tl ht (app [] rs s1)=some (s',ob)) (bT:dK ob) (hk:∀a' w',Rel Γ s' a' w'→Q .normal a' w') :
  ∀(fuel:Nat) (U:List Nat) (listed:Array Bool) (a:Act) (w:World),U.length=fuel→U.Nodup→(∀i∈U,i∈hd++tl)→(∀i∈tl,i∈U)→OB ops listed U→(∀i,i<ops.size→i ∉ U→∀e∈jm ops i,e ∉ U) →
   Rel Γ (app U rs s1) a w→wpAny P .any ops Q fuel listed a w:=by
 have TU:=vj rs hh s1 ar (by rw[MF];exact Q0);have Ui:hd.Nodup:=(ahL.1 Ay).1;have OG:tl.Nodup:=(ahL.1 Ay).2.1;have SZ:∀i∈hd,i ∉ tl:=fun i hi D8=>(ahL.1 Ay).2.2 i hi i D8 rfl
 have OH:∀(U:List Nat) (listed:Array Bool) (a:Act) (w:World),U.Nodup→(∀i,i∈U↔i∈tl)→OB ops listed U→(∀i,i<ops.size→i ∉ U→∀e∈jm ops i,e ∉ U)→Rel Γ (app U rs s1) a w →
   wpAny P .any ops Q U.length listed a w:=by
  intro U listed a w hn hU hl rH hr;have ZV:∀(l:List HR) (s:St),(∀x∈l,x.1 ∉ U)→app U l s=app [] l s:=by
   intro l
   induction l with
   |nil=>intro s _;rfl
   |cons x l ih =>intro s hx;rw[r8];obtain⟨i,o,res⟩:=x;show app U l (if i∈U then s else hAdd s o.dst res)=_;rw[ag7 (hx (i,o,res) (by simp))];exact ih _ (fun y hy=>hx y (by simp[hy]))
  rw[ZV rs s1 (fun x hx Ug=>SZ x.1 (by rw[←MF];exact agI.2 ⟨x,hx,rfl⟩) ((hU _).1 Ug))] at hr;have hlen:U.length=tl.length:=by have h1:=ahx hn (fun i hi=>(hU i).1 hi);have h2:=ahx OG (fun i hi=>(hU i).2 hi);omega
  rw[hlen];refine OC hT hs (hd:=hd) Ei hk tl ht _ ob listed a w OG (fun i hi=>lT i (by simp[hi])) x7 ⟨hl.1,fun j hj=>by rw[hl.2 j hj,hU]⟩
   (fun i hi Uh e he het=>rH i hi (fun h=>Uh ((hU i).1 h)) e he ((hU e).2 het)) (fun r hr et=>WW r (fun i hi=>by simp[hr.subset hi]) et) hr aK bT
 intro fuel
 induction fuel with
 |zero =>
  intro U listed a w hlen hn hU YL hl rH hr;have:U=[]:=afP hlen;subst this;have ZW:∀i,i∈([]:List Nat)↔i∈tl:=fun i=>⟨fun h=>(by cases h),fun h=>YL i h⟩
  exact OH [] listed a w hn ZW hl rH hr
 |succ fuel ih =>
  intro U listed a w hlen hn hU YL hl rH hr;refine⟨fun Fk => ?_,fun i hi => ?_⟩
  ·obtain⟨i,hi,oW⟩:=WW U hU (fun e=>by rw[e] at hlen;cases hlen);have:i∈Region.ready .any ops listed:=(ke hl (Ei i (lT i (hU i hi)))).2 ⟨lT i (hU i hi),hi,oW⟩;rw[Fk] at this;cases this
  ·have bH:i<ops.size:=by
    have hi':=hi;rw[mem_ready] at hi';obtain⟨_,o,ho,_⟩:=hi';exact(agY.1 ho).1
   obtain⟨_,NG,oW⟩:=(ke hl (Ei i bH)).1 hi;have mask:∀j,((o6 ops).getD i 0).testBit j=true→j ∉ U:=fun j hj =>(vN ops i j hj (fun x=>x<ops.size∧x ∉ U) (fun x hx e he=>⟨Ei x hx.1 e he,rH x hx.1 hx.2 e he⟩) (fun e he=>⟨Ei i bH e he,oW e he⟩)).2
   rcases ah6.1 (hU i NG) with hih|Uh
   ·
    rw[←MF] at hih;obtain⟨x,hx,Uj⟩:=agI.1 hih;obtain⟨pre,post,oe⟩:=ajs hx;obtain⟨h,YK,oZ⟩:=DI.at ar pre x post oe;have YE:∀y∈pre,y∈rs:=fun y hy=>by rw[oe];simp[hy]
    have WX:vK pre:=BK (post:=x::post) (by rw[←oe];exact TU);have MH:∀y∈rs,y.1∈hd:=fun y hy=>by rw[←MF];exact agI.2 ⟨y,hy,rfl⟩
    have uV:∀y∈rs,ops[y.1]? = some y.2.1:=fun y hy=>by obtain⟨p,q,Ro⟩:=ajs hy;obtain⟨_,hoy,_⟩:=DI.at ar p y q Ro;exact hoy
    have Eh:∀y∈rs,∀z∈rs,y.1=z.1→y=z:=map_inj (·.1) rs (by rw[MF];exact Ui);have hap:=zB (o6 ops) pre post x (by rw[←oe];exact OF);have WY:∀y∈rs,((o6 ops).getD y.1 0).testBit x.1=true→y.1∈U:=fun y hy hm=>afV fun hc=>by have WZ:y.1<ops.size:=lT y.1 (by simp[MH y hy]);have:=(vN ops y.1 x.1 hm (fun z=>z<ops.size∧z ∉ U) (fun z hz e he=>⟨Ei z hz.1 e he,rH z hz.1 hz.2 e he⟩) (fun e he=>⟨Ei y.1 WZ e he,rH y.1 WZ hc e he⟩)).2;rw[Uj] at this;exact this NG
    have hys:∀y∈post,y∈rs:=fun y hy=>by rw[oe];simp[hy]
    have Fw:∀r,(jF x=some r∨x.2.2.rd=some r)→(∀y∈pre,jF y=some r→y.1 ∉ U)∧(∀y∈post,jF y=some r→y.1∈U):=by
     intro r DB;refine⟨fun y hy hw=>mask y.1 (by rw[←Uj];exact hap.1 y hy (HP hw DB)),fun y hy hw=>WY y (hys y hy) (hap.2 y hy ?_)⟩;rcases DB with DB|DB
     ·exact HP DB (.inl hw)
     ·exact OD DB hw
    have Ug:x.1∈U:=by rw[Uj];exact NG
    have ij:∀r,(jF x=some r∨x.2.2.rd=some r)→(app U rs s1).aG.get r=(app [] pre s1).aG.get r:=fun r dI=>by rw[oe];exact BG s1 (Fw r dI).1 (Fw r dI).2 Ug
    have et:∀y∈pre,y≠x:=fun y hy e=>by have HT:=Ui;rw[←MF,oe,agU,agD] at HT;exact(ahL.1 HT).2.2 y.1 (agI.2 ⟨y,hy,rfl⟩) x.1 (by simp) (by rw[e])
    have ZX:x ∉ post:=fun hm=>by have HT:=Ui;rw[←MF,oe,agU,agD] at HT;exact(aio.1 (ahL.1 HT).2.1).1 (agI.2 ⟨x,hm,rfl⟩)
    have he:∀t∈looks ops x.2.1,(app U rs s1).env.get t=(app [] pre s1).env.get t:=by
     intro t ht;by_cases hy:∃y∈rs,y.2.1.dst=some t
     ·obtain⟨y,hy,Wc⟩:=hy;have Mq:hd=pre.map (·.1)++x.1::post.map (·.1):=by rw[←MF,oe];simp
      obtain⟨h1,h2⟩:=K3 HQ _ _ _ Mq x.2.1 YK t ht y.1 (MH y hy) y.2.1 (uV y hy) Wc;have YJ:y.1 ∉ U:=mask y.1 (by rw[←Uj];exact h2);have hyp:y∈pre:=by
       rcases h1 with h1|h1
       ·cases h1
       ·obtain⟨z,hz,hze⟩:=agI.1 h1;rw[←Eh z (YE z hz) y hy hze];exact hz
      rw[mc U t y Wc YJ rs s1 TU hy,mc [] t y Wc (by simp) pre s1 WX hyp]
     ·rw[kd U t rs s1 (fun y Jc Oz=>absurd ⟨y,Jc,Oz⟩ hy),kd [] t pre s1 (fun y Jc Oz=>absurd ⟨y,YE y Jc,Oz⟩ hy)]
    have K4:Fu P T Γ.n ops x.2.1 h (app U rs s1)=some x.2.2:=by
     refine JN oZ he (fun r Rp=>ij r ?_) (fun d SO hn ve => ?_)
     ·rcases Rp with h1|⟨h1,h2⟩
      ·exact .inr h1
      ·left;unfold jF;rw[h1];exact h2
     ·rw[ij d (.inl (by
       unfold jF;cases Ov:x.2.2.new with
       |none=>rw[Ov] at hn;cases hn
       |some sc=>rw[SO]))]
      exact ve
    unfold wpOp;rw[←Uj,YK];refine JJ hT hs hr K4 (TX x hx) (fun a' w' dI => ?_);have OI:=ME oe TU (U:=U) (U':=HO U x.1) (fun j=>oA) (fun y hy e=>Eh y hy x hx e) (fun hm=>et x hm rfl) Ug (fun r TM=>(Fw r (.inl TM)).1) (fun r TM=>(Fw r (.inl TM)).2) ZX s1;have ZY:x.1<ops.size:=by rw[Uj];exact bH
    refine ih (HO U x.1) _ a' w' (by have:=KZ hn Ug;omega) (aje _ hn) (fun j hj=>hU j (oA.1 hj).1) (fun j hj=>oA.2 ⟨YL j hj,fun e=>SZ x.1 (MH x hx) (e ▸ hj)⟩)
     (hl.set ZY) (fun j hj Wd e gQ ZZ => ?_) (Rel.Rb OI dI)
    have W0:=(oA.1 ZZ).1;by_cases hjx:j=x.1
    ·subst hjx;rw[Uj] at gQ;exact oW e gQ W0
    ·exact rH j hj (fun h=>Wd (oA.2 ⟨h,hjx⟩)) e gQ W0
   ·
    have hhd:∀j∈hd,j ∉ U:=by intro j hj;exact mask j (MG tl x7 i Uh j hj)
    exact(OH U listed a w hn (fun j=>⟨fun hj=>by
     rcases ah6.1 (hU j hj) with h|h
     ·exact absurd hj (hhd j h)
     ·exact h,YL j⟩) hl rH hr |> fun h=>by rw[hlen] at h;exact h.2 i hi)
end
end Go.Proofs.YtcpnocgollpbhaaGreatDoor.Sym
