/- Lemmas for the statements of this seat. -/
import Derived.Test.YtneklnlpgfeplaaGreatW20
namespace Go.Proofs.YtneklnlpgfeplaaGreat.Sym
open Go Go.RowKit
section
variable {P:Program} {T:ja} {Γ:Ctx} {s s':St} {a:Act} {w:World} {ops:Array Oper} {Q:Exit→Act→World→Prop}
def Az(P:Program)(T:ja)(n:Nat)(ops:Array Oper):List Nat→List Hint→St→Option (St×List Prop)
 |[],_,s=>some (s,[])
 |i::r,hs,s=>match ops[i]? with
  |some o=>match stepG P T n ops o (hs.headD .none) s with
   |some (s1,EW)=>match Az P T n ops r hs.tail s1 with
    |some (s2,ob2)=>some (s2,EW++ob2)
    |none=>none
   |none=>none
  |none=>none
theorem Kv(hT:mm P T)(hs:∀r,bz Γ.sin r→Γ.n≤r){hd:List Nat}(zr:∀i,i<ops.size→∀e∈gX ops i,e<ops.size)(hk:∀a' w',Rel Γ s' a' w'→Q .normal a' w')(tl:List Nat) :
  ∀(hints:List Hint) (s:St) (ob:List Prop) (bT:Array Bool) (a:Act) (w:World),tl.Nodup→(∀i∈tl,i<ops.size)→vr (oK ops) hd tl=true →
   Es ops bT tl→(∀i,i<ops.size→i ∉ tl→∀e∈gX ops i,e ∉ tl)→(∀r:List Nat,r <:+ tl→r≠[]→∃i∈r,∀e∈gX ops i,e ∉ r) →
   Rel Γ s a w→Az P T Γ.n ops tl hints s=some (s',ob)→dW ob→wpAny P .any ops Q tl.length bT a w:=by
 induction tl with
 |nil =>
  intro hints s ob bT a w _ _ _ hl _ _ hr bc _;injection bc with bc;injection bc with h1 h2
  subst h1;refine⟨?_,hk a w hr⟩;apply adQ.2;intro i hi;have cT:i<ops.size:=by rw[mem_ready] at hi;obtain⟨_,o,ho,_⟩:=hi;exact(ach.1 ho).1
  have:=(gr hl (zr i cT)).1 hi;simp at this
 |cons t tl ih =>
  intro hints s ob bT a w hn ji Sj hl nJ Sk hr bc cf;obtain⟨Ox,M9⟩:=adP.1 hn;simp only[vr,Bool.and_eq_true,List.all_eq_true] at Sj;obtain⟨⟨_,VU⟩,VV⟩:=Sj;unfold Az at bc;split at bc
  ·rename_i o ho;split at bc
   ·rename_i s1 EW h1;split at bc
    ·rename_i s2 ob2 h2;injection bc with bc;injection bc with e1 e2
     subst e1;subst e2;obtain⟨g1,g2⟩:=cf.app;have only:∀i,i∈Region.ready .any ops bT→i=t:=by
      intro i hi;have cT:i<ops.size:=by rw[mem_ready] at hi;obtain⟨_,o,ho,_⟩:=hi;exact(ach.1 ho).1
      obtain⟨_,GI,nL⟩:=(gr hl (zr i cT)).1 hi;rcases ac0.1 GI with Na|GI
      ·exact Na
      ·have hm:=vp ops i t (VU i GI) (fun x=>x<ops.size∧x ∉ t::tl) (fun x hx e he=>⟨zr x hx.1 e he,nJ x hx.1 hx.2 e he⟩) (fun e he=>⟨zr i cT e he,nL e he⟩);exact absurd (by simp:t∈t::tl) hm.2
     refine⟨fun zV => ?_,fun i hi => ?_⟩
     ·obtain⟨i,hi,nL⟩:=Sk (t::tl) (List.suffix_refl _) (by simp);have:i∈Region.ready .any ops bT:=(gr hl (zr i (ji i hi))).2 ⟨ji i hi,hi,nL⟩;rw[zV] at this;cases this
     ·have Na:=only i hi;subst Na;have cT:=ji i (by simp);obtain⟨_,_,nL⟩:=(gr hl (zr i cT)).1 hi;unfold wpOp;rw[ho];refine nm hT hs hr h1 g1 (fun a' w' dx => ?_);have MP:Es ops (bT.setIfInBounds i true) tl:=by
       obtain⟨q1,q2⟩:=hl.set cT;refine⟨q1,fun j hj => ?_⟩;rw[q2 j hj,nc];constructor
       ·exact fun h1 h2=>h1 ⟨by simp[h2],fun e=>Ox (e ▸ h2)⟩
       ·rintro h1 ⟨h2,h3⟩
        rcases ac0.1 h2 with e|h2
        ·exact h3 e
        ·exact h1 h2
      refine ih hints.tail s1 ob2 _ a' w' M9 (fun i hi=>ji i (by simp[hi])) VV MP (fun j hj ZU e he het => ?_) (fun r hr nZ=>Sk r (List.IsSuffix.trans hr (List.suffix_cons i tl)) nZ) dx h2 g2;by_cases hji:j=i
      ·subst hji;exact nL e he (by simp[het])
      ·exact nJ j hj (by simp[hji,ZU]) e he (by simp[het])
    ·cases bc
   ·cases bc
  ·cases bc
theorem ry(x:HR)(rs:List HR)(s:St):app [] (x::rs) s=app [] rs (hAdd s x.2.1.dst x.2.2):=by obtain⟨i,o,res⟩:=x;simp[app]
theorem Cb.at{n:Nat} : ∀{rs:List HR} {hs:List Hint} {s:St},Cb P T n ops rs hs s→∀pre x post,rs=pre++x::post→∃h,ops[x.1]? = some x.2.1∧DG P T n ops x.2.1 h (app [] pre s)=some x.2.2
 |[],_,_,_,pre,x,post,h=>by cases pre<;>cases h
 |(i,o,res)::rs,hs,s,aJ,pre,x,post,h=>by
  obtain⟨h1,h2,h3⟩:=aJ;cases pre with
  |nil =>
   injection h with h _
   subst h;exact⟨_,h1,h2⟩
  |cons y pre =>
   injection h with h h'
   subst h;rw[ry];exact Cb.at h3 pre x post h'
theorem AA:∀{pre post:List HR},vm (pre++post)→vm pre
 |[],_,_=>trivial
 |(_,o,_)::pre,post,h=>⟨fun d hd x hx=>h.1 d hd x (by simp[hx]),AA h.2⟩
theorem GJ{n:Nat}{o:Oper}{h:Hint}{s s':St}{res:XR}(hr:DG P T n ops o h s=some res)(he:∀t∈looks ops o,s'.env.get t=s.env.get t)
  (hs:∀r,(res.rd=some r∨(res.new=none∧res.wr.map (·.1)=some r))→s'.aP.get r=s.aP.get r) (hf:∀d,o.dst=some d→res.new.isSome=true→s.aP.get d=none→s'.aP.get d=none):DG P T n ops o h s'=some res:=by
 have Yw:∀r0,hU P T o h s=some r0→(∀r,(r0.rd=some r∨(r0.new=none∧r0.wr.map (·.1)=some r))→(res.rd=some r∨(res.new=none∧res.wr.map (·.1)=some r)))→hU P T o h s'=hU P T o h s:=fun r0 h0 gP =>Ku (fun t ht=>he t (acH _ (List.mem_filterMap.2 ⟨.tmp t,by simpa using ht,rfl⟩))) (fun r hr=>hs r (gP r (M7 h0 hr)))
 have Oy:∀r:XR,pL s o.dst r.new=true→(r.new.isSome=true→res.new.isSome=true)→pL s' o.dst r.new=true:=by
  intro r Cl Sl;cases hx:r.new with
  |none=>rfl
  |some sc =>
   rw[hx] at Cl;unfold pL at Cl ⊢;cases hd:o.dst with
   |none=>rw[hd] at Cl;cases Cl
   |some d =>rw[hd] at Cl;simp only at Cl ⊢;rw[abK] at Cl ⊢;exact⟨by rw[hf d hd (Sl (by rw[hx];rfl)) (by simpa using Cl.1)];rfl,Cl.2⟩
 unfold DG at hr ⊢;cases hd:jC n o.dst with
 |false=>simp[hd] at hr
 |true =>
  simp only[hd,cond_true] at hr ⊢;split at hr
  ·rename_i hg;split at hr
   ·rename_i r hu;cases Cl:pL s o.dst r.new with
    |false=>simp[Cl] at hr
    |true =>
     simp only[Cl,cond_true] at hr;injection hr with hr;subst hr
     rw[Yw _ hu (fun _ h=>h),hu];simp only[Oy r Cl (fun h=>h),cond_true]
   ·cases hr
  ·rename_i j want hg;split at hr
   ·rename_i t ht;have qz:s'.env.get t=s.env.get t:=he t (acD _ (by simp[hg,ht]));simp only[qz];split at hr
    ·split at hr
     ·exact hr
     ·split at hr
      ·rename_i r hu;cases Cl:pL s o.dst r.new with
       |false=>simp[Cl] at hr
       |true =>
        simp only[Cl,cond_true] at hr;injection hr with hr;subst hr
        rw[Yw _ hu (fun _ h=>h),hu];simp only[Oy r Cl (fun h=>h),cond_true]
      ·cases hr
    ·exact hr
    ·cases hr
   ·cases hr
def Sm:Option Nat→Nat→Bool
 |some x,r=>Nat.beq x r
 |none,_=>false
def AB(x y:HR):Bool :=
 (match jv x with
  |some r=>Sm (jv y) r||Sm y.2.2.rd r
  |none=>false)||(match x.2.2.rd with
  |some r=>Sm (jv y) r
  |none=>false)
def vu(ms:List Nat):List HR→Bool
 |[]=>true
 |x::rs=>rs.all (fun y => !(AB x y)||(ms.getD y.1 0).testBit x.1)&&vu ms rs
theorem yg(ms:List Nat):∀(pre post:List HR) (x:HR),vu ms (pre++x::post)=true →
  (∀y∈pre,AB y x=true→(ms.getD x.1 0).testBit y.1=true)∧(∀y∈post,AB x y=true→(ms.getD y.1 0).testBit x.1=true)
 |[],post,x,h=>by
  simp only[List.nil_append,vu,Bool.and_eq_true,List.all_eq_true,Bool.or_eq_true,Bool.not_eq_true'] at h;refine⟨fun y hy=>(by cases hy),fun y hy hc => ?_⟩;rcases h.1 y hy with h1|h1
  ·rw[hc] at h1;cases h1
  ·exact h1
 |z::pre,post,x,h=>by
  simp only[List.cons_append,vu,Bool.and_eq_true,List.all_eq_true,Bool.or_eq_true,Bool.not_eq_true'] at h;obtain⟨g1,g2⟩:=yg ms pre post x h.2;refine⟨fun y hy hc => ?_,g2⟩;rcases ac0.1 hy with hy|hy
  ·subst hy;rcases h.1 x (by simp) with h1|h1
   ·rw[hc] at h1;cases h1
   ·exact h1
  ·exact g1 y hy hc
theorem E4{x y:HR}{r:Nat}(hx:jv x=some r)(hy:jv y=some r∨y.2.2.rd=some r):AB x y=true:=by unfold AB;rw[hx];rcases hy with hy|hy<;>simp[hy,Sm]
theorem Kw{x y:HR}{r:Nat}(hx:x.2.2.rd=some r)(hy:jv y=some r):AB x y=true:=by unfold AB;rw[hx];simp[hy,Sm]
end
end Go.Proofs.YtneklnlpgfeplaaGreat.Sym
