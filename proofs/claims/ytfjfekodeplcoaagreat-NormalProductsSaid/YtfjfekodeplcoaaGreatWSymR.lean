/- Lemmas for the statements of this seat. -/
import Derived.Test.YtfjfekodeplcoaaGreatWSymQ
namespace Go.Proofs.YtfjfekodeplcoaaGreat.Sym
open Go Go.RowKit
section
variable {P:Program} {T:ja} {Γ:Ctx} {s s':St} {a:Act} {w:World} {ops:Array Oper} {Q:Exit→Act→World→Prop}
def zn(P:Program)(T:ja)(n:Nat)(ops:Array Oper):List Nat→List Hint→St→Option (St×List Prop)
 |[],_,s=>some (s,[])
 |i::r,hs,s=>match ops[i]? with
  |some o=>match stepG P T n ops o (hs.headD .none) s with
   |some (s1,Hu)=>match zn P T n ops r hs.tail s1 with
    |some (s2,ob2)=>some (s2,Hu++ob2)
    |none=>none
   |none=>none
  |none=>none
theorem Iv(hT:lH P T)(hs:∀r,aS Γ.sin r→Γ.n≤r){hd:List Nat}(A9:∀i,i<ops.size→∀e∈ix ops i,e<ops.size)(hk:∀a' w',Rel Γ s' a' w'→Q .normal a' w')(tl:List Nat) :
  ∀(hints:List Hint) (s:St) (ob:List Prop) (bQ:Array Bool) (a:Act) (w:World),tl.Nodup→(∀i∈tl,i<ops.size)→tQ (nS ops) hd tl=true →
   Iu ops bQ tl→(∀i,i<ops.size→i ∉ tl→∀e∈ix ops i,e ∉ tl)→(∀r:List Nat,r <:+ tl→r≠[]→∃i∈r,∀e∈ix ops i,e ∉ r) →
   Rel Γ s a w→zn P T Γ.n ops tl hints s=some (s',ob)→cW ob→wpAny P .any ops Q tl.length bQ a w:=by
 induction tl with
 |nil =>
  intro hints s ob bQ a w _ _ _ hl _ _ hr aD _
  injection aD with aD;injection aD with h1 h2
  subst h1
  refine⟨?_,hk a w hr⟩
  apply List.eq_nil_iff_forall_not_mem.2
  intro i hi
  have cQ:i<ops.size:=by
   rw[mem_ready] at hi
   obtain⟨_,o,ho,_⟩:=hi
   exact(Array.getElem?_eq_some_iff.1 ho).1
  have:=(jI hl (A9 i cQ)).1 hi
  simp at this
 |cons t tl ih =>
  intro hints s ob bQ a w hn jC TZ hl jb Pr hr aD bK
  obtain⟨Kg,Dj⟩:=List.nodup_cons.1 hn
  simp only[tQ,Bool.and_eq_true,List.all_eq_true] at TZ
  obtain⟨⟨_,RS⟩,RT⟩:=TZ
  unfold zn at aD
  split at aD
  ·rename_i o ho
   split at aD
   ·rename_i s1 Hu h1
    split at aD
    ·rename_i s2 ob2 h2
     injection aD with aD;injection aD with e1 e2
     subst e1;subst e2
     obtain⟨g1,g2⟩:=bK.app
     have only:∀i,i∈Region.ready .any ops bQ→i=t:=by
      intro i hi
      have cQ:i<ops.size:=by
       rw[mem_ready] at hi
       obtain⟨_,o,ho,_⟩:=hi
       exact(Array.getElem?_eq_some_iff.1 ho).1
      obtain⟨_,Hx,lI⟩:=(jI hl (A9 i cQ)).1 hi
      rcases List.mem_cons.1 Hx with KL|Hx
      ·exact KL
      ·have hm:=tO ops i t (RS i Hx) (fun x=>x<ops.size∧x ∉ t::tl) (fun x hx e he=>⟨A9 x hx.1 e he,jb x hx.1 hx.2 e he⟩) (fun e he=>⟨A9 i cQ e he,lI e he⟩)
       exact absurd (by simp:t∈t::tl) hm.2
     refine⟨fun BG => ?_,fun i hi => ?_⟩
     ·obtain⟨i,hi,lI⟩:=Pr (t::tl) (List.suffix_refl _) (by simp)
      have:i∈Region.ready .any ops bQ:=(jI hl (A9 i (jC i hi))).2 ⟨jC i hi,hi,lI⟩
      rw[BG] at this;cases this
     ·have KL:=only i hi
      subst KL
      have cQ:=jC i (by simp)
      obtain⟨_,_,lI⟩:=(jI hl (A9 i cQ)).1 hi
      unfold wpOp
      rw[ho]
      refine rS hT hs hr h1 g1 (fun a' w' dy => ?_)
      have GO:Iu ops (bQ.setIfInBounds i true) tl:=by
       obtain⟨q1,q2⟩:=hl.set cQ
       refine⟨q1,fun j hj => ?_⟩
       rw[q2 j hj,np]
       constructor
       ·exact fun h1 h2=>h1 ⟨by simp[h2],fun e=>Kg (e ▸ h2)⟩
       ·rintro h1 ⟨h2,h3⟩
        rcases List.mem_cons.1 h2 with e|h2
        ·exact h3 e
        ·exact h1 h2
      refine ih hints.tail s1 ob2 _ a' w' Dj (fun i hi=>jC i (by simp[hi])) RT GO (fun j hj VC e he het => ?_) (fun r hr iO=>Pr r (List.IsSuffix.trans hr (List.suffix_cons i tl)) iO) dy h2 g2
      by_cases OI:j=i
      ·subst OI;exact lI e he (by simp[het])
      ·exact jb j hj (by simp[OI,VC]) e he (by simp[het])
    ·cases aD
   ·cases aD
  ·cases aD
theorem qx(x:HR)(rs:List HR)(s:St):app [] (x::rs) s=app [] rs (hAdd s x.2.1.dst x.2.2):=by
 obtain⟨i,o,res⟩:=x
 simp[app]
theorem AH.at{n:Nat} : ∀{rs:List HR} {hs:List Hint} {s:St},AH P T n ops rs hs s→∀pre x post,rs=pre++x::post→∃h,ops[x.1]? = some x.2.1∧BR P T n ops x.2.1 h (app [] pre s)=some x.2.2
 |[],_,_,_,pre,x,post,h=>by cases pre<;>cases h
 |(i,o,res)::rs,hs,s,aw,pre,x,post,h=>by
  obtain⟨h1,h2,h3⟩:=aw
  cases pre with
  |nil =>
   injection h with h _
   subst h
   exact⟨_,h1,h2⟩
  |cons y pre =>
   injection h with h h'
   subst h
   rw[qx]
   exact AH.at h3 pre x post h'
theorem zo:∀{pre post:List HR},tL (pre++post)→tL pre
 |[],_,_=>trivial
 |(_,o,_)::pre,post,h=>⟨fun d hd x hx=>h.1 d hd x (by simp[hx]),zo h.2⟩
theorem E5{n:Nat}{o:Oper}{h:Hint}{s s':St}{res:XR}(hr:BR P T n ops o h s=some res)(he:∀t∈looks ops o,s'.env.get t=s.env.get t)
  (hs:∀r,(res.rd=some r∨(res.new=none∧res.wr.map (·.1)=some r))→s'.sto.get r=s.sto.get r) (hf:∀d,o.dst=some d→res.new.isSome=true→s.sto.get d=none→s'.sto.get d=none):BR P T n ops o h s'=some res:=by
 have T0:∀r0,hU P T o h s=some r0→(∀r,(r0.rd=some r∨(r0.new=none∧r0.wr.map (·.1)=some r))→(res.rd=some r∨(res.new=none∧res.wr.map (·.1)=some r)))→hU P T o h s'=hU P T o h s:=fun r0 h0 gE =>
  It (fun t ht=>he t (List.mem_append_left _ (List.mem_filterMap.2 ⟨.tmp t,by simpa using ht,rfl⟩))) (fun r hr=>hs r (gE r (KJ h0 hr)))
 have LP:∀r:XR,oJ s o.dst r.new=true→(r.new.isSome=true→res.new.isSome=true)→oJ s' o.dst r.new=true:=by
  intro r Au RU
  cases hx:r.new with
  |none=>rfl
  |some sc =>
   rw[hx] at Au
   unfold oJ at Au ⊢
   cases hd:o.dst with
   |none=>rw[hd] at Au;cases Au
   |some d =>
    rw[hd] at Au
    simp only at Au ⊢
    rw[Bool.and_eq_true] at Au ⊢
    exact⟨by rw[hf d hd (RU (by rw[hx];rfl)) (by simpa using Au.1)];rfl,Au.2⟩
 unfold BR at hr ⊢
 cases hd:gp n o.dst with
 |false=>simp[hd] at hr
 |true =>
  simp only[hd,cond_true] at hr ⊢
  split at hr
  ·rename_i hg
   split at hr
   ·rename_i r hu
    cases Au:oJ s o.dst r.new with
    |false=>simp[Au] at hr
    |true =>
     simp only[Au,cond_true] at hr
     injection hr with hr;subst hr
     rw[T0 _ hu (fun _ h=>h),hu]
     simp only[LP r Au (fun h=>h),cond_true]
   ·cases hr
  ·rename_i j want hg
   split at hr
   ·rename_i t ht
    have fS:s'.env.get t=s.env.get t:=he t (List.mem_append_right _ (by simp[hg,ht]))
    simp only[fS]
    split at hr
    ·split at hr
     ·exact hr
     ·split at hr
      ·rename_i r hu
       cases Au:oJ s o.dst r.new with
       |false=>simp[Au] at hr
       |true =>
        simp only[Au,cond_true] at hr
        injection hr with hr;subst hr
        rw[T0 _ hu (fun _ h=>h),hu]
        simp only[LP r Au (fun h=>h),cond_true]
      ·cases hr
    ·exact hr
    ·cases hr
   ·cases hr
def Ps:Option Nat→Nat→Bool
 |some x,r=>Nat.beq x r
 |none,_=>false
def zp(x y:HR):Bool :=
 (match iT x with
  |some r=>Ps (iT y) r||Ps y.2.2.rd r
  |none=>false)||(match x.2.2.rd with
  |some r=>Ps (iT y) r
  |none=>false)
def tR(ms:List Nat):List HR→Bool
 |[]=>true
 |x::rs=>rs.all (fun y => !(zp x y)||(ms.getD y.1 0).testBit x.1)&&tR ms rs
theorem wZ(ms:List Nat):∀(pre post:List HR) (x:HR),tR ms (pre++x::post)=true →
  (∀y∈pre,zp y x=true→(ms.getD x.1 0).testBit y.1=true)∧(∀y∈post,zp x y=true→(ms.getD y.1 0).testBit x.1=true)
 |[],post,x,h=>by
  simp only[List.nil_append,tR,Bool.and_eq_true,List.all_eq_true,Bool.or_eq_true,Bool.not_eq_true'] at h
  refine⟨fun y hy=>(by cases hy),fun y hy hc => ?_⟩
  rcases h.1 y hy with h1|h1
  ·rw[hc] at h1;cases h1
  ·exact h1
 |z::pre,post,x,h=>by
  simp only[List.cons_append,tR,Bool.and_eq_true,List.all_eq_true,Bool.or_eq_true,Bool.not_eq_true'] at h
  obtain⟨g1,g2⟩:=wZ ms pre post x h.2
  refine⟨fun y hy hc => ?_,g2⟩
  rcases List.mem_cons.1 hy with hy|hy
  ·subst hy
   rcases h.1 x (by simp) with h1|h1
   ·rw[hc] at h1;cases h1
   ·exact h1
  ·exact g1 y hy hc
theorem Dk{x y:HR}{r:Nat}(hx:iT x=some r)(hy:iT y=some r∨y.2.2.rd=some r):zp x y=true:=by
 unfold zp
 rw[hx]
 rcases hy with hy|hy<;>simp[hy,Ps]
theorem Iw{x y:HR}{r:Nat}(hx:x.2.2.rd=some r)(hy:iT y=some r):zp x y=true:=by
 unfold zp
 rw[hx]
 simp[hy,Ps]
end
end Go.Proofs.YtfjfekodeplcoaaGreat.Sym
