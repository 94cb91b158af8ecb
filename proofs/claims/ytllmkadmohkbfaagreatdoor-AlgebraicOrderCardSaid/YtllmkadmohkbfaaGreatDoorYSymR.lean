/- The comparison of algebraic numbers is a total order that agrees with the comparison with fractions. The law AlgebraicOrder returns true for every input, with the tables of numerals of the Go library that the row lists as they are laid. -/
import Derived.Test.YtllmkadmohkbfaaGreatDoorYSymQ
namespace Go.Proofs.YtllmkadmohkbfaaGreatDoor.Sym
open Go Go.RowKit
section
variable {P:Program} {T:j0} {Γ:Ctx} {s s':St} {a:Act} {w:World} {ops:Array Oper} {Q:Exit→Act→World→Prop}
def zA(P:Program)(T:j0)(n:Nat)(ops:Array Oper):List Nat→List Hint→St→Option (St×List Prop)
 |[],_,s=>some (s,[])
 |i::r,hs,s=>match ops[i]? with
  |some o=>match stepG P T n ops o (hs.headD .none) s with
   |some (s1,Jc)=>match zA P T n ops r hs.tail s1 with
    |some (s2,ob2)=>some (s2,Jc++ob2)
    |none=>none
   |none=>none
  |none=>none
theorem J0(hT:mC P T)(hs:∀r,bM Γ.sin r→Γ.n≤r){hd:List Nat}(BE:∀i,i<ops.size→∀e∈ig ops i,e<ops.size)(hk:∀a' w',Rel Γ s' a' w'→Q .normal a' w')(tl:List Nat) :
  ∀(hints:List Hint) (s:St) (ob:List Prop) (listed:Array Bool) (a:Act) (w:World),tl.Nodup→(∀i∈tl,i<ops.size)→tR (nv ops) hd tl=true →
   JZ ops listed tl→(∀i,i<ops.size→i ∉ tl→∀e∈ig ops i,e ∉ tl)→(∀r:List Nat,r <:+ tl→r≠[]→∃i∈r,∀e∈ig ops i,e ∉ r) →
   Rel Γ s a w→zA P T Γ.n ops tl hints s=some (s',ob)→dA ob→wpAny P .any ops Q tl.length listed a w:=by
 induction tl with
 |nil =>
  intro hints s ob listed a w _ _ _ hl _ _ hr aI _
  injection aI with aI;injection aI with h1 h2
  subst h1
  refine⟨?_,hk a w hr⟩
  apply List.eq_nil_iff_forall_not_mem.2
  intro i hi
  have bh:i<ops.size:=by
   rw[mem_ready] at hi
   obtain⟨_,o,ho,_⟩:=hi
   exact(Array.getElem?_eq_some_iff.1 ho).1
  have:=(ji hl (BE i bh)).1 hi
  simp at this
 |cons t tl ih =>
  intro hints s ob listed a w hn kF V4 hl qQ Rn hr aI cb
  obtain⟨Ro,Jh⟩:=List.nodup_cons.1 hn
  simp only[tR,Bool.and_eq_true,List.all_eq_true] at V4
  obtain⟨⟨_,T1⟩,T2⟩:=V4
  unfold zA at aI
  split at aI
  ·rename_i o ho
   split at aI
   ·rename_i s1 Jc h1
    split at aI
    ·rename_i s2 ob2 h2
     injection aI with aI;injection aI with e1 e2
     subst e1;subst e2
     obtain⟨g1,g2⟩:=cb.app
     have only:∀i,i∈Region.ready .any ops listed→i=t:=by
      intro i hi
      have bh:i<ops.size:=by
       rw[mem_ready] at hi
       obtain⟨_,o,ho,_⟩:=hi
       exact(Array.getElem?_eq_some_iff.1 ho).1
      obtain⟨_,Ji,nk⟩:=(ji hl (BE i bh)).1 hi
      rcases List.mem_cons.1 Ji with O3|Ji
      ·exact O3
      ·have hm:=tP ops i t (T1 i Ji) (fun x=>x<ops.size∧x ∉ t::tl) (fun x hx e he=>⟨BE x hx.1 e he,qQ x hx.1 hx.2 e he⟩) (fun e he=>⟨BE i bh e he,nk e he⟩)
       exact absurd (by simp:t∈t::tl) hm.2
     refine⟨fun Cy => ?_,fun i hi => ?_⟩
     ·obtain⟨i,hi,nk⟩:=Rn (t::tl) (List.suffix_refl _) (by simp)
      have:i∈Region.ready .any ops listed:=(ji hl (BE i (kF i hi))).2 ⟨kF i hi,hi,nk⟩
      rw[Cy] at this;cases this
     ·have O3:=only i hi
      subst O3
      have bh:=kF i (by simp)
      obtain⟨_,_,nk⟩:=(ji hl (BE i bh)).1 hi
      unfold wpOp
      rw[ho]
      refine rr hT hs hr h1 g1 (fun a' w' dG => ?_)
      have Mu:JZ ops (listed.setIfInBounds i true) tl:=by
       obtain⟨q1,q2⟩:=hl.set bh
       refine⟨q1,fun j hj => ?_⟩
       rw[q2 j hj,mT]
       constructor
       ·exact fun h1 h2=>h1 ⟨by simp[h2],fun e=>Ro (e ▸ h2)⟩
       ·rintro h1 ⟨h2,h3⟩
        rcases List.mem_cons.1 h2 with e|h2
        ·exact h3 e
        ·exact h1 h2
      refine ih hints.tail s1 ob2 _ a' w' Jh (fun i hi=>kF i (by simp[hi])) T2 Mu (fun j hj V5 e he het => ?_) (fun r hr df=>Rn r (List.IsSuffix.trans hr (List.suffix_cons i tl)) df) dG h2 g2
      by_cases hji:j=i
      ·subst hji;exact nk e he (by simp[het])
      ·exact qQ j hj (by simp[hji,V5]) e he (by simp[het])
    ·cases aI
   ·cases aI
  ·cases aI
theorem qf(x:HR)(rs:List HR)(s:St):app [] (x::rs) s=app [] rs (hAdd s x.2.1.dst x.2.2):=by
 obtain⟨i,o,res⟩:=x
 simp[app]
theorem Ba.at{n:Nat} : ∀{rs:List HR} {hs:List Hint} {s:St},Ba P T n ops rs hs s→∀pre x post,rs=pre++x::post→∃h,ops[x.1]? = some x.2.1∧CG P T n ops x.2.1 h (app [] pre s)=some x.2.2
 |[],_,_,_,pre,x,post,h=>by cases pre<;>cases h
 |(i,o,res)::rs,hs,s,aq,pre,x,post,h=>by
  obtain⟨h1,h2,h3⟩:=aq
  cases pre with
  |nil =>
   injection h with h _
   subst h
   exact⟨_,h1,h2⟩
  |cons y pre =>
   injection h with h h'
   subst h
   rw[qf]
   exact Ba.at h3 pre x post h'
theorem zB:∀{pre post:List HR},tM (pre++post)→tM pre
 |[],_,_=>trivial
 |(_,o,_)::pre,post,h=>⟨fun d hd x hx=>h.1 d hd x (by simp[hx]),zB h.2⟩
theorem Gf{n:Nat}{o:Oper}{h:Hint}{s s':St}{res:XR}(hr:CG P T n ops o h s=some res)(he:∀t∈looks ops o,s'.env.get t=s.env.get t)
  (hs:∀r,(res.rd=some r∨(res.new=none∧res.wr.map (·.1)=some r))→s'.aG.get r=s.aG.get r) (hf:∀d,o.dst=some d→res.new.isSome=true→s.aG.get d=none→s'.aG.get d=none):CG P T n ops o h s'=some res:=by
 have V6:∀r0,hU P T o h s=some r0→(∀r,(r0.rd=some r∨(r0.new=none∧r0.wr.map (·.1)=some r))→(res.rd=some r∨(res.new=none∧res.wr.map (·.1)=some r)))→hU P T o h s'=hU P T o h s:=fun r0 h0 gA =>
  JY (fun t ht=>he t (List.mem_append_left _ (List.mem_filterMap.2 ⟨.tmp t,by simpa using ht,rfl⟩))) (fun r hr=>hs r (gA r (MI h0 hr)))
 have N0:∀r:XR,og s o.dst r.new=true→(r.new.isSome=true→res.new.isSome=true)→og s' o.dst r.new=true:=by
  intro r Cs T3
  cases hx:r.new with
  |none=>rfl
  |some sc =>
   rw[hx] at Cs
   unfold og at Cs ⊢
   cases hd:o.dst with
   |none=>rw[hd] at Cs;cases Cs
   |some d =>
    rw[hd] at Cs
    simp only at Cs ⊢
    rw[Bool.and_eq_true] at Cs ⊢
    exact⟨by rw[hf d hd (T3 (by rw[hx];rfl)) (by simpa using Cs.1)];rfl,Cs.2⟩
 unfold CG at hr ⊢
 cases hd:ky n o.dst with
 |false=>simp[hd] at hr
 |true =>
  simp only[hd,cond_true] at hr ⊢
  split at hr
  ·rename_i hg
   split at hr
   ·rename_i r hu
    cases Cs:og s o.dst r.new with
    |false=>simp[Cs] at hr
    |true =>
     simp only[Cs,cond_true] at hr
     injection hr with hr;subst hr
     rw[V6 _ hu (fun _ h=>h),hu]
     simp only[N0 r Cs (fun h=>h),cond_true]
   ·cases hr
  ·rename_i j want hg
   split at hr
   ·rename_i t ht
    have s5:s'.env.get t=s.env.get t:=he t (List.mem_append_right _ (by simp[hg,ht]))
    simp only[s5]
    split at hr
    ·split at hr
     ·exact hr
     ·split at hr
      ·rename_i r hu
       cases Cs:og s o.dst r.new with
       |false=>simp[Cs] at hr
       |true =>
        simp only[Cs,cond_true] at hr
        injection hr with hr;subst hr
        rw[V6 _ hu (fun _ h=>h),hu]
        simp only[N0 r Cs (fun h=>h),cond_true]
      ·cases hr
    ·exact hr
    ·cases hr
   ·cases hr
def Rp:Option Nat→Nat→Bool
 |some x,r=>Nat.beq x r
 |none,_=>false
def zC(x y:HR):Bool :=
 (match iD x with
  |some r=>Rp (iD y) r||Rp y.2.2.rd r
  |none=>false)||(match x.2.2.rd with
  |some r=>Rp (iD y) r
  |none=>false)
def tS(ms:List Nat):List HR→Bool
 |[]=>true
 |x::rs=>rs.all (fun y => !(zC x y)||(ms.getD y.1 0).testBit x.1)&&tS ms rs
theorem xl(ms:List Nat):∀(pre post:List HR) (x:HR),tS ms (pre++x::post)=true →
  (∀y∈pre,zC y x=true→(ms.getD x.1 0).testBit y.1=true)∧(∀y∈post,zC x y=true→(ms.getD y.1 0).testBit x.1=true)
 |[],post,x,h=>by
  simp only[List.nil_append,tS,Bool.and_eq_true,List.all_eq_true,Bool.or_eq_true,Bool.not_eq_true'] at h
  refine⟨fun y hy=>(by cases hy),fun y hy hc => ?_⟩
  rcases h.1 y hy with h1|h1
  ·rw[hc] at h1;cases h1
  ·exact h1
 |z::pre,post,x,h=>by
  simp only[List.cons_append,tS,Bool.and_eq_true,List.all_eq_true,Bool.or_eq_true,Bool.not_eq_true'] at h
  obtain⟨g1,g2⟩:=xl ms pre post x h.2
  refine⟨fun y hy hc => ?_,g2⟩
  rcases List.mem_cons.1 hy with hy|hy
  ·subst hy
   rcases h.1 x (by simp) with h1|h1
   ·rw[hc] at h1;cases h1
   ·exact h1
  ·exact g1 y hy hc
theorem Ep{x y:HR}{r:Nat}(hx:iD x=some r)(hy:iD y=some r∨y.2.2.rd=some r):zC x y=true:=by
 unfold zC
 rw[hx]
 rcases hy with hy|hy<;>simp[hy,Rp]
theorem J1{x y:HR}{r:Nat}(hx:x.2.2.rd=some r)(hy:iD y=some r):zC x y=true:=by
 unfold zC
 rw[hx]
 simp[hy,Rp]
end
end Go.Proofs.YtllmkadmohkbfaaGreatDoor.Sym
