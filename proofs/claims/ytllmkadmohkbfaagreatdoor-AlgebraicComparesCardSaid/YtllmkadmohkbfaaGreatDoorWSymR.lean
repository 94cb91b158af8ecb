/- Lemmas for the statements of this seat. -/
import Derived.Test.YtllmkadmohkbfaaGreatDoorWSymQ
namespace Go.Proofs.YtllmkadmohkbfaaGreatDoor.Sym
open Go Go.RowKit
section
variable {P:Program} {T:qU} {Γ:Ctx} {s s':St} {a:Act} {w:World} {ops:Array Oper} {Q:Exit→Act→World→Prop}
def GO(P:Program)(T:qU)(n:Nat)(ops:Array Oper):List Nat→List Hint→St→Option (St×List Prop)
 |[],_,s=>some (s,[])
 |i::r,hs,s=>match ops[i]? with
  |some o=>match stepG P T n ops o (hs.headD .none) s with
   |some (s1,PR)=>match GO P T n ops r hs.tail s1 with
    |some (s2,ob2)=>some (s2,PR++ob2)
    |none=>none
   |none=>none
  |none=>none
theorem QD(hT:uj P T)(hs:∀r,ee Γ.sin r→Γ.n≤r){hd:List Nat}(IZ:∀i,i<ops.size→∀e∈oe ops i,e<ops.size)(hk:∀a' w',Rel Γ s' a' w'→Q .normal a' w')(tl:List Nat) :
  ∀(hints:List Hint) (s:St) (ob:List Prop) (listed:Array Bool) (a:Act) (w:World),tl.Nodup→(∀i∈tl,i<ops.size)→BK (vd ops) hd tl=true →
   QC ops listed tl→(∀i,i<ops.size→i ∉ tl→∀e∈oe ops i,e ∉ tl)→(∀r:List Nat,r <:+ tl→r≠[]→∃i∈r,∀e∈oe ops i,e ∉ r) →
   Rel Γ s a w→GO P T Γ.n ops tl hints s=some (s',ob)→je ob→wpAny P .any ops Q tl.length listed a w:=by
 induction tl with
 |nil =>
  intro hints s ob listed a w _ _ _ hl _ _ hr bz _
  injection bz with bz;injection bz with h1 h2
  subst h1
  refine⟨?_,hk a w hr⟩
  apply List.eq_nil_iff_forall_not_mem.2
  intro i hi
  have bH:i<ops.size:=by
   rw[mem_ready] at hi
   obtain⟨_,o,ho,_⟩:=hi
   exact(Array.getElem?_eq_some_iff.1 ho).1
  have:=(pX hl (IZ i bH)).1 hi
  simp at this
 |cons t tl ih =>
  intro hints s ob listed a w hn rD htk hl zv W3 hr bz fK
  obtain⟨QE,Fw⟩:=List.nodup_cons.1 hn
  simp only[BK,Bool.and_eq_true,List.all_eq_true] at htk
  obtain⟨⟨_,Zh⟩,Zi⟩:=htk
  unfold GO at bz
  split at bz
  ·rename_i o ho
   split at bz
   ·rename_i s1 PR h1
    split at bz
    ·rename_i s2 ob2 h2
     injection bz with bz;injection bz with e1 e2
     subst e1;subst e2
     obtain⟨g1,g2⟩:=fK.app
     have only:∀i,i∈Region.ready .any ops listed→i=t:=by
      intro i hi
      have bH:i<ops.size:=by
       rw[mem_ready] at hi
       obtain⟨_,o,ho,_⟩:=hi
       exact(Array.getElem?_eq_some_iff.1 ho).1
      obtain⟨_,PT,u5⟩:=(pX hl (IZ i bH)).1 hi
      rcases List.mem_cons.1 PT with UT|PT
      ·exact UT
      ·have hm:=BI ops i t (Zh i PT) (fun x=>x<ops.size∧x ∉ t::tl) (fun x hx e he=>⟨IZ x hx.1 e he,zv x hx.1 hx.2 e he⟩) (fun e he=>⟨IZ i bH e he,u5 e he⟩)
       exact absurd (by simp:t∈t::tl) hm.2
     refine⟨fun Jz => ?_,fun i hi => ?_⟩
     ·obtain⟨i,hi,u5⟩:=W3 (t::tl) (List.suffix_refl _) (by simp)
      have:i∈Region.ready .any ops listed:=(pX hl (IZ i (rD i hi))).2 ⟨rD i hi,hi,u5⟩
      rw[Jz] at this;cases this
     ·have UT:=only i hi
      subst UT
      have bH:=rD i (by simp)
      obtain⟨_,_,u5⟩:=(pX hl (IZ i bH)).1 hi
      unfold wpOp
      rw[ho]
      refine zZ hT hs hr h1 g1 (fun a' w' jn => ?_)
      have Sy:QC ops (listed.setIfInBounds i true) tl:=by
       obtain⟨q1,q2⟩:=hl.set bH
       refine⟨q1,fun j hj => ?_⟩
       rw[q2 j hj,uJ]
       constructor
       ·exact fun h1 h2=>h1 ⟨by simp[h2],fun e=>QE (e ▸ h2)⟩
       ·rintro h1 ⟨h2,h3⟩
        rcases List.mem_cons.1 h2 with e|h2
        ·exact h3 e
        ·exact h1 h2
      refine ih hints.tail s1 ob2 _ a' w' Fw (fun i hi=>rD i (by simp[hi])) Zi Sy (fun j hj Wo e he het => ?_) (fun r hr dk=>W3 r (List.IsSuffix.trans hr (List.suffix_cons i tl)) dk) jn h2 g2
      by_cases hji:j=i
      ·subst hji;exact u5 e he (by simp[het])
      ·exact zv j hj (by simp[hji,Wo]) e he (by simp[het])
    ·cases bz
   ·cases bz
  ·cases bz
theorem yw(x:HR)(rs:List HR)(s:St):app [] (x::rs) s=app [] rs (hAdd s x.2.1.dst x.2.2):=by
 obtain⟨i,o,res⟩:=x
 simp[app]
theorem Iq.at{n:Nat} : ∀{rs:List HR} {hs:List Hint} {s:St},Iq P T n ops rs hs s→∀pre x post,rs=pre++x::post→∃h,ops[x.1]? = some x.2.1∧JH P T n ops x.2.1 h (app [] pre s)=some x.2.2
 |[],_,_,_,pre,x,post,h=>by cases pre<;>cases h
 |(i,o,res)::rs,hs,s,aH,pre,x,post,h=>by
  obtain⟨h1,h2,h3⟩:=aH
  cases pre with
  |nil =>
   injection h with h _
   subst h
   exact⟨_,h1,h2⟩
  |cons y pre =>
   injection h with h h'
   subst h
   rw[yw]
   exact Iq.at h3 pre x post h'
theorem GP:∀{pre post:List HR},BF (pre++post)→BF pre
 |[],_,_=>trivial
 |(_,o,_)::pre,post,h=>⟨fun d hd x hx=>h.1 d hd x (by simp[hx]),GP h.2⟩
theorem MO{n:Nat}{o:Oper}{h:Hint}{s s':St}{res:XR}(hr:JH P T n ops o h s=some res)(he:∀t∈looks ops o,s'.env.get t=s.env.get t)
  (hs:∀r,(res.rd=some r∨(res.new=none∧res.wr.map (·.1)=some r))→s'.bp.get r=s.bp.get r) (hf:∀d,o.dst=some d→res.new.isSome=true→s.bp.get d=none→s'.bp.get d=none):JH P T n ops o h s'=some res:=by
 have hhU:∀r0,hU P T o h s=some r0→(∀r,(r0.rd=some r∨(r0.new=none∧r0.wr.map (·.1)=some r))→(res.rd=some r∨(res.new=none∧res.wr.map (·.1)=some r)))→hU P T o h s'=hU P T o h s:=fun r0 h0 mQ =>
  QB (fun t ht=>he t (List.mem_append_left _ (List.mem_filterMap.2 ⟨.tmp t,by simpa using ht,rfl⟩))) (fun r hr=>hs r (mQ r (SP h0 hr)))
 have TX:∀r:XR,wz s o.dst r.new=true→(r.new.isSome=true→res.new.isSome=true)→wz s' o.dst r.new=true:=by
  intro r Jt Zj
  cases hx:r.new with
  |none=>rfl
  |some sc =>
   rw[hx] at Jt
   unfold wz at Jt ⊢
   cases hd:o.dst with
   |none=>rw[hd] at Jt;cases Jt
   |some d =>
    rw[hd] at Jt
    simp only at Jt ⊢
    rw[Bool.and_eq_true] at Jt ⊢
    exact⟨by rw[hf d hd (Zj (by rw[hx];rfl)) (by simpa using Jt.1)];rfl,Jt.2⟩
 unfold JH at hr ⊢
 cases hd:ry n o.dst with
 |false=>simp[hd] at hr
 |true =>
  simp only[hd,cond_true] at hr ⊢
  split at hr
  ·rename_i hg
   split at hr
   ·rename_i r hu
    cases Jt:wz s o.dst r.new with
    |false=>simp[Jt] at hr
    |true =>
     simp only[Jt,cond_true] at hr
     injection hr with hr;subst hr
     rw[hhU _ hu (fun _ h=>h),hu]
     simp only[TX r Jt (fun h=>h),cond_true]
   ·cases hr
  ·rename_i j want hg
   split at hr
   ·rename_i t ht
    have Bb:s'.env.get t=s.env.get t:=he t (List.mem_append_right _ (by simp[hg,ht]))
    simp only[Bb]
    split at hr
    ·split at hr
     ·exact hr
     ·split at hr
      ·rename_i r hu
       cases Jt:wz s o.dst r.new with
       |false=>simp[Jt] at hr
       |true =>
        simp only[Jt,cond_true] at hr
        injection hr with hr;subst hr
        rw[hhU _ hu (fun _ h=>h),hu]
        simp only[TX r Jt (fun h=>h),cond_true]
      ·cases hr
    ·exact hr
    ·cases hr
   ·cases hr
def W4:Option Nat→Nat→Bool
 |some x,r=>Nat.beq x r
 |none,_=>false
def GQ(x y:HR):Bool :=
 (match oQ x with
  |some r=>W4 (oQ y) r||W4 y.2.2.rd r
  |none=>false)||(match x.2.2.rd with
  |some r=>W4 (oQ y) r
  |none=>false)
def BL(ms:List Nat):List HR→Bool
 |[]=>true
 |x::rs=>rs.all (fun y => !(GQ x y)||(ms.getD y.1 0).testBit x.1)&&BL ms rs
theorem ER(ms:List Nat):∀(pre post:List HR) (x:HR),BL ms (pre++x::post)=true →
  (∀y∈pre,GQ y x=true→(ms.getD x.1 0).testBit y.1=true)∧(∀y∈post,GQ x y=true→(ms.getD y.1 0).testBit x.1=true)
 |[],post,x,h=>by
  simp only[List.nil_append,BL,Bool.and_eq_true,List.all_eq_true,Bool.or_eq_true,Bool.not_eq_true'] at h
  refine⟨fun y hy=>(by cases hy),fun y hy hc => ?_⟩
  rcases h.1 y hy with h1|h1
  ·rw[hc] at h1;cases h1
  ·exact h1
 |z::pre,post,x,h=>by
  simp only[List.cons_append,BL,Bool.and_eq_true,List.all_eq_true,Bool.or_eq_true,Bool.not_eq_true'] at h
  obtain⟨g1,g2⟩:=ER ms pre post x h.2
  refine⟨fun y hy hc => ?_,g2⟩
  rcases List.mem_cons.1 hy with hy|hy
  ·subst hy
   rcases h.1 x (by simp) with h1|h1
   ·rw[hc] at h1;cases h1
   ·exact h1
  ·exact g1 y hy hc
theorem K7{x y:HR}{r:Nat}(hx:oQ x=some r)(hy:oQ y=some r∨y.2.2.rd=some r):GQ x y=true:=by
 unfold GQ
 rw[hx]
 rcases hy with hy|hy<;>simp[hy,W4]
theorem QG{x y:HR}{r:Nat}(hx:x.2.2.rd=some r)(hy:oQ y=some r):GQ x y=true:=by
 unfold GQ
 rw[hx]
 simp[hy,W4]
end
end Go.Proofs.YtllmkadmohkbfaaGreatDoor.Sym
