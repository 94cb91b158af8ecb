/- Lemmas for the statements of this seat. -/
import Derived.Test.YtnjhplhbmapclaaGreatDoorWSymQ
namespace Go.Proofs.YtnjhplhbmapclaaGreatDoor.Sym
open Go Go.RowKit
section
variable {P:Program} {T:gi} {Γ:Ctx} {s s':St} {a:Act} {w:World} {ops:Array Oper} {Q:Exit→Act→World→Prop}
def tE(P:Program)(T:gi)(n:Nat)(ops:Array Oper):List Nat→List Hint→St→Option (St×List Prop)
 |[],_,s=>some (s,[])
 |i::r,hs,s=>match ops[i]? with
  |some o=>match stepG P T n ops o (hs.headD .none) s with
   |some (s1,Cc)=>match tE P T n ops r hs.tail s1 with
    |some (s2,ob2)=>some (s2,Cc++ob2)
    |none=>none
   |none=>none
  |none=>none
theorem C4(hT:jh P T)(hs:∀r,aT Γ.sin r→Γ.n≤r){hd:List Nat}(vl:∀i,i<ops.size→∀e∈eJ ops i,e<ops.size)(hk:∀a' w',Rel Γ s' a' w'→Q .normal a' w')(tl:List Nat) :
  ∀(hints:List Hint) (s:St) (ob:List Prop) (listed:Array Bool) (a:Act) (w:World),tl.Nodup→(∀i∈tl,i<ops.size)→oG (jY ops) hd tl=true →
   C3 ops listed tl→(∀i,i<ops.size→i ∉ tl→∀e∈eJ ops i,e ∉ tl)→(∀r:List Nat,r <:+ tl→r≠[]→∃i∈r,∀e∈eJ ops i,e ∉ r) →
   Rel Γ s a w→tE P T Γ.n ops tl hints s=some (s',ob)→bV ob→wpAny P .any ops Q tl.length listed a w:=by
 induction tl with
 |nil =>
  intro hints s ob listed a w _ _ _ hl _ _ hr ay _
  injection ay with ay;injection ay with h1 h2
  subst h1
  refine⟨?_,hk a w hr⟩
  apply List.eq_nil_iff_forall_not_mem.2
  intro i hi
  have cS:i<ops.size:=by
   rw[mem_ready] at hi
   obtain⟨_,o,ho,_⟩:=hi
   exact(Array.getElem?_eq_some_iff.1 ho).1
  have:=(fE hl (vl i cS)).1 hi
  simp at this
 |cons t tl ih =>
  intro hints s ob listed a w hn gn ME hl lF I5 hr ay bj
  obtain⟨K5,Ga⟩:=List.nodup_cons.1 hn
  simp only[oG,Bool.and_eq_true,List.all_eq_true] at ME
  obtain⟨⟨_,K6⟩,K7⟩:=ME
  unfold tE at ay
  split at ay
  ·rename_i o ho
   split at ay
   ·rename_i s1 Cc h1
    split at ay
    ·rename_i s2 ob2 h2
     injection ay with ay;injection ay with e1 e2
     subst e1;subst e2
     obtain⟨g1,g2⟩:=bj.app
     have only:∀i,i∈Region.ready .any ops listed→i=t:=by
      intro i hi
      have cS:i<ops.size:=by
       rw[mem_ready] at hi
       obtain⟨_,o,ho,_⟩:=hi
       exact(Array.getElem?_eq_some_iff.1 ho).1
      obtain⟨_,Cf,kp⟩:=(fE hl (vl i cS)).1 hi
      rcases List.mem_cons.1 Cf with G7|Cf
      ·exact G7
      ·have hm:=oE ops i t (K6 i Cf) (fun x=>x<ops.size∧x ∉ t::tl) (fun x hx e he=>⟨vl x hx.1 e he,lF x hx.1 hx.2 e he⟩) (fun e he=>⟨vl i cS e he,kp e he⟩)
       exact absurd (by simp:t∈t::tl) hm.2
     refine⟨fun v7 => ?_,fun i hi => ?_⟩
     ·obtain⟨i,hi,kp⟩:=I5 (t::tl) (List.suffix_refl _) (by simp)
      have:i∈Region.ready .any ops listed:=(fE hl (vl i (gn i hi))).2 ⟨gn i hi,hi,kp⟩
      rw[v7] at this;cases this
     ·have G7:=only i hi
      subst G7
      have cS:=gn i (by simp)
      obtain⟨_,_,kp⟩:=(fE hl (vl i cS)).1 hi
      unfold wpOp
      rw[ho]
      refine mW hT hs hr h1 g1 (fun a' w' bU => ?_)
      have IK:C3 ops (listed.setIfInBounds i true) tl:=by
       obtain⟨q1,q2⟩:=hl.set cS
       refine⟨q1,fun j hj => ?_⟩
       rw[q2 j hj,jJ]
       constructor
       ·exact fun h1 h2=>h1 ⟨by simp[h2],fun e=>K5 (e ▸ h2)⟩
       ·rintro h1 ⟨h2,h3⟩
        rcases List.mem_cons.1 h2 with e|h2
        ·exact h3 e
        ·exact h1 h2
      refine ih hints.tail s1 ob2 _ a' w' Ga (fun i hi=>gn i (by simp[hi])) K7 IK (fun j hj N6 e he het => ?_) (fun r hr fP=>I5 r (List.IsSuffix.trans hr (List.suffix_cons i tl)) fP) bU h2 g2
      by_cases hji:j=i
      ·subst hji;exact kp e he (by simp[het])
      ·exact lF j hj (by simp[hji,N6]) e he (by simp[het])
    ·cases ay
   ·cases ay
  ·cases ay
theorem lV(x:HR)(rs:List HR)(s:St):app [] (x::rs) s=app [] rs (hAdd s x.2.1.dst x.2.2):=by
 obtain⟨i,o,res⟩:=x
 simp[app]
theorem uU.at{n:Nat} : ∀{rs:List HR} {hs:List Hint} {s:St},uU P T n ops rs hs s→∀pre x post,rs=pre++x::post→∃h,ops[x.1]? = some x.2.1∧wh P T n ops x.2.1 h (app [] pre s)=some x.2.2
 |[],_,_,_,pre,x,post,h=>by cases pre<;>cases h
 |(i,o,res)::rs,hs,s,ai,pre,x,post,h=>by
  obtain⟨h1,h2,h3⟩:=ai
  cases pre with
  |nil =>
   injection h with h _
   subst h
   exact⟨_,h1,h2⟩
  |cons y pre =>
   injection h with h h'
   subst h
   rw[lV]
   exact uU.at h3 pre x post h'
theorem tF:∀{pre post:List HR},oA (pre++post)→oA pre
 |[],_,_=>trivial
 |(_,o,_)::pre,post,h=>⟨fun d hd x hx=>h.1 d hd x (by simp[hx]),tF h.2⟩
theorem zw{n:Nat}{o:Oper}{h:Hint}{s s':St}{res:XR}(hr:wh P T n ops o h s=some res)(he:∀t∈looks ops o,s'.env.get t=s.env.get t)
  (hs:∀r,(res.rd=some r∨(res.new=none∧res.wr.map (·.1)=some r))→s'.aw.get r=s.aw.get r) (hf:∀d,o.dst=some d→res.new.isSome=true→s.aw.get d=none→s'.aw.get d=none):wh P T n ops o h s'=some res:=by
 have MF:∀r0,hU P T o h s=some r0→(∀r,(r0.rd=some r∨(r0.new=none∧r0.wr.map (·.1)=some r))→(res.rd=some r∨(res.new=none∧res.wr.map (·.1)=some r)))→hU P T o h s'=hU P T o h s:=fun r0 h0 dy =>
  C2 (fun t ht=>he t (List.mem_append_left _ (List.mem_filterMap.2 ⟨.tmp t,by simpa using ht,rfl⟩))) (fun r hr=>hs r (dy r (E5 h0 hr)))
 have Gb:∀r:XR,kC s o.dst r.new=true→(r.new.isSome=true→res.new.isSome=true)→kC s' o.dst r.new=true:=by
  intro r vQ K8
  cases hx:r.new with
  |none=>rfl
  |some sc =>
   rw[hx] at vQ
   unfold kC at vQ ⊢
   cases hd:o.dst with
   |none=>rw[hd] at vQ;cases vQ
   |some d =>
    rw[hd] at vQ
    simp only at vQ ⊢
    rw[Bool.and_eq_true] at vQ ⊢
    exact⟨by rw[hf d hd (K8 (by rw[hx];rfl)) (by simpa using vQ.1)];rfl,vQ.2⟩
 unfold wh at hr ⊢
 cases hd:gG n o.dst with
 |false=>simp[hd] at hr
 |true =>
  simp only[hd,cond_true] at hr ⊢
  split at hr
  ·rename_i hg
   split at hr
   ·rename_i r hu
    cases vQ:kC s o.dst r.new with
    |false=>simp[vQ] at hr
    |true =>
     simp only[vQ,cond_true] at hr
     injection hr with hr;subst hr
     rw[MF _ hu (fun _ h=>h),hu]
     simp only[Gb r vQ (fun h=>h),cond_true]
   ·cases hr
  ·rename_i j want hg
   split at hr
   ·rename_i t ht
    have nY:s'.env.get t=s.env.get t:=he t (List.mem_append_right _ (by simp[hg,ht]))
    simp only[nY]
    split at hr
    ·split at hr
     ·exact hr
     ·split at hr
      ·rename_i r hu
       cases vQ:kC s o.dst r.new with
       |false=>simp[vQ] at hr
       |true =>
        simp only[vQ,cond_true] at hr
        injection hr with hr;subst hr
        rw[MF _ hu (fun _ h=>h),hu]
        simp only[Gb r vQ (fun h=>h),cond_true]
      ·cases hr
    ·exact hr
    ·cases hr
   ·cases hr
def I6:Option Nat→Nat→Bool
 |some x,r=>Nat.beq x r
 |none,_=>false
def tG(x y:HR):Bool :=
 (match eT x with
  |some r=>I6 (eT y) r||I6 y.2.2.rd r
  |none=>false)||(match x.2.2.rd with
  |some r=>I6 (eT y) r
  |none=>false)
def oH(ms:List Nat):List HR→Bool
 |[]=>true
 |x::rs=>rs.all (fun y => !(tG x y)||(ms.getD y.1 0).testBit x.1)&&oH ms rs
theorem rz(ms:List Nat):∀(pre post:List HR) (x:HR),oH ms (pre++x::post)=true →
  (∀y∈pre,tG y x=true→(ms.getD x.1 0).testBit y.1=true)∧(∀y∈post,tG x y=true→(ms.getD y.1 0).testBit x.1=true)
 |[],post,x,h=>by
  simp only[List.nil_append,oH,Bool.and_eq_true,List.all_eq_true,Bool.or_eq_true,Bool.not_eq_true'] at h
  refine⟨fun y hy=>(by cases hy),fun y hy hc => ?_⟩
  rcases h.1 y hy with h1|h1
  ·rw[hc] at h1;cases h1
  ·exact h1
 |z::pre,post,x,h=>by
  simp only[List.cons_append,oH,Bool.and_eq_true,List.all_eq_true,Bool.or_eq_true,Bool.not_eq_true'] at h
  obtain⟨g1,g2⟩:=rz ms pre post x h.2
  refine⟨fun y hy hc => ?_,g2⟩
  rcases List.mem_cons.1 hy with hy|hy
  ·subst hy
   rcases h.1 x (by simp) with h1|h1
   ·rw[hc] at h1;cases h1
   ·exact h1
  ·exact g1 y hy hc
theorem xS{x y:HR}{r:Nat}(hx:eT x=some r)(hy:eT y=some r∨y.2.2.rd=some r):tG x y=true:=by
 unfold tG
 rw[hx]
 rcases hy with hy|hy<;>simp[hy,I6]
theorem C5{x y:HR}{r:Nat}(hx:x.2.2.rd=some r)(hy:eT y=some r):tG x y=true:=by
 unfold tG
 rw[hx]
 simp[hy,I6]
end
end Go.Proofs.YtnjhplhbmapclaaGreatDoor.Sym
