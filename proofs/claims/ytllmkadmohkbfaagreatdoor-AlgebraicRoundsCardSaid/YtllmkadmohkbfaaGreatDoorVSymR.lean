/- Lemmas for the statements of this seat. -/
import Derived.Test.YtllmkadmohkbfaaGreatDoorVSymQ
namespace Go.Proofs.YtllmkadmohkbfaaGreatDoor.Sym
open Go Go.RowKit
section
variable {P:Program} {T:kL} {Γ:Ctx} {s s':St} {a:Act} {w:World} {ops:Array Oper} {Q:Exit→Act→World→Prop}
def Bg(P:Program)(T:kL)(n:Nat)(ops:Array Oper):List Nat→List Hint→St→Option (St×List Prop)
 |[],_,s=>some (s,[])
 |i::r,hs,s=>match ops[i]? with
  |some o=>match stepG P T n ops o (hs.headD .none) s with
   |some (s1,Le)=>match Bg P T n ops r hs.tail s1 with
    |some (s2,ob2)=>some (s2,Le++ob2)
    |none=>none
   |none=>none
  |none=>none
theorem L7(hT:nM P T)(hs:∀r,bS Γ.sin r→Γ.n≤r){hd:List Nat}(Dc:∀i,i<ops.size→∀e∈jc ops i,e<ops.size)(hk:∀a' w',Rel Γ s' a' w'→Q .normal a' w')(tl:List Nat) :
  ∀(hints:List Hint) (s:St) (ob:List Prop) (listed:Array Bool) (a:Act) (w:World),tl.Nodup→(∀i∈tl,i<ops.size)→vp (oI ops) hd tl=true →
   L6 ops listed tl→(∀i,i<ops.size→i ∉ tl→∀e∈jc ops i,e ∉ tl)→(∀r:List Nat,r <:+ tl→r≠[]→∃i∈r,∀e∈jc ops i,e ∉ r) →
   Rel Γ s a w→Bg P T Γ.n ops tl hints s=some (s',ob)→dP ob→wpAny P .any ops Q tl.length listed a w:=by
 induction tl with
 |nil =>
  intro hints s ob listed a w _ _ _ hl _ _ hr aI _
  injection aI with aI;injection aI with h1 h2
  subst h1
  refine⟨?_,hk a w hr⟩
  apply List.eq_nil_iff_forall_not_mem.2
  intro i hi
  have ba:i<ops.size:=by
   rw[mem_ready] at hi
   obtain⟨_,o,ho,_⟩:=hi
   exact(Array.getElem?_eq_some_iff.1 ho).1
  have:=(jW hl (Dc i ba)).1 hi
  simp at this
 |cons t tl ih =>
  intro hints s ob listed a w hn lI Yf hl sD Ts hr aI cr
  obtain⟨Tt,KA⟩:=List.nodup_cons.1 hn
  simp only[vp,Bool.and_eq_true,List.all_eq_true] at Yf
  obtain⟨⟨_,Wb⟩,Wc⟩:=Yf
  unfold Bg at aI
  split at aI
  ·rename_i o ho
   split at aI
   ·rename_i s1 Le h1
    split at aI
    ·rename_i s2 ob2 h2
     injection aI with aI;injection aI with e1 e2
     subst e1;subst e2
     obtain⟨g1,g2⟩:=cr.app
     have only:∀i,i∈Region.ready .any ops listed→i=t:=by
      intro i hi
      have ba:i<ops.size:=by
       rw[mem_ready] at hi
       obtain⟨_,o,ho,_⟩:=hi
       exact(Array.getElem?_eq_some_iff.1 ho).1
      obtain⟨_,Lj,oB⟩:=(jW hl (Dc i ba)).1 hi
      rcases List.mem_cons.1 Lj with Q7|Lj
      ·exact Q7
      ·have hm:=vn ops i t (Wb i Lj) (fun x=>x<ops.size∧x ∉ t::tl) (fun x hx e he=>⟨Dc x hx.1 e he,sD x hx.1 hx.2 e he⟩) (fun e he=>⟨Dc i ba e he,oB e he⟩)
       exact absurd (by simp:t∈t::tl) hm.2
     refine⟨fun D5 => ?_,fun i hi => ?_⟩
     ·obtain⟨i,hi,oB⟩:=Ts (t::tl) (List.suffix_refl _) (by simp)
      have:i∈Region.ready .any ops listed:=(jW hl (Dc i (lI i hi))).2 ⟨lI i hi,hi,oB⟩
      rw[D5] at this;cases this
     ·have Q7:=only i hi
      subst Q7
      have ba:=lI i (by simp)
      obtain⟨_,_,oB⟩:=(jW hl (Dc i ba)).1 hi
      unfold wpOp
      rw[ho]
      refine tf hT hs hr h1 g1 (fun a' w' eb => ?_)
      have Ot:L6 ops (listed.setIfInBounds i true) tl:=by
       obtain⟨q1,q2⟩:=hl.set ba
       refine⟨q1,fun j hj => ?_⟩
       rw[q2 j hj,og]
       constructor
       ·exact fun h1 h2=>h1 ⟨by simp[h2],fun e=>Tt (e ▸ h2)⟩
       ·rintro h1 ⟨h2,h3⟩
        rcases List.mem_cons.1 h2 with e|h2
        ·exact h3 e
        ·exact h1 h2
      refine ih hints.tail s1 ob2 _ a' w' KA (fun i hi=>lI i (by simp[hi])) Wc Ot (fun j hj Yg e he het => ?_) (fun r hr di=>Ts r (List.IsSuffix.trans hr (List.suffix_cons i tl)) di) eb h2 g2
      by_cases hji:j=i
      ·subst hji;exact oB e he (by simp[het])
      ·exact sD j hj (by simp[hji,Yg]) e he (by simp[het])
    ·cases aI
   ·cases aI
  ·cases aI
theorem rM(x:HR)(rs:List HR)(s:St):app [] (x::rs) s=app [] rs (hAdd s x.2.1.dst x.2.2):=by
 obtain⟨i,o,res⟩:=x
 simp[app]
theorem CJ.at{n:Nat} : ∀{rs:List HR} {hs:List Hint} {s:St},CJ P T n ops rs hs s→∀pre x post,rs=pre++x::post→∃h,ops[x.1]? = some x.2.1∧Ed P T n ops x.2.1 h (app [] pre s)=some x.2.2
 |[],_,_,_,pre,x,post,h=>by cases pre<;>cases h
 |(i,o,res)::rs,hs,s,aq,pre,x,post,h=>by
  obtain⟨h1,h2,h3⟩:=aq
  cases pre with
  |nil =>
   injection h with h _
   subst h
   exact⟨_,h1,h2⟩
  |cons y pre =>
   injection h with h h'
   subst h
   rw[rM]
   exact CJ.at h3 pre x post h'
theorem Bh:∀{pre post:List HR},vk (pre++post)→vk pre
 |[],_,_=>trivial
 |(_,o,_)::pre,post,h=>⟨fun d hd x hx=>h.1 d hd x (by simp[hx]),Bh h.2⟩
theorem H3{n:Nat}{o:Oper}{h:Hint}{s s':St}{res:XR}(hr:Ed P T n ops o h s=some res)(he:∀t∈looks ops o,s'.env.get t=s.env.get t)
  (hs:∀r,(res.rd=some r∨(res.new=none∧res.wr.map (·.1)=some r))→s'.aG.get r=s.aG.get r) (hf:∀d,o.dst=some d→res.new.isSome=true→s.aG.get d=none→s'.aG.get d=none):Ed P T n ops o h s'=some res:=by
 have Yh:∀r0,hU P T o h s=some r0→(∀r,(r0.rd=some r∨(r0.new=none∧r0.wr.map (·.1)=some r))→(res.rd=some r∨(res.new=none∧res.wr.map (·.1)=some r)))→hU P T o h s'=hU P T o h s:=fun r0 h0 il =>
  L4 (fun t ht=>he t (List.mem_append_left _ (List.mem_filterMap.2 ⟨.tmp t,by simpa using ht,rfl⟩))) (fun r hr=>hs r (il r (OI h0 hr)))
 have PX:∀r:XR,pI s o.dst r.new=true→(r.new.isSome=true→res.new.isSome=true)→pI s' o.dst r.new=true:=by
  intro r D0 We
  cases hx:r.new with
  |none=>rfl
  |some sc =>
   rw[hx] at D0
   unfold pI at D0 ⊢
   cases hd:o.dst with
   |none=>rw[hd] at D0;cases D0
   |some d =>
    rw[hd] at D0
    simp only at D0 ⊢
    rw[Bool.and_eq_true] at D0 ⊢
    exact⟨by rw[hf d hd (We (by rw[hx];rfl)) (by simpa using D0.1)];rfl,D0.2⟩
 unfold Ed at hr ⊢
 cases hd:lu n o.dst with
 |false=>simp[hd] at hr
 |true =>
  simp only[hd,cond_true] at hr ⊢
  split at hr
  ·rename_i hg
   split at hr
   ·rename_i r hu
    cases D0:pI s o.dst r.new with
    |false=>simp[D0] at hr
    |true =>
     simp only[D0,cond_true] at hr
     injection hr with hr;subst hr
     rw[Yh _ hu (fun _ h=>h),hu]
     simp only[PX r D0 (fun h=>h),cond_true]
   ·cases hr
  ·rename_i j want hg
   split at hr
   ·rename_i t ht
    have uG:s'.env.get t=s.env.get t:=he t (List.mem_append_right _ (by simp[hg,ht]))
    simp only[uG]
    split at hr
    ·split at hr
     ·exact hr
     ·split at hr
      ·rename_i r hu
       cases D0:pI s o.dst r.new with
       |false=>simp[D0] at hr
       |true =>
        simp only[D0,cond_true] at hr
        injection hr with hr;subst hr
        rw[Yh _ hu (fun _ h=>h),hu]
        simp only[PX r D0 (fun h=>h),cond_true]
      ·cases hr
    ·exact hr
    ·cases hr
   ·cases hr
def Tu:Option Nat→Nat→Bool
 |some x,r=>Nat.beq x r
 |none,_=>false
def Bi(x y:HR):Bool :=
 (match ju x with
  |some r=>Tu (ju y) r||Tu y.2.2.rd r
  |none=>false)||(match x.2.2.rd with
  |some r=>Tu (ju y) r
  |none=>false)
def vq(ms:List Nat):List HR→Bool
 |[]=>true
 |x::rs=>rs.all (fun y => !(Bi x y)||(ms.getD y.1 0).testBit x.1)&&vq ms rs
theorem yP(ms:List Nat):∀(pre post:List HR) (x:HR),vq ms (pre++x::post)=true →
  (∀y∈pre,Bi y x=true→(ms.getD x.1 0).testBit y.1=true)∧(∀y∈post,Bi x y=true→(ms.getD y.1 0).testBit x.1=true)
 |[],post,x,h=>by
  simp only[List.nil_append,vq,Bool.and_eq_true,List.all_eq_true,Bool.or_eq_true,Bool.not_eq_true'] at h
  refine⟨fun y hy=>(by cases hy),fun y hy hc => ?_⟩
  rcases h.1 y hy with h1|h1
  ·rw[hc] at h1;cases h1
  ·exact h1
 |z::pre,post,x,h=>by
  simp only[List.cons_append,vq,Bool.and_eq_true,List.all_eq_true,Bool.or_eq_true,Bool.not_eq_true'] at h
  obtain⟨g1,g2⟩:=yP ms pre post x h.2
  refine⟨fun y hy hc => ?_,g2⟩
  rcases List.mem_cons.1 hy with hy|hy
  ·subst hy
   rcases h.1 x (by simp) with h1|h1
   ·rw[hc] at h1;cases h1
   ·exact h1
  ·exact g1 y hy hc
theorem FY{x y:HR}{r:Nat}(hx:ju x=some r)(hy:ju y=some r∨y.2.2.rd=some r):Bi x y=true:=by
 unfold Bi
 rw[hx]
 rcases hy with hy|hy<;>simp[hy,Tu]
theorem L8{x y:HR}{r:Nat}(hx:x.2.2.rd=some r)(hy:ju y=some r):Bi x y=true:=by
 unfold Bi
 rw[hx]
 simp[hy,Tu]
end
end Go.Proofs.YtllmkadmohkbfaaGreatDoor.Sym
