/- Lemmas for the statements of this seat. -/
import Derived.Test.YtfjfekodeplcoaaGreatWSymQ
namespace Go.Proofs.YtfjfekodeplcoaaGreat.Sym
open Go Go.RowKit
section
variable {P:Program} {T:jZ} {Γ:Ctx} {s s':St} {a:Act} {w:World} {ops:Array Oper} {Q:Exit→Act→World→Prop}
def yb(P:Program)(T:jZ)(n:Nat)(ops:Array Oper):List Nat→List Hint→St→Option (St×List Prop)
 |[],_,s=>some (s,[])
 |i::r,hs,s=>match ops[i]? with
  |some o=>match stepG P T n ops o (hs.headD .none) s with
   |some (s1,GK)=>match yb P T n ops r hs.tail s1 with
    |some (s2,ob2)=>some (s2,GK++ob2)
    |none=>none
   |none=>none
  |none=>none
theorem HB(hT:mN P T)(hs:∀r,bk Γ.sin r→Γ.n≤r){hd:List Nat}(Ah:∀i,i<ops.size→∀e∈iq ops i,e<ops.size)(hk:∀a' w',Rel Γ s' a' w'→Q .normal a' w')(tl:List Nat) :
  ∀(hints:List Hint) (s:St) (ob:List Prop) (bI:Array Bool) (a:Act) (w:World),tl.Nodup→(∀i∈tl,i<ops.size)→tu (nV ops) hd tl=true →
   HA ops bI tl→(∀i,i<ops.size→i ∉ tl→∀e∈iq ops i,e ∉ tl)→(∀r:List Nat,r <:+ tl→r≠[]→∃i∈r,∀e∈iq ops i,e ∉ r) →
   Rel Γ s a w→yb P T Γ.n ops tl hints s=some (s',ob)→dw ob→wpAny P .any ops Q tl.length bI a w:=by
 induction tl with
 |nil =>
  intro hints s ob bI a w _ _ _ hl _ _ hr aP _
  injection aP with aP;injection aP with h1 h2
  subst h1
  refine⟨?_,hk a w hr⟩
  apply List.eq_nil_iff_forall_not_mem.2
  intro i hi
  have cN:i<ops.size:=by
   rw[mem_ready] at hi
   obtain⟨_,o,ho,_⟩:=hi
   exact(Array.getElem?_eq_some_iff.1 ho).1
  have:=(ju hl (Ah i cN)).1 hi
  simp at this
 |cons t tl ih =>
  intro hints s ob bI a w hn jo Sn hl oz N8 hr aP cd
  obtain⟨Dx,zp⟩:=List.nodup_cons.1 hn
  simp only[tu,Bool.and_eq_true,List.all_eq_true] at Sn
  obtain⟨⟨_,Qv⟩,Qw⟩:=Sn
  unfold yb at aP
  split at aP
  ·rename_i o ho
   split at aP
   ·rename_i s1 GK h1
    split at aP
    ·rename_i s2 ob2 h2
     injection aP with aP;injection aP with e1 e2
     subst e1;subst e2
     obtain⟨g1,g2⟩:=cd.app
     have only:∀i,i∈Region.ready .any ops bI→i=t:=by
      intro i hi
      have cN:i<ops.size:=by
       rw[mem_ready] at hi
       obtain⟨_,o,ho,_⟩:=hi
       exact(Array.getElem?_eq_some_iff.1 ho).1
      obtain⟨_,GM,oA⟩:=(ju hl (Ah i cN)).1 hi
      rcases List.mem_cons.1 GM with JZ|GM
      ·exact JZ
      ·have hm:=tq ops i t (Qv i GM) (fun x=>x<ops.size∧x ∉ t::tl) (fun x hx e he=>⟨Ah x hx.1 e he,oz x hx.1 hx.2 e he⟩) (fun e he=>⟨Ah i cN e he,oA e he⟩)
       exact absurd (by simp:t∈t::tl) hm.2
     refine⟨fun AO => ?_,fun i hi => ?_⟩
     ·obtain⟨i,hi,oA⟩:=N8 (t::tl) (List.suffix_refl _) (by simp)
      have:i∈Region.ready .any ops bI:=(ju hl (Ah i (jo i hi))).2 ⟨jo i hi,hi,oA⟩
      rw[AO] at this;cases this
     ·have JZ:=only i hi
      subst JZ
      have cN:=jo i (by simp)
      obtain⟨_,_,oA⟩:=(ju hl (Ah i cN)).1 hi
      unfold wpOp
      rw[ho]
      refine rA hT hs hr h1 g1 (fun a' w' dx => ?_)
      have GD:HA ops (bI.setIfInBounds i true) tl:=by
       obtain⟨q1,q2⟩:=hl.set cN
       refine⟨q1,fun j hj => ?_⟩
       rw[q2 j hj,np]
       constructor
       ·exact fun h1 h2=>h1 ⟨by simp[h2],fun e=>Dx (e ▸ h2)⟩
       ·rintro h1 ⟨h2,h3⟩
        rcases List.mem_cons.1 h2 with e|h2
        ·exact h3 e
        ·exact h1 h2
      refine ih hints.tail s1 ob2 _ a' w' zp (fun i hi=>jo i (by simp[hi])) Qw GD (fun j hj TW e he het => ?_) (fun r hr iN=>N8 r (List.IsSuffix.trans hr (List.suffix_cons i tl)) iN) dx h2 g2
      by_cases Ny:j=i
      ·subst Ny;exact oA e he (by simp[het])
      ·exact oz j hj (by simp[Ny,TW]) e he (by simp[het])
    ·cases aP
   ·cases aP
  ·cases aP
theorem qw(x:HR)(rs:List HR)(s:St):app [] (x::rs) s=app [] rs (hAdd s x.2.1.dst x.2.2):=by
 obtain⟨i,o,res⟩:=x
 simp[app]
theorem zF.at{n:Nat} : ∀{rs:List HR} {hs:List Hint} {s:St},zF P T n ops rs hs s→∀pre x post,rs=pre++x::post→∃h,ops[x.1]? = some x.2.1∧AW P T n ops x.2.1 h (app [] pre s)=some x.2.2
 |[],_,_,_,pre,x,post,h=>by cases pre<;>cases h
 |(i,o,res)::rs,hs,s,ax,pre,x,post,h=>by
  obtain⟨h1,h2,h3⟩:=ax
  cases pre with
  |nil =>
   injection h with h _
   subst h
   exact⟨_,h1,h2⟩
  |cons y pre =>
   injection h with h h'
   subst h
   rw[qw]
   exact zF.at h3 pre x post h'
theorem yc:∀{pre post:List HR},tk (pre++post)→tk pre
 |[],_,_=>trivial
 |(_,o,_)::pre,post,h=>⟨fun d hd x hx=>h.1 d hd x (by simp[hx]),yc h.2⟩
theorem Ec{n:Nat}{o:Oper}{h:Hint}{s s':St}{res:XR}(hr:AW P T n ops o h s=some res)(he:∀t∈looks ops o,s'.env.get t=s.env.get t)
  (hs:∀r,(res.rd=some r∨(res.new=none∧res.wr.map (·.1)=some r))→s'.sto.get r=s.sto.get r) (hf:∀d,o.dst=some d→res.new.isSome=true→s.sto.get d=none→s'.sto.get d=none):AW P T n ops o h s'=some res:=by
 have Sp:∀r0,hU P T o h s=some r0→(∀r,(r0.rd=some r∨(r0.new=none∧r0.wr.map (·.1)=some r))→(res.rd=some r∨(res.new=none∧res.wr.map (·.1)=some r)))→hU P T o h s'=hU P T o h s:=fun r0 h0 gF =>
  Hz (fun t ht=>he t (List.mem_append_left _ (List.mem_filterMap.2 ⟨.tmp t,by simpa using ht,rfl⟩))) (fun r hr=>hs r (gF r (JX h0 hr)))
 have K3:∀r:XR,oI s o.dst r.new=true→(r.new.isSome=true→res.new.isSome=true)→oI s' o.dst r.new=true:=by
  intro r zT Qx
  cases hx:r.new with
  |none=>rfl
  |some sc =>
   rw[hx] at zT
   unfold oI at zT ⊢
   cases hd:o.dst with
   |none=>rw[hd] at zT;cases zT
   |some d =>
    rw[hd] at zT
    simp only at zT ⊢
    rw[Bool.and_eq_true] at zT ⊢
    exact⟨by rw[hf d hd (Qx (by rw[hx];rfl)) (by simpa using zT.1)];rfl,zT.2⟩
 unfold AW at hr ⊢
 cases hd:jH n o.dst with
 |false=>simp[hd] at hr
 |true =>
  simp only[hd,cond_true] at hr ⊢
  split at hr
  ·rename_i hg
   split at hr
   ·rename_i r hu
    cases zT:oI s o.dst r.new with
    |false=>simp[zT] at hr
    |true =>
     simp only[zT,cond_true] at hr
     injection hr with hr;subst hr
     rw[Sp _ hu (fun _ h=>h),hu]
     simp only[K3 r zT (fun h=>h),cond_true]
   ·cases hr
  ·rename_i j want hg
   split at hr
   ·rename_i t ht
    have lZ:s'.env.get t=s.env.get t:=he t (List.mem_append_right _ (by simp[hg,ht]))
    simp only[lZ]
    split at hr
    ·split at hr
     ·exact hr
     ·split at hr
      ·rename_i r hu
       cases zT:oI s o.dst r.new with
       |false=>simp[zT] at hr
       |true =>
        simp only[zT,cond_true] at hr
        injection hr with hr;subst hr
        rw[Sp _ hu (fun _ h=>h),hu]
        simp only[K3 r zT (fun h=>h),cond_true]
      ·cases hr
    ·exact hr
    ·cases hr
   ·cases hr
def N9:Option Nat→Nat→Bool
 |some x,r=>Nat.beq x r
 |none,_=>false
def yd(x y:HR):Bool :=
 (match iF x with
  |some r=>N9 (iF y) r||N9 y.2.2.rd r
  |none=>false)||(match x.2.2.rd with
  |some r=>N9 (iF y) r
  |none=>false)
def tv(ms:List Nat):List HR→Bool
 |[]=>true
 |x::rs=>rs.all (fun y => !(yd x y)||(ms.getD y.1 0).testBit x.1)&&tv ms rs
theorem vZ(ms:List Nat):∀(pre post:List HR) (x:HR),tv ms (pre++x::post)=true →
  (∀y∈pre,yd y x=true→(ms.getD x.1 0).testBit y.1=true)∧(∀y∈post,yd x y=true→(ms.getD y.1 0).testBit x.1=true)
 |[],post,x,h=>by
  simp only[List.nil_append,tv,Bool.and_eq_true,List.all_eq_true,Bool.or_eq_true,Bool.not_eq_true'] at h
  refine⟨fun y hy=>(by cases hy),fun y hy hc => ?_⟩
  rcases h.1 y hy with h1|h1
  ·rw[hc] at h1;cases h1
  ·exact h1
 |z::pre,post,x,h=>by
  simp only[List.cons_append,tv,Bool.and_eq_true,List.all_eq_true,Bool.or_eq_true,Bool.not_eq_true'] at h
  obtain⟨g1,g2⟩:=vZ ms pre post x h.2
  refine⟨fun y hy hc => ?_,g2⟩
  rcases List.mem_cons.1 hy with hy|hy
  ·subst hy
   rcases h.1 x (by simp) with h1|h1
   ·rw[hc] at h1;cases h1
   ·exact h1
  ·exact g1 y hy hc
theorem CD{x y:HR}{r:Nat}(hx:iF x=some r)(hy:iF y=some r∨y.2.2.rd=some r):yd x y=true:=by
 unfold yd
 rw[hx]
 rcases hy with hy|hy<;>simp[hy,N9]
theorem HC{x y:HR}{r:Nat}(hx:x.2.2.rd=some r)(hy:iF y=some r):yd x y=true:=by
 unfold yd
 rw[hx]
 simp[hy,N9]
end
end Go.Proofs.YtfjfekodeplcoaaGreat.Sym
