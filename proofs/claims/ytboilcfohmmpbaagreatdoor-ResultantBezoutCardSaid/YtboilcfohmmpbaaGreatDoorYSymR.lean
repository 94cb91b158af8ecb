/- Bezout and Accepts of the program answer as the reference does. -/
import Derived.Test.YtboilcfohmmpbaaGreatDoorYSymQ
namespace Go.Proofs.YtboilcfohmmpbaaGreatDoor.Sym
open Go Go.RowKit
section
variable {P:Program} {T:Tab} {Γ:Ctx} {s s':St} {a:Act} {w:World} {ops:Array Oper} {Q:Exit→Act→World→Prop}
def stepsI(P:Program)(T:Tab)(n:Nat)(ops:Array Oper):List Nat→List Hint→St→Option (St×List Prop)
 |[],_,s=>some (s,[])
 |i::r,hs,s=>match ops[i]? with
  |some o=>match stepG P T n ops o (hs.headD .none) s with
   |some (s1,ob1)=>match stepsI P T n ops r hs.tail s1 with
    |some (s2,ob2)=>some (s2,ob1++ob2)
    |none=>none
   |none=>none
  |none=>none
theorem tail_any(hT:TOk P T)(hs:∀r,dom Γ.sin r→Γ.n≤r){hd:List Nat}(hfw:∀i,i<ops.size→∀e∈dirOf ops i,e<ops.size)(hk:∀a' w',Rel Γ s' a' w'→Q .normal a' w')(tl:List Nat) :
  ∀(hints:List Hint) (s:St) (ob:List Prop) (listed:Array Bool) (a:Act) (w:World),tl.Nodup→(∀i∈tl,i<ops.size)→tailOk (masks ops) hd tl=true →
   Lst ops listed tl→(∀i,i<ops.size→i ∉ tl→∀e∈dirOf ops i,e ∉ tl)→(∀r:List Nat,r <:+ tl→r≠[]→∃i∈r,∀e∈dirOf ops i,e ∉ r) →
   Rel Γ s a w→stepsI P T Γ.n ops tl hints s=some (s',ob)→Alls ob→wpAny P .any ops Q tl.length listed a w:=by
 induction tl with
 |nil =>
  intro hints s ob listed a w _ _ _ hl _ _ hr hst _
  injection hst with hst;injection hst with h1 h2
  subst h1
  refine⟨?_,hk a w hr⟩
  apply List.eq_nil_iff_forall_not_mem.2
  intro i hi
  have hlt:i<ops.size:=by
   rw[mem_ready] at hi
   obtain⟨_,o,ho,_⟩:=hi
   exact(Array.getElem?_eq_some_iff.1 ho).1
  have:=(ready_iff hl (hfw i hlt)).1 hi
  simp at this
 |cons t tl ih =>
  intro hints s ob listed a w hn hsz htk hl hcl fwdT hr hst hob
  obtain⟨hn1,hn2⟩:=List.nodup_cons.1 hn
  simp only[tailOk,Bool.and_eq_true,List.all_eq_true] at htk
  obtain⟨⟨_,htk2⟩,htk3⟩:=htk
  unfold stepsI at hst
  split at hst
  ·rename_i o ho
   split at hst
   ·rename_i s1 ob1 h1
    split at hst
    ·rename_i s2 ob2 h2
     injection hst with hst;injection hst with e1 e2
     subst e1;subst e2
     obtain⟨g1,g2⟩:=hob.app
     have only:∀i,i∈Region.ready .any ops listed→i=t:=by
      intro i hi
      have hlt:i<ops.size:=by
       rw[mem_ready] at hi
       obtain⟨_,o,ho,_⟩:=hi
       exact(Array.getElem?_eq_some_iff.1 ho).1
      obtain⟨_,hiU,hde⟩:=(ready_iff hl (hfw i hlt)).1 hi
      rcases List.mem_cons.1 hiU with hit|hiU
      ·exact hit
      ·have hm:=masks_spec ops i t (htk2 i hiU) (fun x=>x<ops.size∧x ∉ t::tl) (fun x hx e he=>⟨hfw x hx.1 e he,hcl x hx.1 hx.2 e he⟩) (fun e he=>⟨hfw i hlt e he,hde e he⟩)
       exact absurd (by simp:t∈t::tl) hm.2
     refine⟨fun hnil => ?_,fun i hi => ?_⟩
     ·obtain⟨i,hi,hde⟩:=fwdT (t::tl) (List.suffix_refl _) (by simp)
      have:i∈Region.ready .any ops listed:=(ready_iff hl (hfw i (hsz i hi))).2 ⟨hsz i hi,hi,hde⟩
      rw[hnil] at this;cases this
     ·have hit:=only i hi
      subst hit
      have hlt:=hsz i (by simp)
      obtain⟨_,_,hde⟩:=(ready_iff hl (hfw i hlt)).1 hi
      unfold wpOp
      rw[ho]
      refine stepG_sound hT hs hr h1 g1 (fun a' w' hr' => ?_)
      have hl':Lst ops (listed.setIfInBounds i true) tl:=by
       obtain⟨q1,q2⟩:=hl.set hlt
       refine⟨q1,fun j hj => ?_⟩
       rw[q2 j hj,mem_ErU]
       constructor
       ·exact fun h1 h2=>h1 ⟨by simp[h2],fun e=>hn1 (e ▸ h2)⟩
       ·rintro h1 ⟨h2,h3⟩
        rcases List.mem_cons.1 h2 with e|h2
        ·exact h3 e
        ·exact h1 h2
      refine ih hints.tail s1 ob2 _ a' w' hn2 (fun i hi=>hsz i (by simp[hi])) htk3 hl' (fun j hj hjt e he het => ?_) (fun r hr hne=>fwdT r (List.IsSuffix.trans hr (List.suffix_cons i tl)) hne) hr' h2 g2
      by_cases hji:j=i
      ·subst hji;exact hde e he (by simp[het])
      ·exact hcl j hj (by simp[hji,hjt]) e he (by simp[het])
    ·cases hst
   ·cases hst
  ·cases hst
theorem app_nil_cons(x:HR)(rs:List HR)(s:St):app [] (x::rs) s=app [] rs (hAdd s x.2.1.dst x.2.2):=by
 obtain⟨i,o,res⟩:=x
 simp[app]
theorem HRun.at{n:Nat} : ∀{rs:List HR} {hs:List Hint} {s:St},HRun P T n ops rs hs s→∀pre x post,rs=pre++x::post→∃h,ops[x.1]? = some x.2.1∧hRes P T n ops x.2.1 h (app [] pre s)=some x.2.2
 |[],_,_,_,pre,x,post,h=>by cases pre<;>cases h
 |(i,o,res)::rs,hs,s,hrun,pre,x,post,h=>by
  obtain⟨h1,h2,h3⟩:=hrun
  cases pre with
  |nil =>
   injection h with h _
   subst h
   exact⟨_,h1,h2⟩
  |cons y pre =>
   injection h with h h'
   subst h
   rw[app_nil_cons]
   exact HRun.at h3 pre x post h'
theorem dstsOk_app:∀{pre post:List HR},dstsOk (pre++post)→dstsOk pre
 |[],_,_=>trivial
 |(_,o,_)::pre,post,h=>⟨fun d hd x hx=>h.1 d hd x (by simp[hx]),dstsOk_app h.2⟩
theorem hRes_congr{n:Nat}{o:Oper}{h:Hint}{s s':St}{res:XR}(hr:hRes P T n ops o h s=some res)(he:∀t∈looks ops o,s'.env.get t=s.env.get t)
  (hs:∀r,(res.rd=some r∨(res.new=none∧res.wr.map (·.1)=some r))→s'.sto.get r=s.sto.get r) (hf:∀d,o.dst=some d→res.new.isSome=true→s.sto.get d=none→s'.sto.get d=none):hRes P T n ops o h s'=some res:=by
 have hhU:∀r0,hU P T o h s=some r0→(∀r,(r0.rd=some r∨(r0.new=none∧r0.wr.map (·.1)=some r))→(res.rd=some r∨(res.new=none∧res.wr.map (·.1)=some r)))→hU P T o h s'=hU P T o h s:=fun r0 h0 hsame =>
  hU_congr (fun t ht=>he t (List.mem_append_left _ (List.mem_filterMap.2 ⟨.tmp t,by simpa using ht,rfl⟩))) (fun r hr=>hs r (hsame r (hU_site h0 hr)))
 have hfree:∀r:XR,freeD s o.dst r.new=true→(r.new.isSome=true→res.new.isSome=true)→freeD s' o.dst r.new=true:=by
  intro r hf' hnn
  cases hx:r.new with
  |none=>rfl
  |some sc =>
   rw[hx] at hf'
   unfold freeD at hf' ⊢
   cases hd:o.dst with
   |none=>rw[hd] at hf';cases hf'
   |some d =>
    rw[hd] at hf'
    simp only at hf' ⊢
    rw[Bool.and_eq_true] at hf' ⊢
    exact⟨by rw[hf d hd (hnn (by rw[hx];rfl)) (by simpa using hf'.1)];rfl,hf'.2⟩
 unfold hRes at hr ⊢
 cases hd:dstOk n o.dst with
 |false=>simp[hd] at hr
 |true =>
  simp only[hd,cond_true] at hr ⊢
  split at hr
  ·rename_i hg
   split at hr
   ·rename_i r hu
    cases hf':freeD s o.dst r.new with
    |false=>simp[hf'] at hr
    |true =>
     simp only[hf',cond_true] at hr
     injection hr with hr;subst hr
     rw[hhU _ hu (fun _ h=>h),hu]
     simp only[hfree r hf' (fun h=>h),cond_true]
   ·cases hr
  ·rename_i j want hg
   split at hr
   ·rename_i t ht
    have hget:s'.env.get t=s.env.get t:=he t (List.mem_append_right _ (by simp[hg,ht]))
    simp only[hget]
    split at hr
    ·split at hr
     ·exact hr
     ·split at hr
      ·rename_i r hu
       cases hf':freeD s o.dst r.new with
       |false=>simp[hf'] at hr
       |true =>
        simp only[hf',cond_true] at hr
        injection hr with hr;subst hr
        rw[hhU _ hu (fun _ h=>h),hu]
        simp only[hfree r hf' (fun h=>h),cond_true]
      ·cases hr
    ·exact hr
    ·cases hr
   ·cases hr
def eqO:Option Nat→Nat→Bool
 |some x,r=>Nat.beq x r
 |none,_=>false
def clash(x y:HR):Bool :=
 (match wsite x with
  |some r=>eqO (wsite y) r||eqO y.2.2.rd r
  |none=>false)||(match x.2.2.rd with
  |some r=>eqO (wsite y) r
  |none=>false)
def indepB(ms:List Nat):List HR→Bool
 |[]=>true
 |x::rs=>rs.all (fun y => !(clash x y)||(ms.getD y.1 0).testBit x.1)&&indepB ms rs
theorem indepB_spec(ms:List Nat):∀(pre post:List HR) (x:HR),indepB ms (pre++x::post)=true →
  (∀y∈pre,clash y x=true→(ms.getD x.1 0).testBit y.1=true)∧(∀y∈post,clash x y=true→(ms.getD y.1 0).testBit x.1=true)
 |[],post,x,h=>by
  simp only[List.nil_append,indepB,Bool.and_eq_true,List.all_eq_true,Bool.or_eq_true,Bool.not_eq_true'] at h
  refine⟨fun y hy=>(by cases hy),fun y hy hc => ?_⟩
  rcases h.1 y hy with h1|h1
  ·rw[hc] at h1;cases h1
  ·exact h1
 |z::pre,post,x,h=>by
  simp only[List.cons_append,indepB,Bool.and_eq_true,List.all_eq_true,Bool.or_eq_true,Bool.not_eq_true'] at h
  obtain⟨g1,g2⟩:=indepB_spec ms pre post x h.2
  refine⟨fun y hy hc => ?_,g2⟩
  rcases List.mem_cons.1 hy with hy|hy
  ·subst hy
   rcases h.1 x (by simp) with h1|h1
   ·rw[hc] at h1;cases h1
   ·exact h1
  ·exact g1 y hy hc
theorem clash_wr{x y:HR}{r:Nat}(hx:wsite x=some r)(hy:wsite y=some r∨y.2.2.rd=some r):clash x y=true:=by
 unfold clash
 rw[hx]
 rcases hy with hy|hy<;>simp[hy,eqO]
theorem clash_rd{x y:HR}{r:Nat}(hx:x.2.2.rd=some r)(hy:wsite y=some r):clash x y=true:=by
 unfold clash
 rw[hx]
 simp[hy,eqO]
end
end Go.Proofs.YtboilcfohmmpbaaGreatDoor.Sym
