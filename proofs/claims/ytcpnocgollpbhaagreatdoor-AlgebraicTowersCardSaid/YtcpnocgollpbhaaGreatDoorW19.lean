/- Lemmas for the statements of this seat. -/
import Derived.Test.YtcpnocgollpbhaaGreatDoorW18
namespace Go.Proofs.YtcpnocgollpbhaaGreatDoor.Sym
open Go Go.RowKit
section
variable {P:Program} {T:lh} {Γ:Ctx} {s s':St} {a:Act} {w:World} {ops:Array Oper} {Q:Exit→Act→World→Prop}
def CY(P:Program)(T:lh)(n:Nat)(ops:Array Oper):List Nat→List Hint→St→Option (St×List Prop)
 |[],_,s=>some (s,[])
 |i::r,hs,s=>match ops[i]? with
  |some o=>match stepG P T n ops o (hs.headD .none) s with
   |some (s1,Od)=>match CY P T n ops r hs.tail s1 with
    |some (s2,ob2)=>some (s2,Od++ob2)
    |none=>none
   |none=>none
  |none=>none
theorem Pa(hT:oE P T)(hs:∀r,bK Γ.sin r→Γ.n≤r){hd:List Nat}(Fe:∀i,i<ops.size→∀e∈jE ops i,e<ops.size)(hk:∀a' w',Rel Γ s' a' w'→Q .normal a' w')(tl:List Nat) :
  ∀(hints:List Hint) (s:St) (ob:List Prop) (listed:Array Bool) (a:Act) (w:World),tl.Nodup→(∀i∈tl,i<ops.size)→w7 (pJ ops) hd tl=true →
   O9 ops listed tl→(∀i,i<ops.size→i ∉ tl→∀e∈jE ops i,e ∉ tl)→(∀r:List Nat,r <:+ tl→r≠[]→∃i∈r,∀e∈jE ops i,e ∉ r) →
   Rel Γ s a w→CY P T Γ.n ops tl hints s=some (s',ob)→dX ob→wpAny P .any ops Q tl.length listed a w:=by
 induction tl with
 |nil =>
  intro hints s ob listed a w _ _ _ hl _ _ hr aO _;injection aO with aO;injection aO with h1 h2
  subst h1;refine⟨?_,hk a w hr⟩;apply aiJ.2;intro i hi;have dI:i<ops.size:=by rw[mem_ready] at hi;obtain⟨_,o,ho,_⟩:=hi;exact(agC.1 ho).1
  have:=(kD hl (Fe i dI)).1 hi;simp at this
 |cons t tl ih =>
  intro hints s ob listed a w hn mg htk hl sF Xf hr aO cv;obtain⟨Xg,Oe⟩:=ai0.1 hn;simp only[w7,Bool.and_eq_true,List.all_eq_true] at htk;obtain⟨⟨_,ZS⟩,ZT⟩:=htk;unfold CY at aO;split at aO
  ·rename_i o ho;split at aO
   ·rename_i s1 Od h1;split at aO
    ·rename_i s2 ob2 h2;injection aO with aO;injection aO with e1 e2
     subst e1;subst e2;obtain⟨g1,g2⟩:=cv.app;have only:∀i,i∈Region.ready .any ops listed→i=t:=by
      intro i hi;have dI:i<ops.size:=by rw[mem_ready] at hi;obtain⟨_,o,ho,_⟩:=hi;exact(agC.1 ho).1
      obtain⟨_,Og,pE⟩:=(kD hl (Fe i dI)).1 hi;rcases afY.1 Og with UN|Og
      ·exact UN
      ·have hm:=w5 ops i t (ZS i Og) (fun x=>x<ops.size∧x ∉ t::tl) (fun x hx e he=>⟨Fe x hx.1 e he,sF x hx.1 hx.2 e he⟩) (fun e he=>⟨Fe i dI e he,pE e he⟩);exact absurd (by simp:t∈t::tl) hm.2
     refine⟨fun Gf => ?_,fun i hi => ?_⟩
     ·obtain⟨i,hi,pE⟩:=Xf (t::tl) (List.suffix_refl _) (by simp);have:i∈Region.ready .any ops listed:=(kD hl (Fe i (mg i hi))).2 ⟨mg i hi,hi,pE⟩;rw[Gf] at this;cases this
     ·have UN:=only i hi;subst UN;have dI:=mg i (by simp);obtain⟨_,_,pE⟩:=(kD hl (Fe i dI)).1 hi;unfold wpOp;rw[ho];refine uu hT hs hr h1 g1 (fun a' w' dS => ?_);have Gh:O9 ops (listed.setIfInBounds i true) tl:=by
       obtain⟨q1,q2⟩:=hl.set dI;refine⟨q1,fun j hj => ?_⟩;rw[q2 j hj,o6];constructor
       ·exact fun h1 h2=>h1 ⟨by simp[h2],fun e=>Xg (e ▸ h2)⟩
       ·rintro h1 ⟨h2,h3⟩
        rcases afY.1 h2 with e|h2
        ·exact h3 e
        ·exact h1 h2
      refine ih hints.tail s1 ob2 _ a' w' Oe (fun i hi=>mg i (by simp[hi])) ZT Gh (fun j hj ZU e he het => ?_) (fun r hr fT=>Xf r (List.IsSuffix.trans hr (List.suffix_cons i tl)) fT) dS h2 g2;by_cases hji:j=i
      ·subst hji;exact pE e he (by simp[het])
      ·exact sF j hj (by simp[hji,ZU]) e he (by simp[het])
    ·cases aO
   ·cases aO
  ·cases aO
theorem sW(x:HR)(rs:List HR)(s:St):app [] (x::rs) s=app [] rs (hAdd s x.2.1.dst x.2.2):=by obtain⟨i,o,res⟩:=x;simp[app]
theorem EH.at{n:Nat} : ∀{rs:List HR} {hs:List Hint} {s:St},EH P T n ops rs hs s→∀pre x post,rs=pre++x::post→∃h,ops[x.1]? = some x.2.1∧Gp P T n ops x.2.1 h (app [] pre s)=some x.2.2
 |[],_,_,_,pre,x,post,h=>by cases pre<;>cases h
 |(i,o,res)::rs,hs,s,aw,pre,x,post,h=>by
  obtain⟨h1,h2,h3⟩:=aw;cases pre with
  |nil =>
   injection h with h _
   subst h;exact⟨_,h1,h2⟩
  |cons y pre =>
   injection h with h h'
   subst h;rw[sW];exact EH.at h3 pre x post h'
theorem CZ:∀{pre post:List HR},wX (pre++post)→wX pre
 |[],_,_=>trivial
 |(_,o,_)::pre,post,h=>⟨fun d hd x hx=>h.1 d hd x (by simp[hx]),CZ h.2⟩
theorem Kw{n:Nat}{o:Oper}{h:Hint}{s s':St}{res:XR}(hr:Gp P T n ops o h s=some res)(he:∀t∈looks ops o,s'.env.get t=s.env.get t)
  (hs:∀r,(res.rd=some r∨(res.new=none∧res.wr.map (·.1)=some r))→s'.aK.get r=s.aK.get r) (hf:∀d,o.dst=some d→res.new.isSome=true→s.aK.get d=none→s'.aK.get d=none):Gp P T n ops o h s'=some res:=by
 have hhU:∀r0,hU P T o h s=some r0→(∀r,(r0.rd=some r∨(r0.new=none∧r0.wr.map (·.1)=some r))→(res.rd=some r∨(res.new=none∧res.wr.map (·.1)=some r)))→hU P T o h s'=hU P T o h s:=fun r0 h0 gW =>O8 (fun t ht=>he t (aio _ (List.mem_filterMap.2 ⟨.tmp t,by simpa using ht,rfl⟩))) (fun r hr=>hs r (gW r (RX h0 hr)))
 have Tt:∀r:XR,qP s o.dst r.new=true→(r.new.isSome=true→res.new.isSome=true)→qP s' o.dst r.new=true:=by
  intro r F8 ZV;cases hx:r.new with
  |none=>rfl
  |some sc =>
   rw[hx] at F8;unfold qP at F8 ⊢;cases hd:o.dst with
   |none=>rw[hd] at F8;cases F8
   |some d =>rw[hd] at F8;simp only at F8 ⊢;rw[afA] at F8 ⊢;exact⟨by rw[hf d hd (ZV (by rw[hx];rfl)) (by simpa using F8.1)];rfl,F8.2⟩
 unfold Gp at hr ⊢;cases hd:l7 n o.dst with
 |false=>simp[hd] at hr
 |true =>
  simp only[hd,cond_true] at hr ⊢;split at hr
  ·rename_i hg;split at hr
   ·rename_i r hu;cases F8:qP s o.dst r.new with
    |false=>simp[F8] at hr
    |true =>
     simp only[F8,cond_true] at hr;injection hr with hr;subst hr
     rw[hhU _ hu (fun _ h=>h),hu];simp only[Tt r F8 (fun h=>h),cond_true]
   ·cases hr
  ·rename_i j want hg;split at hr
   ·rename_i t ht;have mr:s'.env.get t=s.env.get t:=he t (List.mem_append_right _ (by simp[hg,ht]));simp only[mr];split at hr
    ·split at hr
     ·exact hr
     ·split at hr
      ·rename_i r hu;cases F8:qP s o.dst r.new with
       |false=>simp[F8] at hr
       |true =>
        simp only[F8,cond_true] at hr;injection hr with hr;subst hr
        rw[hhU _ hu (fun _ h=>h),hu];simp only[Tt r F8 (fun h=>h),cond_true]
      ·cases hr
    ·exact hr
    ·cases hr
   ·cases hr
def Xh:Option Nat→Nat→Bool
 |some x,r=>Nat.beq x r
 |none,_=>false
def C5(x y:HR):Bool :=
 (match jW x with
  |some r=>Xh (jW y) r||Xh y.2.2.rd r
  |none=>false)||(match x.2.2.rd with
  |some r=>Xh (jW y) r
  |none=>false)
def w8(ms:List Nat):List HR→Bool
 |[]=>true
 |x::rs=>rs.all (fun y => !(C5 x y)||(ms.getD y.1 0).testBit x.1)&&w8 ms rs
theorem AR(ms:List Nat):∀(pre post:List HR) (x:HR),w8 ms (pre++x::post)=true →
  (∀y∈pre,C5 y x=true→(ms.getD x.1 0).testBit y.1=true)∧(∀y∈post,C5 x y=true→(ms.getD y.1 0).testBit x.1=true)
 |[],post,x,h=>by
  simp only[List.nil_append,w8,Bool.and_eq_true,List.all_eq_true,Bool.or_eq_true,Bool.not_eq_true'] at h;refine⟨fun y hy=>(by cases hy),fun y hy hc => ?_⟩;rcases h.1 y hy with h1|h1
  ·rw[hc] at h1;cases h1
  ·exact h1
 |z::pre,post,x,h=>by
  simp only[List.cons_append,w8,Bool.and_eq_true,List.all_eq_true,Bool.or_eq_true,Bool.not_eq_true'] at h;obtain⟨g1,g2⟩:=AR ms pre post x h.2;refine⟨fun y hy hc => ?_,g2⟩;rcases afY.1 hy with hy|hy
  ·subst hy;rcases h.1 x (by simp) with h1|h1
   ·rw[hc] at h1;cases h1
   ·exact h1
  ·exact g1 y hy hc
theorem Iy{x y:HR}{r:Nat}(hx:jW x=some r)(hy:jW y=some r∨y.2.2.rd=some r):C5 x y=true:=by unfold C5;rw[hx];rcases hy with hy|hy<;>simp[hy,Xh]
theorem Pb{x y:HR}{r:Nat}(hx:x.2.2.rd=some r)(hy:jW y=some r):C5 x y=true:=by unfold C5;rw[hx];simp[hy,Xh]
end
end Go.Proofs.YtcpnocgollpbhaaGreatDoor.Sym
