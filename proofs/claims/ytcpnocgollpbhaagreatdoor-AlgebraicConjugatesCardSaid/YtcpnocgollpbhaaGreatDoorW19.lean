/- Lemmas for the statements of this seat. -/
import Derived.Test.YtcpnocgollpbhaaGreatDoorW18
namespace Go.Proofs.YtcpnocgollpbhaaGreatDoor.Sym
open Go Go.RowKit
section
variable {P:Program} {T:kL} {Γ:Ctx} {s s':St} {a:Act} {w:World} {ops:Array Oper} {Q:Exit→Act→World→Prop}
def BJ(P:Program)(T:kL)(n:Nat)(ops:Array Oper):List Nat→List Hint→St→Option (St×List Prop)
 |[],_,s=>some (s,[])
 |i::r,hs,s=>match ops[i]? with
  |some o=>match stepG P T n ops o (hs.headD .none) s with
   |some (s1,ND)=>match BJ P T n ops r hs.tail s1 with
    |some (s2,ob2)=>some (s2,ND++ob2)
    |none=>none
   |none=>none
  |none=>none
theorem OC(hT:n8 P T)(hs:∀r,bB Γ.sin r→Γ.n≤r){hd:List Nat}(Ei:∀i,i<ops.size→∀e∈jm ops i,e<ops.size)(hk:∀a' w',Rel Γ s' a' w'→Q .normal a' w')(tl:List Nat) :
  ∀(hints:List Hint) (s:St) (ob:List Prop) (listed:Array Bool) (a:Act) (w:World),tl.Nodup→(∀i∈tl,i<ops.size)→vP (o6 ops) hd tl=true →
   OB ops listed tl→(∀i,i<ops.size→i ∉ tl→∀e∈jm ops i,e ∉ tl)→(∀r:List Nat,r <:+ tl→r≠[]→∃i∈r,∀e∈jm ops i,e ∉ r) →
   Rel Γ s a w→BJ P T Γ.n ops tl hints s=some (s',ob)→dK ob→wpAny P .any ops Q tl.length listed a w:=by
 induction tl with
 |nil =>
  intro hints s ob listed a w _ _ _ hl _ _ hr aK _;injection aK with aK;injection aK with h1 h2
  subst h1;refine⟨?_,hk a w hr⟩;apply aj9.2;intro i hi;have bH:i<ops.size:=by rw[mem_ready] at hi;obtain⟨_,o,ho,_⟩:=hi;exact(agY.1 ho).1
  have:=(ke hl (Ei i bH)).1 hi;simp at this
 |cons t tl ih =>
  intro hints s ob listed a w hn lT htk hl rH WT hr aK bT;obtain⟨WU,Ej⟩:=aio.1 hn;simp only[vP,Bool.and_eq_true,List.all_eq_true] at htk;obtain⟨⟨_,ZR⟩,ZS⟩:=htk;unfold BJ at aK;split at aK
  ·rename_i o ho;split at aK
   ·rename_i s1 ND h1;split at aK
    ·rename_i s2 ob2 h2;injection aK with aK;injection aK with e1 e2
     subst e1;subst e2;obtain⟨g1,g2⟩:=bT.app;have only:∀i,i∈Region.ready .any ops listed→i=t:=by
      intro i hi;have bH:i<ops.size:=by rw[mem_ready] at hi;obtain⟨_,o,ho,_⟩:=hi;exact(agY.1 ho).1
      obtain⟨_,NG,oW⟩:=(ke hl (Ei i bH)).1 hi;rcases agp.1 NG with Uh|NG
      ·exact Uh
      ·have hm:=vN ops i t (ZR i NG) (fun x=>x<ops.size∧x ∉ t::tl) (fun x hx e he=>⟨Ei x hx.1 e he,rH x hx.1 hx.2 e he⟩) (fun e he=>⟨Ei i bH e he,oW e he⟩);exact absurd (by simp:t∈t::tl) hm.2
     refine⟨fun Fk => ?_,fun i hi => ?_⟩
     ·obtain⟨i,hi,oW⟩:=WT (t::tl) (List.suffix_refl _) (by simp);have:i∈Region.ready .any ops listed:=(ke hl (Ei i (lT i hi))).2 ⟨lT i hi,hi,oW⟩;rw[Fk] at this;cases this
     ·have Uh:=only i hi;subst Uh;have bH:=lT i (by simp);obtain⟨_,_,oW⟩:=(ke hl (Ei i bH)).1 hi;unfold wpOp;rw[ho];refine tC hT hs hr h1 g1 (fun a' w' dI => ?_);have Mx:OB ops (listed.setIfInBounds i true) tl:=by
       obtain⟨q1,q2⟩:=hl.set bH;refine⟨q1,fun j hj => ?_⟩;rw[q2 j hj,oA];constructor
       ·exact fun h1 h2=>h1 ⟨by simp[h2],fun e=>WU (e ▸ h2)⟩
       ·rintro h1 ⟨h2,h3⟩
        rcases agp.1 h2 with e|h2
        ·exact h3 e
        ·exact h1 h2
      refine ih hints.tail s1 ob2 _ a' w' Ej (fun i hi=>lT i (by simp[hi])) ZS Mx (fun j hj hjt e he het => ?_) (fun r hr et=>WT r (List.IsSuffix.trans hr (List.suffix_cons i tl)) et) dI h2 g2;by_cases hji:j=i
      ·subst hji;exact oW e he (by simp[het])
      ·exact rH j hj (by simp[hji,hjt]) e he (by simp[het])
    ·cases aK
   ·cases aK
  ·cases aK
theorem r8(x:HR)(rs:List HR)(s:St):app [] (x::rs) s=app [] rs (hAdd s x.2.1.dst x.2.2):=by obtain⟨i,o,res⟩:=x;simp[app]
theorem DI.at{n:Nat} : ∀{rs:List HR} {hs:List Hint} {s:St},DI P T n ops rs hs s→∀pre x post,rs=pre++x::post→∃h,ops[x.1]? = some x.2.1∧Fu P T n ops x.2.1 h (app [] pre s)=some x.2.2
 |[],_,_,_,pre,x,post,h=>by cases pre<;>cases h
 |(i,o,res)::rs,hs,s,ar,pre,x,post,h=>by
  obtain⟨h1,h2,h3⟩:=ar;cases pre with
  |nil =>
   injection h with h _
   subst h;exact⟨_,h1,h2⟩
  |cons y pre =>
   injection h with h h'
   subst h;rw[r8];exact DI.at h3 pre x post h'
theorem BK:∀{pre post:List HR},vK (pre++post)→vK pre
 |[],_,_=>trivial
 |(_,o,_)::pre,post,h=>⟨fun d hd x hx=>h.1 d hd x (by simp[hx]),BK h.2⟩
theorem JN{n:Nat}{o:Oper}{h:Hint}{s s':St}{res:XR}(hr:Fu P T n ops o h s=some res)(he:∀t∈looks ops o,s'.env.get t=s.env.get t)
  (hs:∀r,(res.rd=some r∨(res.new=none∧res.wr.map (·.1)=some r))→s'.aG.get r=s.aG.get r) (hf:∀d,o.dst=some d→res.new.isSome=true→s.aG.get d=none→s'.aG.get d=none):Fu P T n ops o h s'=some res:=by
 have hhU:∀r0,hU P T o h s=some r0→(∀r,(r0.rd=some r∨(r0.new=none∧r0.wr.map (·.1)=some r))→(res.rd=some r∨(res.new=none∧res.wr.map (·.1)=some r)))→hU P T o h s'=hU P T o h s:=fun r0 h0 ij =>OA (fun t ht=>he t (aiO _ (List.mem_filterMap.2 ⟨.tmp t,by simpa using ht,rfl⟩))) (fun r hr=>hs r (ij r (Rm h0 hr)))
 have SY:∀r:XR,pV s o.dst r.new=true→(r.new.isSome=true→res.new.isSome=true)→pV s' o.dst r.new=true:=by
  intro r Fc ZT;cases hx:r.new with
  |none=>rfl
  |some sc =>
   rw[hx] at Fc;unfold pV at Fc ⊢;cases hd:o.dst with
   |none=>rw[hd] at Fc;cases Fc
   |some d =>rw[hd] at Fc;simp only at Fc ⊢;rw[afX] at Fc ⊢;exact⟨by rw[hf d hd (ZT (by rw[hx];rfl)) (by simpa using Fc.1)];rfl,Fc.2⟩
 unfold Fu at hr ⊢;cases hd:lK n o.dst with
 |false=>simp[hd] at hr
 |true =>
  simp only[hd,cond_true] at hr ⊢;split at hr
  ·rename_i hg;split at hr
   ·rename_i r hu;cases Fc:pV s o.dst r.new with
    |false=>simp[Fc] at hr
    |true =>
     simp only[Fc,cond_true] at hr;injection hr with hr;subst hr
     rw[hhU _ hu (fun _ h=>h),hu];simp only[SY r Fc (fun h=>h),cond_true]
   ·cases hr
  ·rename_i j want hg;split at hr
   ·rename_i t ht;have oX:s'.env.get t=s.env.get t:=he t (List.mem_append_right _ (by simp[hg,ht]));simp only[oX];split at hr
    ·split at hr
     ·exact hr
     ·split at hr
      ·rename_i r hu;cases Fc:pV s o.dst r.new with
       |false=>simp[Fc] at hr
       |true =>
        simp only[Fc,cond_true] at hr;injection hr with hr;subst hr
        rw[hhU _ hu (fun _ h=>h),hu];simp only[SY r Fc (fun h=>h),cond_true]
      ·cases hr
    ·exact hr
    ·cases hr
   ·cases hr
def WV:Option Nat→Nat→Bool
 |some x,r=>Nat.beq x r
 |none,_=>false
def BL(x y:HR):Bool :=
 (match jF x with
  |some r=>WV (jF y) r||WV y.2.2.rd r
  |none=>false)||(match x.2.2.rd with
  |some r=>WV (jF y) r
  |none=>false)
def vQ(ms:List Nat):List HR→Bool
 |[]=>true
 |x::rs=>rs.all (fun y => !(BL x y)||(ms.getD y.1 0).testBit x.1)&&vQ ms rs
theorem zB(ms:List Nat):∀(pre post:List HR) (x:HR),vQ ms (pre++x::post)=true →
  (∀y∈pre,BL y x=true→(ms.getD x.1 0).testBit y.1=true)∧(∀y∈post,BL x y=true→(ms.getD y.1 0).testBit x.1=true)
 |[],post,x,h=>by
  simp only[List.nil_append,vQ,Bool.and_eq_true,List.all_eq_true,Bool.or_eq_true,Bool.not_eq_true'] at h;refine⟨fun y hy=>(by cases hy),fun y hy hc => ?_⟩;rcases h.1 y hy with h1|h1
  ·rw[hc] at h1;cases h1
  ·exact h1
 |z::pre,post,x,h=>by
  simp only[List.cons_append,vQ,Bool.and_eq_true,List.all_eq_true,Bool.or_eq_true,Bool.not_eq_true'] at h;obtain⟨g1,g2⟩:=zB ms pre post x h.2;refine⟨fun y hy hc => ?_,g2⟩;rcases agp.1 hy with hy|hy
  ·subst hy;rcases h.1 x (by simp) with h1|h1
   ·rw[hc] at h1;cases h1
   ·exact h1
  ·exact g1 y hy hc
theorem HP{x y:HR}{r:Nat}(hx:jF x=some r)(hy:jF y=some r∨y.2.2.rd=some r):BL x y=true:=by unfold BL;rw[hx];rcases hy with hy|hy<;>simp[hy,WV]
theorem OD{x y:HR}{r:Nat}(hx:x.2.2.rd=some r)(hy:jF y=some r):BL x y=true:=by unfold BL;rw[hx];simp[hy,WV]
end
end Go.Proofs.YtcpnocgollpbhaaGreatDoor.Sym
