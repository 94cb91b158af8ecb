/- Lemmas for the statements of this seat. -/
import Derived.Test.YtllmkadmohkbfaaGreatDoorVSymP
namespace Go.Proofs.YtllmkadmohkbfaaGreatDoor.Sym
open Go Go.RowKit
def OJ(o:Oper):List Nat:=(o.after.toList.filter (Region.binds .any)).map (·.on)
def jc(ops:Array Oper)(i:Nat):List Nat:=match ops[i]? with
 |some o=>OJ o
 |none=>[]
def H0(oI:List Nat):List Nat→Nat→Nat
 |[],m=>m
 |d::ds,m=>H0 oI ds (m ||| 2^d ||| oI.getD d 0)
def Ee:List Oper→List Nat→List Nat
 |[],acc=>acc
 |o::r,acc=>Ee r (acc++[H0 acc (OJ o) 0])
def oI(ops:Array Oper):List Nat:=Ee ops.toList []
theorem yO(ms:List Nat)(j:Nat):∀(ds:List Nat) (m:Nat),(H0 ms ds m).testBit j=true→m.testBit j=true∨∃d∈ds,j=d∨(ms.getD d 0).testBit j=true
 |[],m,h => .inl h
 |d::ds,m,h=>by
  rcases yO ms j ds _ h with h|⟨d',h1,h2⟩
  ·rw[Nat.testBit_or,Nat.testBit_or,Bool.or_eq_true,Bool.or_eq_true] at h
   rcases h with (h|h)|h
   ·exact .inl h
   ·rw[Nat.testBit_two_pow] at h
    simp at h
    exact .inr ⟨d,by simp,.inl h.symm⟩
   ·exact .inr ⟨d,by simp,.inr h⟩
  ·exact .inr ⟨d',by simp[h1],h2⟩
def Bf(ops:Array Oper)(i j:Nat):Prop:=∀L:Nat→Prop,(∀x,L x→∀e∈jc ops x,L e)→(∀e∈jc ops i,L e)→L j
theorem wE(ops:Array Oper):∀(l:List Oper) (acc:List Nat),(∀k,l[k]? = ops[acc.length+k]?)→(∀i j,(acc.getD i 0).testBit j=true→Bf ops i j) →
  ∀i j,((Ee l acc).getD i 0).testBit j=true→Bf ops i j
 |[],acc,_,h=>h
 |o::r,acc,hl,h=>by
  refine wE ops r _ (fun k => ?_) (fun i j xU => ?_)
  ·have:=hl (k+1)
   simp only[List.getElem?_cons_succ] at this
   rw[this];congr 1;simp;omega
  ·rw[List.getD_eq_getElem?_getD,List.getElem?_append] at xU
   by_cases hi:i<acc.length
   ·rw[if_pos hi] at xU
    exact h i j (by rw[List.getD_eq_getElem?_getD];exact xU)
   ·rw[if_neg hi] at xU
    by_cases uP:i=acc.length
    ·subst uP
     simp only[Nat.sub_self,List.getElem?_cons_zero,Option.getD_some] at xU
     have ho:ops[acc.length]? = some o:=by have:=hl 0;simpa using this.symm
     have V8:jc ops acc.length=OJ o:=by unfold jc;rw[ho]
     rcases yO acc j (OJ o) 0 xU with h0|⟨d,hd,hj⟩
     ·simp at h0
     ·intro L hL hi
      have Ye:L d:=hi d (by rw[V8];exact hd)
      rcases hj with rfl|hj
      ·exact Ye
      ·exact h d j hj L hL (fun e he=>hL d Ye e he)
    ·have:i-acc.length≠0:=by omega
     cases hk:i-acc.length with
     |zero=>omega
     |succ k=>rw[hk] at xU;simp at xU
theorem vn(ops:Array Oper)(i j:Nat)(h:((oI ops).getD i 0).testBit j=true):Bf ops i j :=
 wE ops ops.toList [] (fun k=>by simp) (fun i j h=>by simp at h) i j h
def fwd(ops:Array Oper):List Nat→List Nat→Bool
 |_,[]=>true
 |seen,i::r=>(jc ops i).all (fun e=>seen.contains e)&&fwd ops (i::seen) r
theorem xW(ops:Array Oper)(U:List Nat):∀(l seen:List Nat),fwd ops seen l=true→(∀e∈seen,e ∉ U)→(∃i∈l,i∈U)→∃i∈l,i∈U∧∀e∈jc ops i,e ∉ U
 |[],_,_,_,⟨i,h,_⟩=>by cases h
 |i::r,seen,h,hs,hex=>by
  simp only[fwd,Bool.and_eq_true,List.all_eq_true] at h
  by_cases hi:i∈U
  ·exact⟨i,by simp,hi,fun e he=>hs e (by simpa using h.1 e he)⟩
  ·have V9:∃j∈r,j∈U:=by
    obtain⟨j,hj,SN⟩:=hex
    rcases List.mem_cons.1 hj with rfl|hj
    ·exact absurd SN hi
    ·exact⟨j,hj,SN⟩
   obtain⟨j,hj,SN,hd⟩:=xW ops U r (i::seen) h.2 (fun e he=>by
    rcases List.mem_cons.1 he with rfl|he
    ·exact hi
    ·exact hs e he) V9
   exact⟨j,by simp[hj],SN,hd⟩
theorem vo(ops:Array Oper):∀(l seen:List Nat),fwd ops seen l=true→∀i∈l,∀e∈jc ops i,e∈seen∨e∈l
 |[],_,_,i,h,_,_=>by cases h
 |i::r,seen,h,j,hj,e,he=>by
  simp only[fwd,Bool.and_eq_true,List.all_eq_true] at h
  rcases List.mem_cons.1 hj with rfl|hj
  ·exact .inl (by simpa using h.1 e he)
  ·rcases vo ops r (i::seen) h.2 j hj e he with h1|h1
   ·rcases List.mem_cons.1 h1 with rfl|h1
    ·exact .inr (by simp)
    ·exact .inl h1
   ·exact .inr (by simp[h1])
def looks (ops : Array Oper) (o : Oper) : List Nat :=
  (o.op.operands.toList.filterMap fun | .tmp t => some t | _ => none) ++
  (match o.guard with
   | some (g, _) => ((ops[g]?).bind (·.dst)).toList
   | none => [])
def c2(ops:Array Oper)(ms:List Nat)(hd:List Nat):List Nat→List Nat→Bool
 |_,[]=>true
 |pre,i::r=>(match ops[i]? with
   |some o=>(looks ops o).all fun t=>hd.all fun j=>match ops[j]? with
    |some oj=>(match oj.dst with
     |some d => !(Nat.beq d t)||(pre.contains j&&(ms.getD i 0).testBit j)
     |none=>true)
    |none=>false
   |none=>false)&&c2 ops ms hd (i::pre) r
def distinct(ops:Array Oper):List Nat→Bool
 |[]=>true
 |i::r=>(match (ops[i]?).bind (·.dst) with
   |some d=>r.all fun j=>match (ops[j]?).bind (·.dst) with
    |some d' => !(Nat.beq d d')
    |none=>true
   |none=>true)&&distinct ops r
def vp(ms:List Nat)(hd:List Nat):List Nat→Bool
 |[]=>true
 |i::r=>(hd.all fun j=>(ms.getD i 0).testBit j)&&(r.all fun k=>(ms.getD k 0).testBit i)&&vp ms hd r
def xX:List Nat→Bool
 |[]=>true
 |i::r => !(r.contains i)&&xX r
def H2(ops:Array Oper)(fl hd tl:List Nat):Bool :=
 Nat.beq (fl++(hd++tl)).length ops.size&&(fl++(hd++tl)).all (fun i=>Nat.blt i ops.size)&&xX (fl++(hd++tl)) &&
 fwd ops [] (fl++(hd++tl))&&c2 ops (oI ops) hd [] hd&&distinct ops hd&&vp (oI ops) hd tl&&Region.noSelect ops
theorem tj:∀{l:List Nat},xX l=true→l.Nodup
 |[],_=>List.nodup_nil
 |i::r,h=>by
  simp only[xX,Bool.and_eq_true,Bool.not_eq_true'] at h
  refine List.nodup_cons.2 ⟨fun hm => ?_,tj h.2⟩
  have:=h.1
  simp[hm] at this
def L6(ops:Array Oper)(listed:Array Bool)(U:List Nat):Prop:=listed.size=ops.size∧∀j,j<ops.size→(listed.getD j false=true↔j ∉ U)
def FX(U:List Nat)(i:Nat):List Nat:=U.filter (fun j => !(Nat.beq j i))
theorem og{U:List Nat}{i j:Nat} : j∈FX U i↔j∈U∧j≠i:=by
 unfold FX
 rw[List.mem_filter]
 constructor
 ·rintro ⟨h1,h2⟩
  exact⟨h1,fun e=>by subst e;simp at h2⟩
 ·rintro ⟨h1,h2⟩
  exact⟨h1,by simp[ij h2]⟩
theorem Je{U:List Nat}{i:Nat}(hn:U.Nodup)(hi:i∈U):(FX U i).length+1=U.length:=by
 induction U with
 |nil=>cases hi
 |cons j r ih =>
  obtain⟨h1,h2⟩:=List.nodup_cons.1 hn
  unfold FX
  by_cases hj:j=i
  ·subst hj
   simp only[List.filter_cons,Nat.beq_refl,Bool.not_true]
   have:r.filter (fun k => !(Nat.beq k j))=r:=List.filter_eq_self.2 (fun k hk=>by
    have:k≠j:=fun e=>h1 (e ▸ hk)
    simp[ij this])
   simp[this]
  ·rcases List.mem_cons.1 hi with e|hi
   ·exact absurd e.symm hj
   ·simp only[List.filter_cons,ij hj,Bool.not_false,if_true,List.length_cons]
    have:=ih h2 hi
    unfold FX at this
    omega
theorem L6.set{ops:Array Oper}{listed:Array Bool}{U:List Nat}{i:Nat}(h:L6 ops listed U)(hi:i<ops.size):L6 ops (listed.setIfInBounds i true) (FX U i):=by
 refine⟨by simpa using h.1,fun j hj => ?_⟩
 rw[og]
 by_cases xU:i=j
 ·subst xU
  simp[Array.getD_eq_getD_getElem?,h.1,hi]
 ·rw[getD_set_ne false xU,h.2 j hj]
  constructor
  ·exact fun h1 h2=>h1 h2.1
  ·exact fun h1 h2=>h1 ⟨h2,fun e=>xU e.symm⟩
theorem jW{ops:Array Oper}{listed:Array Bool}{U:List Nat}(h:L6 ops listed U){i:Nat}(hb:∀e∈jc ops i,e<ops.size) :
  i∈Region.ready .any ops listed↔i<ops.size∧i∈U∧∀e∈jc ops i,e ∉ U:=by
 rw[mem_ready]
 constructor
 ·rintro ⟨h1,o,ho,h2⟩
  have hi:i<ops.size:=(Array.getElem?_eq_some_iff.1 ho).1
  refine⟨hi,Classical.byContradiction fun hc => ?_,fun e he => ?_⟩
  ·have:=(h.2 i hi).2 hc
   have ba:i<listed.size:=by rw[h.1];exact hi
   simp[Array.getD_eq_getD_getElem?,ba] at h1 this
   rw[h1] at this;cases this
  ·have ZF:=hb e he
   unfold jc at he
   rw[ho] at he
   obtain⟨ed,Wa,rfl⟩:=List.mem_map.1 he
   rw[List.mem_filter] at Wa
   exact(h.2 ed.on ZF).1 (h2 ed (by simpa using Wa.1) Wa.2)
 ·rintro ⟨hi,hU,hd⟩
  refine⟨?_,ops[i],Array.getElem?_eq_getElem hi,fun e he ZG => ?_⟩
  ·have ba:i<listed.size:=by rw[h.1];exact hi
   have:=mt (h.2 i hi).1 (fun hc=>hc hU)
   simp[Array.getD_eq_getD_getElem?,ba] at this ⊢
   exact this
  ·have hm:e.on∈jc ops i:=by
    unfold jc
    rw[Array.getElem?_eq_getElem hi]
    exact List.mem_map.2 ⟨e,List.mem_filter.2 ⟨by simpa using he,ZG⟩,rfl⟩
   exact(h.2 e.on (hb _ hm)).2 (hd _ hm)
end Go.Proofs.YtllmkadmohkbfaaGreatDoor.Sym
