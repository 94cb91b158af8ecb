/- Lemmas for the statements of this seat. -/
import Derived.Test.YtcpnocgollpbhaaGreatDoorW17
namespace Go.Proofs.YtcpnocgollpbhaaGreatDoor.Sym
open Go Go.RowKit
def RY(o:Oper):List Nat:=(o.after.toList.filter (Region.binds .any)).map (·.on)
def jE(ops:Array Oper)(i:Nat):List Nat:=match ops[i]? with
 |some o=>RY o
 |none=>[]
def Ku(pJ:List Nat):List Nat→Nat→Nat
 |[],m=>m
 |d::ds,m=>Ku pJ ds (m ||| 2^d ||| pJ.getD d 0)
def Gq:List Oper→List Nat→List Nat
 |[],acc=>acc
 |o::r,acc=>Gq r (acc++[Ku acc (RY o) 0])
def pJ(ops:Array Oper):List Nat:=Gq ops.toList []
theorem AQ(ms:List Nat)(j:Nat):∀(ds:List Nat) (m:Nat),(Ku ms ds m).testBit j=true→m.testBit j=true∨∃d∈ds,j=d∨(ms.getD d 0).testBit j=true
 |[],m,h => .inl h
 |d::ds,m,h=>by
  rcases AQ ms j ds _ h with h|⟨d',h1,h2⟩
  ·rw[Nat.testBit_or,Nat.testBit_or,ahK,ahK] at h;rcases h with (h|h)|h
   ·exact .inl h
   ·rw[Nat.testBit_two_pow] at h;simp at h;exact .inr ⟨d,by simp,.inl h.symm⟩
   ·exact .inr ⟨d,by simp,.inr h⟩
  ·exact .inr ⟨d',by simp[h1],h2⟩
def CX(ops:Array Oper)(i j:Nat):Prop:=∀L:Nat→Prop,(∀x,L x→∀e∈jE ops x,L e)→(∀e∈jE ops i,L e)→L j
theorem ye(ops:Array Oper):∀(l:List Oper) (acc:List Nat),(∀k,l[k]? = ops[acc.length+k]?)→(∀i j,(acc.getD i 0).testBit j=true→CX ops i j) →
  ∀i j,((Gq l acc).getD i 0).testBit j=true→CX ops i j
 |[],acc,_,h=>h
 |o::r,acc,hl,h=>by
  refine ye ops r _ (fun k => ?_) (fun i j AO => ?_)
  ·have:=hl (k+1);simp only[List.getElem?_cons_succ] at this;rw[this];congr 1;simp;omega
  ·rw[aiX,agE] at AO;by_cases hi:i<acc.length
   ·rw[afI hi] at AO;exact h i j (by rw[aiX];exact AO)
   ·rw[afG hi] at AO;by_cases E4:i=acc.length
    ·subst E4;simp only[Nat.sub_self,List.getElem?_cons_zero,Option.getD_some] at AO;have ho:ops[acc.length]? = some o:=by have:=hl 0;simpa using this.symm
     have ZP:jE ops acc.length=RY o:=by unfold jE;rw[ho]
     rcases AQ acc j (RY o) 0 AO with h0|⟨d,hd,hj⟩
     ·simp at h0
     ·intro L hL hi;have hLd:L d:=hi d (by rw[ZP];exact hd);rcases hj with rfl|hj
      ·exact hLd
      ·exact h d j hj L hL (fun e he=>hL d hLd e he)
    ·have:i-acc.length≠0:=by omega
     cases hk:i-acc.length with
     |zero=>omega
     |succ k=>rw[hk] at AO;simp at AO
theorem w5(ops:Array Oper)(i j:Nat)(h:((pJ ops).getD i 0).testBit j=true):CX ops i j :=
 ye ops ops.toList [] (fun k=>by simp) (fun i j h=>by simp at h) i j h
def fwd(ops:Array Oper):List Nat→List Nat→Bool
 |_,[]=>true
 |seen,i::r=>(jE ops i).all (fun e=>seen.contains e)&&fwd ops (i::seen) r
theorem zX(ops:Array Oper)(U:List Nat):∀(l seen:List Nat),fwd ops seen l=true→(∀e∈seen,e ∉ U)→(∃i∈l,i∈U)→∃i∈l,i∈U∧∀e∈jE ops i,e ∉ U
 |[],_,_,_,⟨i,h,_⟩=>by cases h
 |i::r,seen,h,hs,hex=>by
  simp only[fwd,Bool.and_eq_true,List.all_eq_true] at h;by_cases hi:i∈U
  ·exact⟨i,by simp,hi,fun e he=>hs e (by simpa using h.1 e he)⟩
  ·have ZQ:∃j∈r,j∈U:=by
    obtain⟨j,hj,WC⟩:=hex;rcases afY.1 hj with rfl|hj
    ·exact absurd WC hi
    ·exact⟨j,hj,WC⟩
   obtain⟨j,hj,WC,hd⟩:=zX ops U r (i::seen) h.2 (fun e he=>by
    rcases afY.1 he with rfl|he
    ·exact hi
    ·exact hs e he) ZQ
   exact⟨j,by simp[hj],WC,hd⟩
theorem w6(ops:Array Oper):∀(l seen:List Nat),fwd ops seen l=true→∀i∈l,∀e∈jE ops i,e∈seen∨e∈l
 |[],_,_,i,h,_,_=>by cases h
 |i::r,seen,h,j,hj,e,he=>by
  simp only[fwd,Bool.and_eq_true,List.all_eq_true] at h;rcases afY.1 hj with rfl|hj
  ·exact .inl (by simpa using h.1 e he)
  ·rcases w6 ops r (i::seen) h.2 j hj e he with h1|h1
   ·rcases afY.1 h1 with rfl|h1
    ·exact .inr (by simp)
    ·exact .inl h1
   ·exact .inr (by simp[h1])
def looks (ops : Array Oper) (o : Oper) : List Nat :=
  (o.op.operands.toList.filterMap fun | .tmp t => some t | _ => none) ++
  (match o.guard with
   | some (g, _) => ((ops[g]?).bind (·.dst)).toList
   | none => [])
def c2(ops:Array Oper)(ms:List Nat)(hd:List Nat):List Nat→List Nat→Bool
 |_,[]=>true
 |pre,i::r=>(match ops[i]? with
   |some o=>(looks ops o).all fun t=>hd.all fun j=>match ops[j]? with
    |some oj=>(match oj.dst with
     |some d => !(Nat.beq d t)||(pre.contains j&&(ms.getD i 0).testBit j)
     |none=>true)
    |none=>false
   |none=>false)&&c2 ops ms hd (i::pre) r
def distinct(ops:Array Oper):List Nat→Bool
 |[]=>true
 |i::r=>(match (ops[i]?).bind (·.dst) with
   |some d=>r.all fun j=>match (ops[j]?).bind (·.dst) with
    |some d' => !(Nat.beq d d')
    |none=>true
   |none=>true)&&distinct ops r
def w7(ms:List Nat)(hd:List Nat):List Nat→Bool
 |[]=>true
 |i::r=>(hd.all fun j=>(ms.getD i 0).testBit j)&&(r.all fun k=>(ms.getD k 0).testBit i)&&w7 ms hd r
def zY:List Nat→Bool
 |[]=>true
 |i::r => !(r.contains i)&&zY r
def Kv(ops:Array Oper)(fl hd tl:List Nat):Bool :=
 Nat.beq (fl++(hd++tl)).length ops.size&&(fl++(hd++tl)).all (fun i=>Nat.blt i ops.size)&&zY (fl++(hd++tl)) &&
 fwd ops [] (fl++(hd++tl))&&c2 ops (pJ ops) hd [] hd&&distinct ops hd&&w7 (pJ ops) hd tl&&Region.noSelect ops
theorem uy:∀{l:List Nat},zY l=true→l.Nodup
 |[],_=>List.nodup_nil
 |i::r,h=>by simp only[zY,Bool.and_eq_true,Bool.not_eq_true'] at h;refine ai0.2 ⟨fun hm => ?_,uy h.2⟩;have:=h.1;simp[hm] at this
def O9(ops:Array Oper)(listed:Array Bool)(U:List Nat):Prop:=listed.size=ops.size∧∀j,j<ops.size→(listed.getD j false=true↔j ∉ U)
def Ix(U:List Nat)(i:Nat):List Nat:=U.filter (fun j => !(Nat.beq j i))
theorem o6{U:List Nat}{i j:Nat} : j∈Ix U i↔j∈U∧j≠i:=by
 unfold Ix;rw[ahZ];constructor
 ·rintro ⟨h1,h2⟩
  exact⟨h1,fun e=>by subst e;simp at h2⟩
 ·rintro ⟨h1,h2⟩
  exact⟨h1,by simp[iJ h2]⟩
theorem LJ{U:List Nat}{i:Nat}(hn:U.Nodup)(hi:i∈U):(Ix U i).length+1=U.length:=by
 induction U with
 |nil=>cases hi
 |cons j r ih =>
  obtain⟨h1,h2⟩:=ai0.1 hn;unfold Ix;by_cases hj:j=i
  ·subst hj;simp only[List.filter_cons,Nat.beq_refl,Bool.not_true];have:r.filter (fun k => !(Nat.beq k j))=r:=List.filter_eq_self.2 (fun k hk=>by
    have:k≠j:=fun e=>h1 (e ▸ hk)
    simp[iJ this])
   simp[this]
  ·rcases afY.1 hi with e|hi
   ·exact absurd e.symm hj
   ·simp only[List.filter_cons,iJ hj,Bool.not_false,if_true,List.length_cons];have:=ih h2 hi;unfold Ix at this;omega
theorem O9.set{ops:Array Oper}{listed:Array Bool}{U:List Nat}{i:Nat}(h:O9 ops listed U)(hi:i<ops.size):O9 ops (listed.setIfInBounds i true) (Ix U i):=by
 refine⟨by simpa using h.1,fun j hj => ?_⟩;rw[o6];by_cases AO:i=j
 ·subst AO;simp[Array.getD_eq_getD_getElem?,h.1,hi]
 ·rw[getD_set_ne false AO,h.2 j hj];constructor
  ·exact fun h1 h2=>h1 h2.1
  ·exact fun h1 h2=>h1 ⟨h2,fun e=>AO e.symm⟩
theorem kD{ops:Array Oper}{listed:Array Bool}{U:List Nat}(h:O9 ops listed U){i:Nat}(hb:∀e∈jE ops i,e<ops.size) :
  i∈Region.ready .any ops listed↔i<ops.size∧i∈U∧∀e∈jE ops i,e ∉ U:=by
 rw[mem_ready];constructor
 ·rintro ⟨h1,o,ho,h2⟩
  have hi:i<ops.size:=(agC.1 ho).1;refine⟨hi,afE fun hc => ?_,fun e he => ?_⟩
  ·have:=(h.2 i hi).2 hc;have dI:i<listed.size:=by rw[h.1];exact hi
   simp[Array.getD_eq_getD_getElem?,dI] at h1 this;rw[h1] at this;cases this
  ·have Zc:=hb e he;unfold jE at he;rw[ho] at he;obtain⟨ed,ZR,rfl⟩:=agj.1 he;rw[ahZ] at ZR;exact(h.2 ed.on Zc).1 (h2 ed (by simpa using ZR.1) ZR.2)
 ·rintro ⟨hi,hU,hd⟩
  refine⟨?_,ops[i],agH hi,fun e he hbi => ?_⟩
  ·have dI:i<listed.size:=by rw[h.1];exact hi
   have:=mt (h.2 i hi).1 (fun hc=>hc hU);simp[Array.getD_eq_getD_getElem?,dI] at this ⊢;exact this
  ·have hm:e.on∈jE ops i:=by
    unfold jE;rw[agH hi];exact agj.2 ⟨e,ahZ.2 ⟨by simpa using he,hbi⟩,rfl⟩
   exact(h.2 e.on (hb _ hm)).2 (hd _ hm)
end Go.Proofs.YtcpnocgollpbhaaGreatDoor.Sym
