/- Lemmas for the statements of this seat. -/
import Derived.Test.YtllmkadmohkbfaaGreatDoorWSymP
namespace Go.Proofs.YtllmkadmohkbfaaGreatDoor.Sym
open Go Go.RowKit
def SQ(o:Oper):List Nat:=(o.after.toList.filter (Region.binds .any)).map (·.on)
def oe(ops:Array Oper)(i:Nat):List Nat:=match ops[i]? with
 |some o=>SQ o
 |none=>[]
def MM(vd:List Nat):List Nat→Nat→Nat
 |[],m=>m
 |d::ds,m=>MM vd ds (m ||| 2^d ||| vd.getD d 0)
def JI:List Oper→List Nat→List Nat
 |[],acc=>acc
 |o::r,acc=>JI r (acc++[MM acc (SQ o) 0])
def vd(ops:Array Oper):List Nat:=JI ops.toList []
theorem EP(ms:List Nat)(j:Nat):∀(ds:List Nat) (m:Nat),(MM ms ds m).testBit j=true→m.testBit j=true∨∃d∈ds,j=d∨(ms.getD d 0).testBit j=true
 |[],m,h => .inl h
 |d::ds,m,h=>by
  rcases EP ms j ds _ h with h|⟨d',h1,h2⟩
  ·rw[Nat.testBit_or,Nat.testBit_or,Bool.or_eq_true,Bool.or_eq_true] at h
   rcases h with (h|h)|h
   ·exact .inl h
   ·rw[Nat.testBit_two_pow] at h
    simp at h
    exact .inr ⟨d,by simp,.inl h.symm⟩
   ·exact .inr ⟨d,by simp,.inr h⟩
  ·exact .inr ⟨d',by simp[h1],h2⟩
def GN(ops:Array Oper)(i j:Nat):Prop:=∀L:Nat→Prop,(∀x,L x→∀e∈oe ops x,L e)→(∀e∈oe ops i,L e)→L j
theorem CV(ops:Array Oper):∀(l:List Oper) (acc:List Nat),(∀k,l[k]? = ops[acc.length+k]?)→(∀i j,(acc.getD i 0).testBit j=true→GN ops i j) →
  ∀i j,((JI l acc).getD i 0).testBit j=true→GN ops i j
 |[],acc,_,h=>h
 |o::r,acc,hl,h=>by
  refine CV ops r _ (fun k => ?_) (fun i j Bh => ?_)
  ·have:=hl (k+1)
   simp only[List.getElem?_cons_succ] at this
   rw[this];congr 1;simp;omega
  ·rw[List.getD_eq_getElem?_getD,List.getElem?_append] at Bh
   by_cases hi:i<acc.length
   ·rw[if_pos hi] at Bh
    exact h i j (by rw[List.getD_eq_getElem?_getD];exact Bh)
   ·rw[if_neg hi] at Bh
    by_cases ql:i=acc.length
    ·subst ql
     simp only[Nat.sub_self,List.getElem?_cons_zero,Option.getD_some] at Bh
     have ho:ops[acc.length]? = some o:=by have:=hl 0;simpa using this.symm
     have Ze:oe ops acc.length=SQ o:=by unfold oe;rw[ho]
     rcases EP acc j (SQ o) 0 Bh with h0|⟨d,hd,hj⟩
     ·simp at h0
     ·intro L hL hi
      have hLd:L d:=hi d (by rw[Ze];exact hd)
      rcases hj with rfl|hj
      ·exact hLd
      ·exact h d j hj L hL (fun e he=>hL d hLd e he)
    ·have:i-acc.length≠0:=by omega
     cases hk:i-acc.length with
     |zero=>omega
     |succ k=>rw[hk] at Bh;simp at Bh
theorem BI(ops:Array Oper)(i j:Nat)(h:((vd ops).getD i 0).testBit j=true):GN ops i j :=
 CV ops ops.toList [] (fun k=>by simp) (fun i j h=>by simp at h) i j h
def fwd(ops:Array Oper):List Nat→List Nat→Bool
 |_,[]=>true
 |seen,i::r=>(oe ops i).all (fun e=>seen.contains e)&&fwd ops (i::seen) r
theorem Ed(ops:Array Oper)(U:List Nat):∀(l seen:List Nat),fwd ops seen l=true→(∀e∈seen,e ∉ U)→(∃i∈l,i∈U)→∃i∈l,i∈U∧∀e∈oe ops i,e ∉ U
 |[],_,_,_,⟨i,h,_⟩=>by cases h
 |i::r,seen,h,hs,hex=>by
  simp only[fwd,Bool.and_eq_true,List.all_eq_true] at h
  by_cases hi:i∈U
  ·exact⟨i,by simp,hi,fun e he=>hs e (by simpa using h.1 e he)⟩
  ·have Zf:∃j∈r,j∈U:=by
    obtain⟨j,hj,Wn⟩:=hex
    rcases List.mem_cons.1 hj with rfl|hj
    ·exact absurd Wn hi
    ·exact⟨j,hj,Wn⟩
   obtain⟨j,hj,Wn,hd⟩:=Ed ops U r (i::seen) h.2 (fun e he=>by
    rcases List.mem_cons.1 he with rfl|he
    ·exact hi
    ·exact hs e he) Zf
   exact⟨j,by simp[hj],Wn,hd⟩
theorem BJ(ops:Array Oper):∀(l seen:List Nat),fwd ops seen l=true→∀i∈l,∀e∈oe ops i,e∈seen∨e∈l
 |[],_,_,i,h,_,_=>by cases h
 |i::r,seen,h,j,hj,e,he=>by
  simp only[fwd,Bool.and_eq_true,List.all_eq_true] at h
  rcases List.mem_cons.1 hj with rfl|hj
  ·exact .inl (by simpa using h.1 e he)
  ·rcases BJ ops r (i::seen) h.2 j hj e he with h1|h1
   ·rcases List.mem_cons.1 h1 with rfl|h1
    ·exact .inr (by simp)
    ·exact .inl h1
   ·exact .inr (by simp[h1])
def looks (ops : Array Oper) (o : Oper) : List Nat :=
  (o.op.operands.toList.filterMap fun | .tmp t => some t | _ => none) ++
  (match o.guard with
   | some (g, _) => ((ops[g]?).bind (·.dst)).toList
   | none => [])
def c2(ops:Array Oper)(ms:List Nat)(hd:List Nat):List Nat→List Nat→Bool
 |_,[]=>true
 |pre,i::r=>(match ops[i]? with
   |some o=>(looks ops o).all fun t=>hd.all fun j=>match ops[j]? with
    |some oj=>(match oj.dst with
     |some d => !(Nat.beq d t)||(pre.contains j&&(ms.getD i 0).testBit j)
     |none=>true)
    |none=>false
   |none=>false)&&c2 ops ms hd (i::pre) r
def distinct(ops:Array Oper):List Nat→Bool
 |[]=>true
 |i::r=>(match (ops[i]?).bind (·.dst) with
   |some d=>r.all fun j=>match (ops[j]?).bind (·.dst) with
    |some d' => !(Nat.beq d d')
    |none=>true
   |none=>true)&&distinct ops r
def BK(ms:List Nat)(hd:List Nat):List Nat→Bool
 |[]=>true
 |i::r=>(hd.all fun j=>(ms.getD i 0).testBit j)&&(r.all fun k=>(ms.getD k 0).testBit i)&&BK ms hd r
def Ee:List Nat→Bool
 |[]=>true
 |i::r => !(r.contains i)&&Ee r
def MN(ops:Array Oper)(fl hd tl:List Nat):Bool :=
 Nat.beq (fl++(hd++tl)).length ops.size&&(fl++(hd++tl)).all (fun i=>Nat.blt i ops.size)&&Ee (fl++(hd++tl)) &&
 fwd ops [] (fl++(hd++tl))&&c2 ops (vd ops) hd [] hd&&distinct ops hd&&BK (vd ops) hd tl&&Region.noSelect ops
theorem Aa:∀{l:List Nat},Ee l=true→l.Nodup
 |[],_=>List.nodup_nil
 |i::r,h=>by
  simp only[Ee,Bool.and_eq_true,Bool.not_eq_true'] at h
  refine List.nodup_cons.2 ⟨fun hm => ?_,Aa h.2⟩
  have:=h.1
  simp[hm] at this
def QC(ops:Array Oper)(listed:Array Bool)(U:List Nat):Prop:=listed.size=ops.size∧∀j,j<ops.size→(listed.getD j false=true↔j ∉ U)
def K6(U:List Nat)(i:Nat):List Nat:=U.filter (fun j => !(Nat.beq j i))
theorem uJ{U:List Nat}{i j:Nat} : j∈K6 U i↔j∈U∧j≠i:=by
 unfold K6
 rw[List.mem_filter]
 constructor
 ·rintro ⟨h1,h2⟩
  exact⟨h1,fun e=>by subst e;simp at h2⟩
 ·rintro ⟨h1,h2⟩
  exact⟨h1,by simp[mP h2]⟩
theorem N5{U:List Nat}{i:Nat}(hn:U.Nodup)(hi:i∈U):(K6 U i).length+1=U.length:=by
 induction U with
 |nil=>cases hi
 |cons j r ih =>
  obtain⟨h1,h2⟩:=List.nodup_cons.1 hn
  unfold K6
  by_cases hj:j=i
  ·subst hj
   simp only[List.filter_cons,Nat.beq_refl,Bool.not_true]
   have:r.filter (fun k => !(Nat.beq k j))=r:=List.filter_eq_self.2 (fun k hk=>by
    have:k≠j:=fun e=>h1 (e ▸ hk)
    simp[mP this])
   simp[this]
  ·rcases List.mem_cons.1 hi with e|hi
   ·exact absurd e.symm hj
   ·simp only[List.filter_cons,mP hj,Bool.not_false,if_true,List.length_cons]
    have:=ih h2 hi
    unfold K6 at this
    omega
theorem QC.set{ops:Array Oper}{listed:Array Bool}{U:List Nat}{i:Nat}(h:QC ops listed U)(hi:i<ops.size):QC ops (listed.setIfInBounds i true) (K6 U i):=by
 refine⟨by simpa using h.1,fun j hj => ?_⟩
 rw[uJ]
 by_cases Bh:i=j
 ·subst Bh
  simp[Array.getD_eq_getD_getElem?,h.1,hi]
 ·rw[getD_set_ne false Bh,h.2 j hj]
  constructor
  ·exact fun h1 h2=>h1 h2.1
  ·exact fun h1 h2=>h1 ⟨h2,fun e=>Bh e.symm⟩
theorem pX{ops:Array Oper}{listed:Array Bool}{U:List Nat}(h:QC ops listed U){i:Nat}(hb:∀e∈oe ops i,e<ops.size) :
  i∈Region.ready .any ops listed↔i<ops.size∧i∈U∧∀e∈oe ops i,e ∉ U:=by
 rw[mem_ready]
 constructor
 ·rintro ⟨h1,o,ho,h2⟩
  have hi:i<ops.size:=(Array.getElem?_eq_some_iff.1 ho).1
  refine⟨hi,Classical.byContradiction fun hc => ?_,fun e he => ?_⟩
  ·have:=(h.2 i hi).2 hc
   have bH:i<listed.size:=by rw[h.1];exact hi
   simp[Array.getD_eq_getD_getElem?,bH] at h1 this
   rw[h1] at this;cases this
  ·have hel:=hb e he
   unfold oe at he
   rw[ho] at he
   obtain⟨ed,Zg,rfl⟩:=List.mem_map.1 he
   rw[List.mem_filter] at Zg
   exact(h.2 ed.on hel).1 (h2 ed (by simpa using Zg.1) Zg.2)
 ·rintro ⟨hi,hU,hd⟩
  refine⟨?_,ops[i],Array.getElem?_eq_getElem hi,fun e he hbi => ?_⟩
  ·have bH:i<listed.size:=by rw[h.1];exact hi
   have:=mt (h.2 i hi).1 (fun hc=>hc hU)
   simp[Array.getD_eq_getD_getElem?,bH] at this ⊢
   exact this
  ·have hm:e.on∈oe ops i:=by
    unfold oe
    rw[Array.getElem?_eq_getElem hi]
    exact List.mem_map.2 ⟨e,List.mem_filter.2 ⟨by simpa using he,hbi⟩,rfl⟩
   exact(h.2 e.on (hb _ hm)).2 (hd _ hm)
end Go.Proofs.YtllmkadmohkbfaaGreatDoor.Sym
