/- Lemmas for the statements of this seat. -/
import Derived.Test.YtfjfekodeplcoaaGreatWSymP
namespace Go.Proofs.YtfjfekodeplcoaaGreat.Sym
open Go Go.RowKit
def KK(o:Oper):List Nat:=(o.after.toList.filter (Region.binds .any)).map (·.on)
def ix(ops:Array Oper)(i:Nat):List Nat:=match ops[i]? with
 |some o=>KK o
 |none=>[]
def E3(nS:List Nat):List Nat→Nat→Nat
 |[],m=>m
 |d::ds,m=>E3 nS ds (m ||| 2^d ||| nS.getD d 0)
def BS:List Oper→List Nat→List Nat
 |[],acc=>acc
 |o::r,acc=>BS r (acc++[E3 acc (KK o) 0])
def nS(ops:Array Oper):List Nat:=BS ops.toList []
theorem wY(ms:List Nat)(j:Nat):∀(ds:List Nat) (m:Nat),(E3 ms ds m).testBit j=true→m.testBit j=true∨∃d∈ds,j=d∨(ms.getD d 0).testBit j=true
 |[],m,h => .inl h
 |d::ds,m,h=>by
  rcases wY ms j ds _ h with h|⟨d',h1,h2⟩
  ·rw[Nat.testBit_or,Nat.testBit_or,Bool.or_eq_true,Bool.or_eq_true] at h
   rcases h with (h|h)|h
   ·exact .inl h
   ·rw[Nat.testBit_two_pow] at h
    simp at h
    exact .inr ⟨d,by simp,.inl h.symm⟩
   ·exact .inr ⟨d,by simp,.inr h⟩
  ·exact .inr ⟨d',by simp[h1],h2⟩
def zm(ops:Array Oper)(i j:Nat):Prop:=∀L:Nat→Prop,(∀x,L x→∀e∈ix ops x,L e)→(∀e∈ix ops i,L e)→L j
theorem uV(ops:Array Oper):∀(l:List Oper) (acc:List Nat),(∀k,l[k]? = ops[acc.length+k]?)→(∀i j,(acc.getD i 0).testBit j=true→zm ops i j) →
  ∀i j,((BS l acc).getD i 0).testBit j=true→zm ops i j
 |[],acc,_,h=>h
 |o::r,acc,hl,h=>by
  refine uV ops r _ (fun k => ?_) (fun i j xN => ?_)
  ·have:=hl (k+1)
   simp only[List.getElem?_cons_succ] at this
   rw[this];congr 1;simp;omega
  ·rw[List.getD_eq_getElem?_getD,List.getElem?_append] at xN
   by_cases hi:i<acc.length
   ·rw[if_pos hi] at xN
    exact h i j (by rw[List.getD_eq_getElem?_getD];exact xN)
   ·rw[if_neg hi] at xN
    by_cases uq:i=acc.length
    ·subst uq
     simp only[Nat.sub_self,List.getElem?_cons_zero,Option.getD_some] at xN
     have ho:ops[acc.length]? = some o:=by have:=hl 0;simpa using this.symm
     have RP:ix ops acc.length=KK o:=by unfold ix;rw[ho]
     rcases wY acc j (KK o) 0 xN with h0|⟨d,hd,hj⟩
     ·simp at h0
     ·intro L hL hi
      have TY:L d:=hi d (by rw[RP];exact hd)
      rcases hj with rfl|hj
      ·exact TY
      ·exact h d j hj L hL (fun e he=>hL d TY e he)
    ·have:i-acc.length≠0:=by omega
     cases hk:i-acc.length with
     |zero=>omega
     |succ k=>rw[hk] at xN;simp at xN
theorem tO(ops:Array Oper)(i j:Nat)(h:((nS ops).getD i 0).testBit j=true):zm ops i j :=
 uV ops ops.toList [] (fun k=>by simp) (fun i j h=>by simp at h) i j h
def fwd(ops:Array Oper):List Nat→List Nat→Bool
 |_,[]=>true
 |seen,i::r=>(ix ops i).all (fun e=>seen.contains e)&&fwd ops (i::seen) r
theorem wj(ops:Array Oper)(U:List Nat):∀(l seen:List Nat),fwd ops seen l=true→(∀e∈seen,e ∉ U)→(∃i∈l,i∈U)→∃i∈l,i∈U∧∀e∈ix ops i,e ∉ U
 |[],_,_,_,⟨i,h,_⟩=>by cases h
 |i::r,seen,h,hs,hex=>by
  simp only[fwd,Bool.and_eq_true,List.all_eq_true] at h
  by_cases hi:i∈U
  ·exact⟨i,by simp,hi,fun e he=>hs e (by simpa using h.1 e he)⟩
  ·have RQ:∃j∈r,j∈U:=by
    obtain⟨j,hj,OH⟩:=hex
    rcases List.mem_cons.1 hj with rfl|hj
    ·exact absurd OH hi
    ·exact⟨j,hj,OH⟩
   obtain⟨j,hj,OH,hd⟩:=wj ops U r (i::seen) h.2 (fun e he=>by
    rcases List.mem_cons.1 he with rfl|he
    ·exact hi
    ·exact hs e he) RQ
   exact⟨j,by simp[hj],OH,hd⟩
theorem tP(ops:Array Oper):∀(l seen:List Nat),fwd ops seen l=true→∀i∈l,∀e∈ix ops i,e∈seen∨e∈l
 |[],_,_,i,h,_,_=>by cases h
 |i::r,seen,h,j,hj,e,he=>by
  simp only[fwd,Bool.and_eq_true,List.all_eq_true] at h
  rcases List.mem_cons.1 hj with rfl|hj
  ·exact .inl (by simpa using h.1 e he)
  ·rcases tP ops r (i::seen) h.2 j hj e he with h1|h1
   ·rcases List.mem_cons.1 h1 with rfl|h1
    ·exact .inr (by simp)
    ·exact .inl h1
   ·exact .inr (by simp[h1])
def looks (ops : Array Oper) (o : Oper) : List Nat :=
  (o.op.operands.toList.filterMap fun | .tmp t => some t | _ => none) ++
  (match o.guard with
   | some (g, _) => ((ops[g]?).bind (·.dst)).toList
   | none => [])
def c2(ops:Array Oper)(ms:List Nat)(hd:List Nat):List Nat→List Nat→Bool
 |_,[]=>true
 |pre,i::r=>(match ops[i]? with
   |some o=>(looks ops o).all fun t=>hd.all fun j=>match ops[j]? with
    |some oj=>(match oj.dst with
     |some d => !(Nat.beq d t)||(pre.contains j&&(ms.getD i 0).testBit j)
     |none=>true)
    |none=>false
   |none=>false)&&c2 ops ms hd (i::pre) r
def distinct(ops:Array Oper):List Nat→Bool
 |[]=>true
 |i::r=>(match (ops[i]?).bind (·.dst) with
   |some d=>r.all fun j=>match (ops[j]?).bind (·.dst) with
    |some d' => !(Nat.beq d d')
    |none=>true
   |none=>true)&&distinct ops r
def tQ(ms:List Nat)(hd:List Nat):List Nat→Bool
 |[]=>true
 |i::r=>(hd.all fun j=>(ms.getD i 0).testBit j)&&(r.all fun k=>(ms.getD k 0).testBit i)&&tQ ms hd r
def wk:List Nat→Bool
 |[]=>true
 |i::r => !(r.contains i)&&wk r
def E4(ops:Array Oper)(fl hd tl:List Nat):Bool :=
 Nat.beq (fl++(hd++tl)).length ops.size&&(fl++(hd++tl)).all (fun i=>Nat.blt i ops.size)&&wk (fl++(hd++tl)) &&
 fwd ops [] (fl++(hd++tl))&&c2 ops (nS ops) hd [] hd&&distinct ops hd&&tQ (nS ops) hd tl&&Region.noSelect ops
theorem rW:∀{l:List Nat},wk l=true→l.Nodup
 |[],_=>List.nodup_nil
 |i::r,h=>by
  simp only[wk,Bool.and_eq_true,Bool.not_eq_true'] at h
  refine List.nodup_cons.2 ⟨fun hm => ?_,rW h.2⟩
  have:=h.1
  simp[hm] at this
def Iu(ops:Array Oper)(bQ:Array Bool)(U:List Nat):Prop:=bQ.size=ops.size∧∀j,j<ops.size→(bQ.getD j false=true↔j ∉ U)
def Di(U:List Nat)(i:Nat):List Nat:=U.filter (fun j => !(Nat.beq j i))
theorem np{U:List Nat}{i j:Nat} : j∈Di U i↔j∈U∧j≠i:=by
 unfold Di
 rw[List.mem_filter]
 constructor
 ·rintro ⟨h1,h2⟩
  exact⟨h1,fun e=>by subst e;simp at h2⟩
 ·rintro ⟨h1,h2⟩
  exact⟨h1,by simp[di h2]⟩
theorem FY{U:List Nat}{i:Nat}(hn:U.Nodup)(hi:i∈U):(Di U i).length+1=U.length:=by
 induction U with
 |nil=>cases hi
 |cons j r ih =>
  obtain⟨h1,h2⟩:=List.nodup_cons.1 hn
  unfold Di
  by_cases hj:j=i
  ·subst hj
   simp only[List.filter_cons,Nat.beq_refl,Bool.not_true]
   have:r.filter (fun k => !(Nat.beq k j))=r:=List.filter_eq_self.2 (fun k hk=>by
    have:k≠j:=fun e=>h1 (e ▸ hk)
    simp[di this])
   simp[this]
  ·rcases List.mem_cons.1 hi with e|hi
   ·exact absurd e.symm hj
   ·simp only[List.filter_cons,di hj,Bool.not_false,if_true,List.length_cons]
    have:=ih h2 hi
    unfold Di at this
    omega
theorem Iu.set{ops:Array Oper}{bQ:Array Bool}{U:List Nat}{i:Nat}(h:Iu ops bQ U)(hi:i<ops.size):Iu ops (bQ.setIfInBounds i true) (Di U i):=by
 refine⟨by simpa using h.1,fun j hj => ?_⟩
 rw[np]
 by_cases xN:i=j
 ·subst xN
  simp[Array.getD_eq_getD_getElem?,h.1,hi]
 ·rw[getD_set_ne false xN,h.2 j hj]
  constructor
  ·exact fun h1 h2=>h1 h2.1
  ·exact fun h1 h2=>h1 ⟨h2,fun e=>xN e.symm⟩
theorem jI{ops:Array Oper}{bQ:Array Bool}{U:List Nat}(h:Iu ops bQ U){i:Nat}(hb:∀e∈ix ops i,e<ops.size) :
  i∈Region.ready .any ops bQ↔i<ops.size∧i∈U∧∀e∈ix ops i,e ∉ U:=by
 rw[mem_ready]
 constructor
 ·rintro ⟨h1,o,ho,h2⟩
  have hi:i<ops.size:=(Array.getElem?_eq_some_iff.1 ho).1
  refine⟨hi,Classical.byContradiction fun hc => ?_,fun e he => ?_⟩
  ·have:=(h.2 i hi).2 hc
   have cQ:i<bQ.size:=by rw[h.1];exact hi
   simp[Array.getD_eq_getD_getElem?,cQ] at h1 this
   rw[h1] at this;cases this
  ·have OP:=hb e he
   unfold ix at he
   rw[ho] at he
   obtain⟨ed,RR,rfl⟩:=List.mem_map.1 he
   rw[List.mem_filter] at RR
   exact(h.2 ed.on OP).1 (h2 ed (by simpa using RR.1) RR.2)
 ·rintro ⟨hi,hU,hd⟩
  refine⟨?_,ops[i],Array.getElem?_eq_getElem hi,fun e he VB => ?_⟩
  ·have cQ:i<bQ.size:=by rw[h.1];exact hi
   have:=mt (h.2 i hi).1 (fun hc=>hc hU)
   simp[Array.getD_eq_getD_getElem?,cQ] at this ⊢
   exact this
  ·have hm:e.on∈ix ops i:=by
    unfold ix
    rw[Array.getElem?_eq_getElem hi]
    exact List.mem_map.2 ⟨e,List.mem_filter.2 ⟨by simpa using he,VB⟩,rfl⟩
   exact(h.2 e.on (hb _ hm)).2 (hd _ hm)
end Go.Proofs.YtfjfekodeplcoaaGreat.Sym
