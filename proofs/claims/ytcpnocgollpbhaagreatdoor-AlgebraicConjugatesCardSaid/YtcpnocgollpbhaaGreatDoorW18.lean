/- Lemmas for the statements of this seat. -/
import Derived.Test.YtcpnocgollpbhaaGreatDoorW17
namespace Go.Proofs.YtcpnocgollpbhaaGreatDoor.Sym
open Go Go.RowKit
def Rn(o:Oper):List Nat:=(o.after.toList.filter (Region.binds .any)).map (·.on)
def jm(ops:Array Oper)(i:Nat):List Nat:=match ops[i]? with
 |some o=>Rn o
 |none=>[]
def JL(o6:List Nat):List Nat→Nat→Nat
 |[],m=>m
 |d::ds,m=>JL o6 ds (m ||| 2^d ||| o6.getD d 0)
def Fv:List Oper→List Nat→List Nat
 |[],acc=>acc
 |o::r,acc=>Fv r (acc++[JL acc (Rn o) 0])
def o6(ops:Array Oper):List Nat:=Fv ops.toList []
theorem zA(ms:List Nat)(j:Nat):∀(ds:List Nat) (m:Nat),(JL ms ds m).testBit j=true→m.testBit j=true∨∃d∈ds,j=d∨(ms.getD d 0).testBit j=true
 |[],m,h => .inl h
 |d::ds,m,h=>by
  rcases zA ms j ds _ h with h|⟨d',h1,h2⟩
  ·rw[Nat.testBit_or,Nat.testBit_or,aid,aid] at h;rcases h with (h|h)|h
   ·exact .inl h
   ·rw[Nat.testBit_two_pow] at h;simp at h;exact .inr ⟨d,by simp,.inl h.symm⟩
   ·exact .inr ⟨d,by simp,.inr h⟩
  ·exact .inr ⟨d',by simp[h1],h2⟩
def BI(ops:Array Oper)(i j:Nat):Prop:=∀L:Nat→Prop,(∀x,L x→∀e∈jm ops x,L e)→(∀e∈jm ops i,L e)→L j
theorem xg(ops:Array Oper):∀(l:List Oper) (acc:List Nat),(∀k,l[k]? = ops[acc.length+k]?)→(∀i j,(acc.getD i 0).testBit j=true→BI ops i j) →
  ∀i j,((Fv l acc).getD i 0).testBit j=true→BI ops i j
 |[],acc,_,h=>h
 |o::r,acc,hl,h=>by
  refine xg ops r _ (fun k => ?_) (fun i j AB => ?_)
  ·have:=hl (k+1);simp only[List.getElem?_cons_succ] at this;rw[this];congr 1;simp;omega
  ·rw[ajp,agZ] at AB;by_cases hi:i<acc.length
   ·rw[ag9 hi] at AB;exact h i j (by rw[ajp];exact AB)
   ·rw[ag7 hi] at AB;by_cases D8:i=acc.length
    ·subst D8;simp only[Nat.sub_self,List.getElem?_cons_zero,Option.getD_some] at AB;have ho:ops[acc.length]? = some o:=by have:=hl 0;simpa using this.symm
     have ZO:jm ops acc.length=Rn o:=by unfold jm;rw[ho]
     rcases zA acc j (Rn o) 0 AB with h0|⟨d,hd,hj⟩
     ·simp at h0
     ·intro L hL hi;have hLd:L d:=hi d (by rw[ZO];exact hd);rcases hj with rfl|hj
      ·exact hLd
      ·exact h d j hj L hL (fun e he=>hL d hLd e he)
    ·have:i-acc.length≠0:=by omega
     cases hk:i-acc.length with
     |zero=>omega
     |succ k=>rw[hk] at AB;simp at AB
theorem vN(ops:Array Oper)(i j:Nat)(h:((o6 ops).getD i 0).testBit j=true):BI ops i j :=
 xg ops ops.toList [] (fun k=>by simp) (fun i j h=>by simp at h) i j h
def fwd(ops:Array Oper):List Nat→List Nat→Bool
 |_,[]=>true
 |seen,i::r=>(jm ops i).all (fun e=>seen.contains e)&&fwd ops (i::seen) r
theorem yB(ops:Array Oper)(U:List Nat):∀(l seen:List Nat),fwd ops seen l=true→(∀e∈seen,e ∉ U)→(∃i∈l,i∈U)→∃i∈l,i∈U∧∀e∈jm ops i,e ∉ U
 |[],_,_,_,⟨i,h,_⟩=>by cases h
 |i::r,seen,h,hs,hex=>by
  simp only[fwd,Bool.and_eq_true,List.all_eq_true] at h;by_cases hi:i∈U
  ·exact⟨i,by simp,hi,fun e he=>hs e (by simpa using h.1 e he)⟩
  ·have ZP:∃j∈r,j∈U:=by
    obtain⟨j,hj,Wd⟩:=hex;rcases agp.1 hj with rfl|hj
    ·exact absurd Wd hi
    ·exact⟨j,hj,Wd⟩
   obtain⟨j,hj,Wd,hd⟩:=yB ops U r (i::seen) h.2 (fun e he=>by
    rcases agp.1 he with rfl|he
    ·exact hi
    ·exact hs e he) ZP
   exact⟨j,by simp[hj],Wd,hd⟩
theorem vO(ops:Array Oper):∀(l seen:List Nat),fwd ops seen l=true→∀i∈l,∀e∈jm ops i,e∈seen∨e∈l
 |[],_,_,i,h,_,_=>by cases h
 |i::r,seen,h,j,hj,e,he=>by
  simp only[fwd,Bool.and_eq_true,List.all_eq_true] at h;rcases agp.1 hj with rfl|hj
  ·exact .inl (by simpa using h.1 e he)
  ·rcases vO ops r (i::seen) h.2 j hj e he with h1|h1
   ·rcases agp.1 h1 with rfl|h1
    ·exact .inr (by simp)
    ·exact .inl h1
   ·exact .inr (by simp[h1])
def looks (ops : Array Oper) (o : Oper) : List Nat :=
  (o.op.operands.toList.filterMap fun | .tmp t => some t | _ => none) ++
  (match o.guard with
   | some (g, _) => ((ops[g]?).bind (·.dst)).toList
   | none => [])
def c2(ops:Array Oper)(ms:List Nat)(hd:List Nat):List Nat→List Nat→Bool
 |_,[]=>true
 |pre,i::r=>(match ops[i]? with
   |some o=>(looks ops o).all fun t=>hd.all fun j=>match ops[j]? with
    |some oj=>(match oj.dst with
     |some d => !(Nat.beq d t)||(pre.contains j&&(ms.getD i 0).testBit j)
     |none=>true)
    |none=>false
   |none=>false)&&c2 ops ms hd (i::pre) r
def distinct(ops:Array Oper):List Nat→Bool
 |[]=>true
 |i::r=>(match (ops[i]?).bind (·.dst) with
   |some d=>r.all fun j=>match (ops[j]?).bind (·.dst) with
    |some d' => !(Nat.beq d d')
    |none=>true
   |none=>true)&&distinct ops r
def vP(ms:List Nat)(hd:List Nat):List Nat→Bool
 |[]=>true
 |i::r=>(hd.all fun j=>(ms.getD i 0).testBit j)&&(r.all fun k=>(ms.getD k 0).testBit i)&&vP ms hd r
def yC:List Nat→Bool
 |[]=>true
 |i::r => !(r.contains i)&&yC r
def JM(ops:Array Oper)(fl hd tl:List Nat):Bool :=
 Nat.beq (fl++(hd++tl)).length ops.size&&(fl++(hd++tl)).all (fun i=>Nat.blt i ops.size)&&yC (fl++(hd++tl)) &&
 fwd ops [] (fl++(hd++tl))&&c2 ops (o6 ops) hd [] hd&&distinct ops hd&&vP (o6 ops) hd tl&&Region.noSelect ops
theorem tG:∀{l:List Nat},yC l=true→l.Nodup
 |[],_=>List.nodup_nil
 |i::r,h=>by simp only[yC,Bool.and_eq_true,Bool.not_eq_true'] at h;refine aio.2 ⟨fun hm => ?_,tG h.2⟩;have:=h.1;simp[hm] at this
def OB(ops:Array Oper)(listed:Array Bool)(U:List Nat):Prop:=listed.size=ops.size∧∀j,j<ops.size→(listed.getD j false=true↔j ∉ U)
def HO(U:List Nat)(i:Nat):List Nat:=U.filter (fun j => !(Nat.beq j i))
theorem oA{U:List Nat}{i j:Nat} : j∈HO U i↔j∈U∧j≠i:=by
 unfold HO;rw[ain];constructor
 ·rintro ⟨h1,h2⟩
  exact⟨h1,fun e=>by subst e;simp at h2⟩
 ·rintro ⟨h1,h2⟩
  exact⟨h1,by simp[ig h2]⟩
theorem KZ{U:List Nat}{i:Nat}(hn:U.Nodup)(hi:i∈U):(HO U i).length+1=U.length:=by
 induction U with
 |nil=>cases hi
 |cons j r ih =>
  obtain⟨h1,h2⟩:=aio.1 hn;unfold HO;by_cases hj:j=i
  ·subst hj;simp only[List.filter_cons,Nat.beq_refl,Bool.not_true];have:r.filter (fun k => !(Nat.beq k j))=r:=List.filter_eq_self.2 (fun k hk=>by
    have:k≠j:=fun e=>h1 (e ▸ hk)
    simp[ig this])
   simp[this]
  ·rcases agp.1 hi with e|hi
   ·exact absurd e.symm hj
   ·simp only[List.filter_cons,ig hj,Bool.not_false,if_true,List.length_cons];have:=ih h2 hi;unfold HO at this;omega
theorem OB.set{ops:Array Oper}{listed:Array Bool}{U:List Nat}{i:Nat}(h:OB ops listed U)(hi:i<ops.size):OB ops (listed.setIfInBounds i true) (HO U i):=by
 refine⟨by simpa using h.1,fun j hj => ?_⟩;rw[oA];by_cases AB:i=j
 ·subst AB;simp[Array.getD_eq_getD_getElem?,h.1,hi]
 ·rw[getD_set_ne false AB,h.2 j hj];constructor
  ·exact fun h1 h2=>h1 h2.1
  ·exact fun h1 h2=>h1 ⟨h2,fun e=>AB e.symm⟩
theorem ke{ops:Array Oper}{listed:Array Bool}{U:List Nat}(h:OB ops listed U){i:Nat}(hb:∀e∈jm ops i,e<ops.size) :
  i∈Region.ready .any ops listed↔i<ops.size∧i∈U∧∀e∈jm ops i,e ∉ U:=by
 rw[mem_ready];constructor
 ·rintro ⟨h1,o,ho,h2⟩
  have hi:i<ops.size:=(agY.1 ho).1;refine⟨hi,afV fun hc => ?_,fun e he => ?_⟩
  ·have:=(h.2 i hi).2 hc;have bH:i<listed.size:=by rw[h.1];exact hi
   simp[Array.getD_eq_getD_getElem?,bH] at h1 this;rw[h1] at this;cases this
  ·have Y8:=hb e he;unfold jm at he;rw[ho] at he;obtain⟨ed,ZQ,rfl⟩:=agI.1 he;rw[ain] at ZQ;exact(h.2 ed.on Y8).1 (h2 ed (by simpa using ZQ.1) ZQ.2)
 ·rintro ⟨hi,hU,hd⟩
  refine⟨?_,ops[i],ah2 hi,fun e he hbi => ?_⟩
  ·have bH:i<listed.size:=by rw[h.1];exact hi
   have:=mt (h.2 i hi).1 (fun hc=>hc hU);simp[Array.getD_eq_getD_getElem?,bH] at this ⊢;exact this
  ·have hm:e.on∈jm ops i:=by
    unfold jm;rw[ah2 hi];exact agI.2 ⟨e,ain.2 ⟨by simpa using he,hbi⟩,rfl⟩
   exact(h.2 e.on (hb _ hm)).2 (hd _ hm)
end Go.Proofs.YtcpnocgollpbhaaGreatDoor.Sym
