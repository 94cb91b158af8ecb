/- Lemmas for the statements of this seat. -/
import Derived.Test.YtneklnlpgfeplaaGreatW19
namespace Go.Proofs.YtneklnlpgfeplaaGreat.Sym
open Go Go.RowKit
def M8(o:Oper):List Nat:=(o.after.toList.filter (Region.binds .any)).map (·.on)
def gX(ops:Array Oper)(i:Nat):List Nat:=match ops[i]? with
 |some o=>M8 o
 |none=>[]
def GG(oK:List Nat):List Nat→Nat→Nat
 |[],m=>m
 |d::ds,m=>GG oK ds (m ||| 2^d ||| oK.getD d 0)
def DH:List Oper→List Nat→List Nat
 |[],acc=>acc
 |o::r,acc=>DH r (acc++[GG acc (M8 o) 0])
def oK(ops:Array Oper):List Nat:=DH ops.toList []
theorem yf(ms:List Nat)(j:Nat):∀(ds:List Nat) (m:Nat),(GG ms ds m).testBit j=true→m.testBit j=true∨∃d∈ds,j=d∨(ms.getD d 0).testBit j=true
 |[],m,h => .inl h
 |d::ds,m,h=>by
  rcases yf ms j ds _ h with h|⟨d',h1,h2⟩
  ·rw[Nat.testBit_or,Nat.testBit_or,adq,adq] at h;rcases h with (h|h)|h
   ·exact .inl h
   ·rw[Nat.testBit_two_pow] at h;simp at h;exact .inr ⟨d,by simp,.inl h.symm⟩
   ·exact .inr ⟨d,by simp,.inr h⟩
  ·exact .inr ⟨d',by simp[h1],h2⟩
def Ay(ops:Array Oper)(i j:Nat):Prop:=∀L:Nat→Prop,(∀x,L x→∀e∈gX ops x,L e)→(∀e∈gX ops i,L e)→L j
theorem wF(ops:Array Oper):∀(l:List Oper) (acc:List Nat),(∀k,l[k]? = ops[acc.length+k]?)→(∀i j,(acc.getD i 0).testBit j=true→Ay ops i j) →
  ∀i j,((DH l acc).getD i 0).testBit j=true→Ay ops i j
 |[],acc,_,h=>h
 |o::r,acc,hl,h=>by
  refine wF ops r _ (fun k => ?_) (fun i j DC => ?_)
  ·have:=hl (k+1);simp only[List.getElem?_cons_succ] at this;rw[this];congr 1;simp;omega
  ·rw[adG,acC] at DC;by_cases hi:i<acc.length
   ·rw[ac7 hi] at DC;exact h i j (by rw[adG];exact DC)
   ·rw[ac3 hi] at DC;by_cases Cu:i=acc.length
    ·subst Cu;simp only[Nat.sub_self,List.getElem?_cons_zero,Option.getD_some] at DC;have ho:ops[acc.length]? = some o:=by have:=hl 0;simpa using this.symm
     have VR:gX ops acc.length=M8 o:=by unfold gX;rw[ho]
     rcases yf acc j (M8 o) 0 DC with h0|⟨d,hd,hj⟩
     ·simp at h0
     ·intro L hL hi;have Yv:L d:=hi d (by rw[VR];exact hd);rcases hj with rfl|hj
      ·exact Yv
      ·exact h d j hj L hL (fun e he=>hL d Yv e he)
    ·have:i-acc.length≠0:=by omega
     cases hk:i-acc.length with
     |zero=>omega
     |succ k=>rw[hk] at DC;simp at DC
theorem vp(ops:Array Oper)(i j:Nat)(h:((oK ops).getD i 0).testBit j=true):Ay ops i j :=
 wF ops ops.toList [] (fun k=>by simp) (fun i j h=>by simp at h) i j h
def fwd(ops:Array Oper):List Nat→List Nat→Bool
 |_,[]=>true
 |seen,i::r=>(gX ops i).all (fun e=>seen.contains e)&&fwd ops (i::seen) r
theorem uc(ops:Array Oper)(U:List Nat):∀(l seen:List Nat),fwd ops seen l=true→(∀e∈seen,e ∉ U)→(∃i∈l,i∈U)→∃i∈l,i∈U∧∀e∈gX ops i,e ∉ U
 |[],_,_,_,⟨i,h,_⟩=>by cases h
 |i::r,seen,h,hs,hex=>by
  simp only[fwd,Bool.and_eq_true,List.all_eq_true] at h;by_cases hi:i∈U
  ·exact⟨i,by simp,hi,fun e he=>hs e (by simpa using h.1 e he)⟩
  ·have VS:∃j∈r,j∈U:=by
    obtain⟨j,hj,Rt⟩:=hex;rcases ac0.1 hj with rfl|hj
    ·exact absurd Rt hi
    ·exact⟨j,hj,Rt⟩
   obtain⟨j,hj,Rt,hd⟩:=uc ops U r (i::seen) h.2 (fun e he=>by
    rcases ac0.1 he with rfl|he
    ·exact hi
    ·exact hs e he) VS
   exact⟨j,by simp[hj],Rt,hd⟩
theorem vq(ops:Array Oper):∀(l seen:List Nat),fwd ops seen l=true→∀i∈l,∀e∈gX ops i,e∈seen∨e∈l
 |[],_,_,i,h,_,_=>by cases h
 |i::r,seen,h,j,hj,e,he=>by
  simp only[fwd,Bool.and_eq_true,List.all_eq_true] at h;rcases ac0.1 hj with rfl|hj
  ·exact .inl (by simpa using h.1 e he)
  ·rcases vq ops r (i::seen) h.2 j hj e he with h1|h1
   ·rcases ac0.1 h1 with rfl|h1
    ·exact .inr (by simp)
    ·exact .inl h1
   ·exact .inr (by simp[h1])
def looks (ops : Array Oper) (o : Oper) : List Nat :=
  (o.op.operands.toList.filterMap fun | .tmp t => some t | _ => none) ++
  (match o.guard with
   | some (g, _) => ((ops[g]?).bind (·.dst)).toList
   | none => [])
def c2(ops:Array Oper)(ms:List Nat)(hd:List Nat):List Nat→List Nat→Bool
 |_,[]=>true
 |pre,i::r=>(match ops[i]? with
   |some o=>(looks ops o).all fun t=>hd.all fun j=>match ops[j]? with
    |some oj=>(match oj.dst with
     |some d => !(Nat.beq d t)||(pre.contains j&&(ms.getD i 0).testBit j)
     |none=>true)
    |none=>false
   |none=>false)&&c2 ops ms hd (i::pre) r
def distinct(ops:Array Oper):List Nat→Bool
 |[]=>true
 |i::r=>(match (ops[i]?).bind (·.dst) with
   |some d=>r.all fun j=>match (ops[j]?).bind (·.dst) with
    |some d' => !(Nat.beq d d')
    |none=>true
   |none=>true)&&distinct ops r
def vr(ms:List Nat)(hd:List Nat):List Nat→Bool
 |[]=>true
 |i::r=>(hd.all fun j=>(ms.getD i 0).testBit j)&&(r.all fun k=>(ms.getD k 0).testBit i)&&vr ms hd r
def vt:List Nat→Bool
 |[]=>true
 |i::r => !(r.contains i)&&vt r
def GH(ops:Array Oper)(fl hd tl:List Nat):Bool :=
 Nat.beq (fl++(hd++tl)).length ops.size&&(fl++(hd++tl)).all (fun i=>Nat.blt i ops.size)&&vt (fl++(hd++tl)) &&
 fwd ops [] (fl++(hd++tl))&&c2 ops (oK ops) hd [] hd&&distinct ops hd&&vr (oK ops) hd tl&&Region.noSelect ops
theorem pN:∀{l:List Nat},vt l=true→l.Nodup
 |[],_=>List.nodup_nil
 |i::r,h=>by simp only[vt,Bool.and_eq_true,Bool.not_eq_true'] at h;refine adP.2 ⟨fun hm => ?_,pN h.2⟩;have:=h.1;simp[hm] at this
def Es(ops:Array Oper)(bT:Array Bool)(U:List Nat):Prop:=bT.size=ops.size∧∀j,j<ops.size→(bT.getD j false=true↔j ∉ U)
def CE(U:List Nat)(i:Nat):List Nat:=U.filter (fun j => !(Nat.beq j i))
theorem nc{U:List Nat}{i j:Nat} : j∈CE U i↔j∈U∧j≠i:=by
 unfold CE;rw[adj];constructor
 ·rintro ⟨h1,h2⟩
  exact⟨h1,fun e=>by subst e;simp at h2⟩
 ·rintro ⟨h1,h2⟩
  exact⟨h1,by simp[gm h2]⟩
theorem DI{U:List Nat}{i:Nat}(hn:U.Nodup)(hi:i∈U):(CE U i).length+1=U.length:=by
 induction U with
 |nil=>cases hi
 |cons j r ih =>
  obtain⟨h1,h2⟩:=adP.1 hn;unfold CE;by_cases hj:j=i
  ·subst hj;simp only[List.filter_cons,Nat.beq_refl,Bool.not_true];have:r.filter (fun k => !(Nat.beq k j))=r:=List.filter_eq_self.2 (fun k hk=>by
    have:k≠j:=fun e=>h1 (e ▸ hk)
    simp[gm this])
   simp[this]
  ·rcases ac0.1 hi with e|hi
   ·exact absurd e.symm hj
   ·simp only[List.filter_cons,gm hj,Bool.not_false,if_true,List.length_cons];have:=ih h2 hi;unfold CE at this;omega
theorem Es.set{ops:Array Oper}{bT:Array Bool}{U:List Nat}{i:Nat}(h:Es ops bT U)(hi:i<ops.size):Es ops (bT.setIfInBounds i true) (CE U i):=by
 refine⟨by simpa using h.1,fun j hj => ?_⟩;rw[nc];by_cases DC:i=j
 ·subst DC;simp[Array.getD_eq_getD_getElem?,h.1,hi]
 ·rw[getD_set_ne false DC,h.2 j hj];constructor
  ·exact fun h1 h2=>h1 h2.1
  ·exact fun h1 h2=>h1 ⟨h2,fun e=>DC e.symm⟩
theorem gr{ops:Array Oper}{bT:Array Bool}{U:List Nat}(h:Es ops bT U){i:Nat}(hb:∀e∈gX ops i,e<ops.size) :
  i∈Region.ready .any ops bT↔i<ops.size∧i∈U∧∀e∈gX ops i,e ∉ U:=by
 rw[mem_ready];constructor
 ·rintro ⟨h1,o,ho,h2⟩
  have hi:i<ops.size:=(ach.1 ho).1;refine⟨hi,aco fun hc => ?_,fun e he => ?_⟩
  ·have:=(h.2 i hi).2 hc;have cT:i<bT.size:=by rw[h.1];exact hi
   simp[Array.getD_eq_getD_getElem?,cT] at h1 this;rw[h1] at this;cases this
  ·have U7:=hb e he;unfold gX at he;rw[ho] at he;obtain⟨ed,VT,rfl⟩:=aca.1 he;rw[adj] at VT;exact(h.2 ed.on U7).1 (h2 ed (by simpa using VT.1) VT.2)
 ·rintro ⟨hi,hU,hd⟩
  refine⟨?_,ops[i],acn hi,fun e he ZT => ?_⟩
  ·have cT:i<bT.size:=by rw[h.1];exact hi
   have:=mt (h.2 i hi).1 (fun hc=>hc hU);simp[Array.getD_eq_getD_getElem?,cT] at this ⊢;exact this
  ·have hm:e.on∈gX ops i:=by
    unfold gX;rw[acn hi];exact aca.2 ⟨e,adj.2 ⟨by simpa using he,ZT⟩,rfl⟩
   exact(h.2 e.on (hb _ hm)).2 (hd _ hm)
end Go.Proofs.YtneklnlpgfeplaaGreat.Sym
