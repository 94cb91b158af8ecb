/- The comparison of algebraic numbers is a total order that agrees with the comparison with fractions. The law AlgebraicOrder returns true for every input, with the tables of numerals of the Go library that the row lists as they are laid. -/
import Derived.Test.YtllmkadmohkbfaaGreatDoorYSymT
namespace Go.Proofs.YtllmkadmohkbfaaGreatDoor.Sym
open Go Go.RowKit
def xY(P:Program)(T:j0)(n:Nat)(ops:Array Oper)(hs:List Hint)(U:List Nat):List Nat→St→Option (St×List (List Prop))
 |[],s=>some (s,[])
 |i::l,s=>bif U.contains i then xY P T n ops hs U l s else match ops[i]? with
  |some o=>match stepG P T n ops o (hs.getD i .none) s with
   |some (s1,ob)=>match xY P T n ops hs U l s1 with
    |some (s2,obs)=>some (s2,ob::obs)
    |none=>none
   |none=>none
  |none=>none
abbrev NF:=List (Option EV)×List (Option SC)
def nf(ts rs:List Nat)(s:St):Option NF :=
 bif s.env.all (fun x=>ts.contains x.1)&&s.aG.all (fun x=>rs.contains x.1) then some (ts.map s.env.get,rs.map s.aG.dR) else none
def MM:List Nat→Nat→Nat
 |[],_=>0
 |x::r,i=>bif Nat.beq x i then 0 else MM r i+1
def Hj(P:Program)(T:j0)(n:Nat)(ops:Array Oper)(hs:List Hint)(al ts rs:List Nat)(s:St)(x:List Nat×Nat):Nat×NF×List Prop :=
 match xY P T n ops hs x.1 al s with
 |some (sU,_)=>match ops[x.2]? with
  |some o=>match stepG P T n ops o (hs.getD x.2 .none) sU with
   |some (s',ob)=>match nf ts rs s' with
    |some y=>(1,y,ob)
    |none=>(0,([],[]),[])
   |none=>(0,([],[]),[])
  |none=>(0,([],[]),[])
 |none=>(0,([],[]),[])
def Hk(P:Program)(T:j0)(n:Nat)(ops:Array Oper)(hs:List Hint)(al ts rs:List Nat)(s:St)(can:List (List Prop))(x:List Nat×Nat):Nat×NF×List Prop :=
 match xY P T n ops hs (Eo x.1 x.2) al s with
 |some (SV,_)=>match nf ts rs SV with
  |some y=>(1,y,can.getD (MM al x.2) [])
  |none=>(2,([],[]),[])
 |none=>(2,([],[]),[])
def xm(ops:Array Oper)(Us:List (List Nat)):List (List Nat×Nat) :=
 Us.flatMap fun U=>(U.filter fun i=>(ig ops i).all fun e => !(U.contains e)).map fun i=>(U,i)
def Hl(ops:Array Oper)(s:St):List Nat:=s.env.map (·.1)++ops.toList.filterMap (·.dst)
def Hm(ops:Array Oper)(s:St):List Nat:=s.aG.map (·.1)++(ops.toList.filterMap (·.dst)++[999999])
def MN{α β:Type}(f:α→β):List α→List β
 |[]=>[]
 |x::l=>f x::MN f l
theorem Hn{α β:Type}(f:α→β):∀l:List α,MN f l=l.map f
 |[]=>rfl
 |x::l=>by rw[MN,Hn f l,List.map_cons]
def N3(P:Program)(T:j0)(n:Nat)(ops:Array Oper)(hs:List Hint)(al:List Nat)(s:St):List (List Prop) :=
 match xY P T n ops hs [] al s with
 |some (_,can)=>can
 |none=>[]
def wA(P:Program)(T:j0)(n:Nat)(ops:Array Oper)(al:List Nat)(Us:List (List Nat))(hs:List Hint)(s:St):List (Nat×NF×List Prop) :=
 (xm ops Us).map (Hj P T n ops hs al (Hl ops s) (Hm ops s) s)
def wB(P:Program)(T:j0)(n:Nat)(ops:Array Oper)(al:List Nat)(Us:List (List Nat))(hs:List Hint)(s:St):List (Nat×NF×List Prop) :=
 MN (Hk P T n ops hs al (Hl ops s) (Hm ops s) s (N3 P T n ops hs al s)) (xm ops Us)
def lvl(ops:Array Oper)(l:List (List Nat)):List (List Nat) :=
 (l.flatMap fun U=>(U.filter fun i=>(ig ops i).all fun e => !(U.contains e)).map (Eo U)).eraseDups
def lvls(ops:Array Oper):Nat→List (List Nat)→List (List Nat)
 |0,l=>l
 |n+1,l=>l++lvls ops n (lvl ops l)
def mf(ops:Array Oper)(fl:List Nat):List Nat:=(List.range ops.size).filter fun i => !(fl.contains i)
def jN(ops:Array Oper)(fl:List Nat):List (List Nat):=lvls ops ops.size [mf ops fl]
def BF(T:j0)(n:Nat)(ops:Array Oper)(fl:List Nat)(s:St):St:=(wz T n ops fl (Array.replicate ops.size false) s).getD s
def CM(P:Program)(T:j0)(n:Nat)(ops:Array Oper)(fl:List Nat)(al:List Nat)(Us:List (List Nat))(hs:List Hint)(s:St):Option (St×List Prop) :=
 bif Us.contains al&&(xm ops Us).all (fun x=>Us.contains (Eo x.1 x.2))&&fwd ops [] (List.range ops.size)&&Region.noSelect ops&&(List.range ops.size).all (fun i=>(ig ops i).all fun e=>Nat.blt e ops.size)&&wy fl&&fl.all (fun i=>Nat.blt i ops.size) then
  match wz T n ops fl (Array.replicate ops.size false) s with
  |some s0=>match xY P T n ops hs [] al s0 with
   |some (s',can)=>some (s',can.flatten++[wA P T n ops al Us hs s0=wB P T n ops al Us hs s0])
   |none=>none
  |none=>none
 else none
section
variable {P:Program} {T:j0} {Γ:Ctx} {s s':St} {a:Act} {w:World} {ops:Array Oper} {Q:Exit→Act→World→Prop}
theorem Ho:∀(can:List (List Prop)) (i:Nat),dA can.flatten→dA (can.getD i [])
 |[],i,_=>by simp[dA]
 |c::can,0,h=>by
  rw[List.flatten_cons] at h
  exact(dA.app h).1
 |c::can,i+1,h=>by
  rw[List.flatten_cons] at h
  have:=Ho can i (dA.app h).2
  simpa using this
theorem Env.CN:∀{env:Env} {t:Nat} {e:EV},env.get t=some e→∃x∈env,x.1=t
 |[],t,e,h=>by simp[Env.get] at h
 |(t',e')::r,t,e,h=>by
  simp only[Env.get] at h
  cases hb:Nat.beq t' t with
  |true=>exact⟨(t',e'),by simp,Nat.eq_of_beq_eq_true hb⟩
  |false =>
   simp only[hb,cond_false] at h
   obtain⟨x,hx,Rx⟩:=Env.CN h
   exact⟨x,by simp[hx],Rx⟩
theorem aS.zG:∀{aG:aS} {t:Nat} {e:SC},aG.dR t=some e→∃x∈aG,x.1=t
 |[],t,e,h=>by simp[aS.dR] at h
 |(t',e')::r,t,e,h=>by
  simp only[aS.dR] at h
  cases hb:Nat.beq t' t with
  |true=>exact⟨(t',e'),by simp,Nat.eq_of_beq_eq_true hb⟩
  |false =>
   simp only[hb,cond_false] at h
   obtain⟨x,hx,Rx⟩:=aS.zG h
   exact⟨x,by simp[hx],Rx⟩
theorem CO{α β:Type}{f g:α→β} : ∀{l:List α},l.map f=l.map g→∀x∈l,f x=g x
 |[],_,x,hx=>by cases hx
 |y::l,h,x,hx=>by
  rw[List.map_cons,List.map_cons] at h
  injection h with h1 h2
  rcases List.mem_cons.1 hx with rfl|hx
  ·exact h1
  ·exact CO h2 x hx
theorem Hp{ts rs:List Nat}{s:St}{y:NF}(h:nf ts rs s=some y):(∀x∈s.env,x.1∈ts)∧(∀x∈s.aG,x.1∈rs)∧y=(ts.map s.env.get,rs.map s.aG.dR):=by
 unfold nf at h
 cases hb:(s.env.all (fun x=>ts.contains x.1)&&s.aG.all (fun x=>rs.contains x.1)) with
 |false=>rw[hb] at h;cases h
 |true =>
  simp only[hb,cond_true] at h
  injection h with h
  rw[Bool.and_eq_true,List.all_eq_true,List.all_eq_true] at hb
  exact⟨fun x hx=>by simpa using hb.1 x hx,fun x hx=>by simpa using hb.2 x hx,h.symm⟩
theorem MO{ts rs:List Nat}{s1 s2:St}{y:NF}(h1:nf ts rs s1=some y)(h2:nf ts rs s2=some y):Mw s1 s2:=by
 obtain⟨a1,b1,e1⟩:=Hp h1
 obtain⟨a2,b2,e2⟩:=Hp h2
 rw[e1] at e2
 injection e2 with q1 q2
 refine⟨fun t => ?_,fun r => ?_⟩
 ·by_cases ht:t∈ts
  ·exact(CO q1 t ht).symm
  ·cases g1:s1.env.get t with
   |some e=>obtain⟨x,hx,rfl⟩:=Env.CN g1;exact absurd (a1 x hx) ht
   |none =>
    cases g2:s2.env.get t with
    |some e=>obtain⟨x,hx,rfl⟩:=Env.CN g2;exact absurd (a2 x hx) ht
    |none=>rfl
 ·have key:∀r,s2.aG.dR r=s1.aG.dR r:=fun r=>by
   by_cases ht:r∈rs
   ·exact(CO q2 r ht).symm
   ·cases g1:s1.aG.dR r with
    |some e=>obtain⟨x,hx,rfl⟩:=aS.zG g1;exact absurd (b1 x hx) ht
    |none =>
     cases g2:s2.aG.dR r with
     |some e=>obtain⟨x,hx,rfl⟩:=aS.zG g2;exact absurd (b2 x hx) ht
     |none=>rfl
  unfold aS.get aS.hp
  rw[key,key]
theorem ID{n:Nat}{hs:List Hint}{al ts rs:List Nat}{can:List (List Prop)}{U:List Nat}{i:Nat}(h:Hj P T n ops hs al ts rs s (U,i)=Hk P T n ops hs al ts rs s can (U,i))
  {sU:St} {oU:List (List Prop)} (hU:xY P T n ops hs U al s=some (sU,oU)) :
  ∃o s1 s2 o2,ops[i]? = some o∧stepG P T n ops o (hs.getD i .none) sU=some (s1,can.getD (MM al i) [])∧xY P T n ops hs (Eo U i) al s=some (s2,o2)∧Mw s1 s2:=by
 unfold Hj Hk at h
 simp only[hU] at h
 have hr:∀(ob:List Prop) (y:NF),((0:Nat),(([],[]):NF),([]:List Prop))≠(1,y,ob):=fun ob y e=>by injection e with e;cases e
 cases h2:xY P T n ops hs (Eo U i) al s with
 |none =>
  simp only[h2] at h
  exfalso
  split at h
  ·split at h
   ·split at h
    ·injection h with e;cases e
    ·injection h with e;cases e
   ·injection h with e;cases e
  ·injection h with e;cases e
 |some p =>
  obtain⟨s2,o2⟩:=p
  simp only[h2] at h
  cases h3:nf ts rs s2 with
  |none =>
   simp only[h3] at h
   exfalso
   split at h
   ·split at h
    ·split at h
     ·injection h with e;cases e
     ·injection h with e;cases e
    ·injection h with e;cases e
   ·injection h with e;cases e
  |some y2 =>
   simp only[h3] at h
   split at h
   ·rename_i o ho
    split at h
    ·rename_i s1 ob aI
     split at h
     ·rename_i y hy
      injection h with _ h;injection h with e1 e2
      subst e1;subst e2
      exact⟨o,s1,s2,o2,ho,aI,rfl,MO hy h3⟩
     ·injection h with e;cases e
    ·injection h with e;cases e
   ·injection h with e;cases e
theorem J8{fl:List Nat}{i:Nat} : i∈mf ops fl↔i<ops.size∧i ∉ fl:=by
 unfold mf
 rw[List.mem_filter,List.mem_range]
 simp
theorem Bc(hm:P.follows .mixedOrders=true)(hT:mC P T)(hs:∀r,bM Γ.sin r→Γ.n≤r)(hQ:∀c a w d v,Q (.panic c) (Act.put a d v) w→Q (.panic c) a w){id:Nat}{fl:List Nat}{Us:List (List Nat)}{hints:List Hint}{ob:List Prop}(hr:Rel Γ s a w)
  (aI:CM P T Γ.n ops fl (mf ops fl) Us hints s=some (s',ob)) (cb:dA ob) (hk:∀a' w',Rel Γ s' a' w'→Q .normal a' w'):(Code.region id ops true).wp P Q a w:=by
 refine wp_region_any hm ?_
 unfold CM at aI
 generalize J9:mf ops fl=al at aI
 cases sl:(Us.contains al&&(xm ops Us).all (fun x=>Us.contains (Eo x.1 x.2))&&fwd ops [] (List.range ops.size)&&Region.noSelect ops&&(List.range ops.size).all (fun i=>(ig ops i).all fun e=>Nat.blt e ops.size)&&wy fl&&fl.all (fun i=>Nat.blt i ops.size)) with
 |false=>rw[sl] at aI;cases aI
 |true =>
  simp only[sl,cond_true] at aI
  split at aI
  ·rename_i s0 DM
   split at aI
   ·rename_i s1 can Ry
    injection aI with aI;injection aI with e1 e2
    subst e1;subst e2
    obtain⟨g1,g2⟩:=cb.app
    have g2:wA P T Γ.n ops al Us hints s0=wB P T Γ.n ops al Us hints s0:=g2
    unfold wA wB N3 at g2
    rw[Ry,Hn] at g2
    have g2:(xm ops Us).map (Hj P T Γ.n ops hints al (Hl ops s0) (Hm ops s0) s0)=(xm ops Us).map (Hk P T Γ.n ops hints al (Hl ops s0) (Hm ops s0) s0 can):=g2
    simp only[Bool.and_eq_true,List.all_eq_true] at sl
    obtain⟨⟨⟨⟨⟨⟨c1,c2⟩,c3⟩,c4⟩,c5⟩,c6⟩,c7⟩:=sl
    have Rz:al∈Us:=by simpa using c1
    have Et:∀i,i∈al↔i<ops.size∧i ∉ fl:=fun i=>by rw[←J9];exact J8
    have BE:∀i,i<ops.size→∀e∈ig ops i,e<ops.size:=fun i hi e he=>Nat.le_of_ble_eq_true (c5 i (by simpa using hi) e he)
    have main:∀(fuel:Nat) (U:List Nat) (listed:Array Bool) (a:Act) (w:World) (sU:St) (oU:List (List Prop)),U.length=fuel→U∈Us→U.Nodup→(∀i∈U,i<ops.size)→JZ ops listed U →
      xY P T Γ.n ops hints U al s0=some (sU,oU)→Rel Γ sU a w→wpAny P .any ops Q fuel listed a w:=by
     intro fuel
     induction fuel with
     |zero =>
      intro U listed a w sU oU hlen _ _ _ hl hU jD
      have:U=[]:=List.eq_nil_of_length_eq_zero hlen
      subst this
      rw[Ry] at hU
      injection hU with hU;injection hU with e1 _
      subst e1
      refine⟨?_,hk a w jD⟩
      apply List.eq_nil_iff_forall_not_mem.2
      intro i hi
      have bh:i<ops.size:=by
       rw[mem_ready] at hi
       obtain⟨_,o,ho,_⟩:=hi
       exact(Array.getElem?_eq_some_iff.1 ho).1
      have:=(ji hl (BE i bh)).1 hi
      simp at this
     |succ fuel ih =>
      intro U listed a w sU oU hlen XE hn bh hl hU jD
      refine⟨fun Cy => ?_,fun i hi => ?_⟩
      ·have df:∃i,i∈List.range ops.size∧i∈U:=by
        cases U with
        |nil=>cases hlen
        |cons j U=>exact⟨j,by simpa using bh j (by simp),by simp⟩
       obtain⟨j,_,Ec,Ub⟩:=wv ops U (List.range ops.size) [] c3 (fun e he=>by cases he) df
       have:j∈Region.ready .any ops listed:=(ji hl (BE j (bh j Ec))).2 ⟨bh j Ec,Ec,Ub⟩
       rw[Cy] at this;cases this
      ·have V9:i<ops.size:=by
        have hi':=hi
        rw[mem_ready] at hi'
        obtain⟨_,o,ho,_⟩:=hi'
        exact(Array.getElem?_eq_some_iff.1 ho).1
       obtain⟨_,Ji,nk⟩:=(ji hl (BE i V9)).1 hi
       have Et:(U,i)∈xm ops Us:=by
        unfold xm
        refine List.mem_flatMap.2 ⟨U,XE,List.mem_map.2 ⟨i,List.mem_filter.2 ⟨Ji,?_⟩,rfl⟩⟩
        rw[List.all_eq_true]
        intro e he
        simpa using nk e he
       obtain⟨o,YP,s2,o2,ho,Hq,RA,J6⟩:=ID (CO g2 (U,i) Et) hU
       unfold wpOp
       rw[ho]
       refine rr hT hs jD Hq (Ho can (MM al i) g1) (fun a' w' dG => ?_)
       have XF:Eo U i∈Us:=by simpa using c2 (U,i) Et
       exact ih (Eo U i) _ a' w' s2 o2 (by have:=Hf hn Ji;omega) XF (List.Pairwise.filter _ hn) (fun j hj=>bh j (mT.1 hj).1) (hl.set V9) RA (Rel.Mx J6 dG)
    have dG:Rel Γ s a w.drew:=by
     obtain⟨β,I,hr⟩:=hr
     exact⟨β,I,hr.grow ((AY.refl _ _).drew) (fun b h=>h) (fun b h => .inl h)⟩
    have h0:∀(l:List Nat) (U:List Nat),(∀i∈l,i∈U)→xY P T Γ.n ops hints U l s0=some (s0,[]):=by
     intro l
     induction l with
     |nil=>intro U _;rfl
     |cons i l ih =>
      intro U h
      unfold xY
      have:U.contains i=true:=by simpa using h i (by simp)
      rw[this]
      exact ih U (fun j hj=>h j (by simp[hj]))
    have Wa:fl.Nodup:=rA c6
    have Wb:al.Nodup:=by rw[←J9];exact List.Pairwise.filter _ List.nodup_range
    have O7:∀i∈fl,i<ops.size:=fun i hi=>Nat.le_of_ble_eq_true (c7 i hi)
    have J7:∀i∈fl,i ∉ al:=fun i hi h=>((Et i).1 h).2 hi
    have hlen:fl.length+al.length=ops.size:=by
     have T3:(fl++al).Nodup:=List.nodup_append.2 ⟨Wa,Wb,fun i hi j hj e=>J7 i hi (e ▸ hj)⟩
     have h1:=List.Nodup.length_le_of_subset (l₁:=fl++al) (l₂:=List.range ops.size) T3 (fun j hj=>by
      rw[List.mem_range]
      rcases List.mem_append.1 hj with h|h
      ·exact O7 j h
      ·exact((Et j).1 h).1)
     have h2:=List.Nodup.length_le_of_subset (l₁:=List.range ops.size) (l₂:=fl++al) List.nodup_range (fun j hj=>by
      rw[List.mem_range] at hj
      rw[List.mem_append]
      by_cases h:j∈fl
      ·exact .inl h
      ·exact .inr ((Et j).2 ⟨hj,h⟩))
     rw[List.length_append,List.length_range] at h1 h2
     omega
    have key:=tT (Q:=Q) (s0:=s0) (rest:=al.length) hT c4 hQ al (fun listed a w hl jD =>
     main al.length al listed a w s0 [] rfl Rz Wb (fun i hi=>((Et i).1 hi).1) hl (h0 _ _ (fun i hi=>hi)) jD)
     fl (fl++al) (Array.replicate ops.size false) s a w.drew (fun j=>by rw[List.mem_append];exact Or.comm) J7 Wa O7
     ⟨by simp,fun j hj=>by
      constructor
      ·intro h
       have hf:(Array.replicate ops.size false).getD j false=false:=by simp[Array.getD_eq_getD_getElem?,hj]
       rw[hf] at h;cases h
      ·intro h
       refine absurd ?_ h
       rw[List.mem_append]
       by_cases hf:j∈fl
       ·exact .inl hf
       ·exact .inr ((Et j).2 ⟨hj,hf⟩)⟩ dG DM
    rw[hlen] at key
    exact key
   ·cases aI
  ·cases aI
end
end Go.Proofs.YtllmkadmohkbfaaGreatDoor.Sym
