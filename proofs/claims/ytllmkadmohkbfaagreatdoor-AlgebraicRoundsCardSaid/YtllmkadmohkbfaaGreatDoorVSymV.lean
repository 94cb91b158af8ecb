/- Lemmas for the statements of this seat. -/
import Derived.Test.YtllmkadmohkbfaaGreatDoorVSymT
namespace Go.Proofs.YtllmkadmohkbfaaGreatDoor.Sym
open Go Go.RowKit
def zN(P:Program)(T:kL)(n:Nat)(ops:Array Oper)(hs:List Hint)(U:List Nat):List Nat→St→Option (St×List (List Prop))
 |[],s=>some (s,[])
 |i::l,s=>bif U.contains i then zN P T n ops hs U l s else match ops[i]? with
  |some o=>match stepG P T n ops o (hs.getD i .none) s with
   |some (s1,ob)=>match zN P T n ops hs U l s1 with
    |some (s2,obs)=>some (s2,ob::obs)
    |none=>none
   |none=>none
  |none=>none
abbrev NF:=List (Option EV)×List (Option SC)
def nf(ts rs:List Nat)(s:St):Option NF :=
 bif s.env.all (fun x=>ts.contains x.1)&&s.aG.all (fun x=>rs.contains x.1) then some (ts.map s.env.get,rs.map s.aG.eE) else none
def OL:List Nat→Nat→Nat
 |[],_=>0
 |x::r,i=>bif Nat.beq x i then 0 else OL r i+1
def Ji(P:Program)(T:kL)(n:Nat)(ops:Array Oper)(hs:List Hint)(al ts rs:List Nat)(s:St)(x:List Nat×Nat):Nat×NF×List Prop :=
 match zN P T n ops hs x.1 al s with
 |some (sU,_)=>match ops[x.2]? with
  |some o=>match stepG P T n ops o (hs.getD x.2 .none) sU with
   |some (s',ob)=>match nf ts rs s' with
    |some y=>(1,y,ob)
    |none=>(0,([],[]),[])
   |none=>(0,([],[]),[])
  |none=>(0,([],[]),[])
 |none=>(0,([],[]),[])
def Jj(P:Program)(T:kL)(n:Nat)(ops:Array Oper)(hs:List Hint)(al ts rs:List Nat)(s:St)(can:List (List Prop))(x:List Nat×Nat):Nat×NF×List Prop :=
 match zN P T n ops hs (FX x.1 x.2) al s with
 |some (U4,_)=>match nf ts rs U4 with
  |some y=>(1,y,can.getD (OL al x.2) [])
  |none=>(2,([],[]),[])
 |none=>(2,([],[]),[])
def yQ(ops:Array Oper)(Us:List (List Nat)):List (List Nat×Nat) :=
 Us.flatMap fun U=>(U.filter fun i=>(jc ops i).all fun e => !(U.contains e)).map fun i=>(U,i)
def Jk(ops:Array Oper)(s:St):List Nat:=s.env.map (·.1)++ops.toList.filterMap (·.dst)
def Jl(ops:Array Oper)(s:St):List Nat:=s.aG.map (·.1)++(ops.toList.filterMap (·.dst)++[999999])
def OM{α β:Type}(f:α→β):List α→List β
 |[]=>[]
 |x::l=>f x::OM f l
theorem Jm{α β:Type}(f:α→β):∀l:List α,OM f l=l.map f
 |[]=>rfl
 |x::l=>by rw[OM,Jm f l,List.map_cons]
def P0(P:Program)(T:kL)(n:Nat)(ops:Array Oper)(hs:List Hint)(al:List Nat)(s:St):List (List Prop) :=
 match zN P T n ops hs [] al s with
 |some (_,can)=>can
 |none=>[]
def xZ(P:Program)(T:kL)(n:Nat)(ops:Array Oper)(al:List Nat)(Us:List (List Nat))(hs:List Hint)(s:St):List (Nat×NF×List Prop) :=
 (yQ ops Us).map (Ji P T n ops hs al (Jk ops s) (Jl ops s) s)
def x5(P:Program)(T:kL)(n:Nat)(ops:Array Oper)(al:List Nat)(Us:List (List Nat))(hs:List Hint)(s:St):List (Nat×NF×List Prop) :=
 OM (Jj P T n ops hs al (Jk ops s) (Jl ops s) s (P0 P T n ops hs al s)) (yQ ops Us)
def lvl(ops:Array Oper)(l:List (List Nat)):List (List Nat) :=
 (l.flatMap fun U=>(U.filter fun i=>(jc ops i).all fun e => !(U.contains e)).map (FX U)).eraseDups
def lvls(ops:Array Oper):Nat→List (List Nat)→List (List Nat)
 |0,l=>l
 |n+1,l=>l++lvls ops n (lvl ops l)
def np(ops:Array Oper)(fl:List Nat):List Nat:=(List.range ops.size).filter fun i => !(fl.contains i)
def ky(ops:Array Oper)(fl:List Nat):List (List Nat):=lvls ops ops.size [np ops fl]
def Dd(T:kL)(n:Nat)(ops:Array Oper)(fl:List Nat)(s:St):St:=(xY T n ops fl (Array.replicate ops.size false) s).getD s
def Ei(P:Program)(T:kL)(n:Nat)(ops:Array Oper)(fl:List Nat)(al:List Nat)(Us:List (List Nat))(hs:List Hint)(s:St):Option (St×List Prop) :=
 bif Us.contains al&&(yQ ops Us).all (fun x=>Us.contains (FX x.1 x.2))&&fwd ops [] (List.range ops.size)&&Region.noSelect ops&&(List.range ops.size).all (fun i=>(jc ops i).all fun e=>Nat.blt e ops.size)&&xX fl&&fl.all (fun i=>Nat.blt i ops.size) then
  match xY T n ops fl (Array.replicate ops.size false) s with
  |some s0=>match zN P T n ops hs [] al s0 with
   |some (s',can)=>some (s',can.flatten++[xZ P T n ops al Us hs s0=x5 P T n ops al Us hs s0])
   |none=>none
  |none=>none
 else none
section
variable {P:Program} {T:kL} {Γ:Ctx} {s s':St} {a:Act} {w:World} {ops:Array Oper} {Q:Exit→Act→World→Prop}
theorem Jn:∀(can:List (List Prop)) (i:Nat),dP can.flatten→dP (can.getD i [])
 |[],i,_=>by simp[dP]
 |c::can,0,h=>by
  rw[List.flatten_cons] at h
  exact(dP.app h).1
 |c::can,i+1,h=>by
  rw[List.flatten_cons] at h
  have:=Jn can i (dP.app h).2
  simpa using this
theorem Env.Ej:∀{env:Env} {t:Nat} {e:EV},env.get t=some e→∃x∈env,x.1=t
 |[],t,e,h=>by simp[Env.get] at h
 |(t',e')::r,t,e,h=>by
  simp only[Env.get] at h
  cases hb:Nat.beq t' t with
  |true=>exact⟨(t',e'),by simp,Nat.eq_of_beq_eq_true hb⟩
  |false =>
   simp only[hb,cond_false] at h
   obtain⟨x,hx,TB⟩:=Env.Ej h
   exact⟨x,by simp[hx],TB⟩
theorem aS.Bl:∀{aG:aS} {t:Nat} {e:SC},aG.eE t=some e→∃x∈aG,x.1=t
 |[],t,e,h=>by simp[aS.eE] at h
 |(t',e')::r,t,e,h=>by
  simp only[aS.eE] at h
  cases hb:Nat.beq t' t with
  |true=>exact⟨(t',e'),by simp,Nat.eq_of_beq_eq_true hb⟩
  |false =>
   simp only[hb,cond_false] at h
   obtain⟨x,hx,TB⟩:=aS.Bl h
   exact⟨x,by simp[hx],TB⟩
theorem Ek{α β:Type}{f g:α→β} : ∀{l:List α},l.map f=l.map g→∀x∈l,f x=g x
 |[],_,x,hx=>by cases hx
 |y::l,h,x,hx=>by
  rw[List.map_cons,List.map_cons] at h
  injection h with h1 h2
  rcases List.mem_cons.1 hx with rfl|hx
  ·exact h1
  ·exact Ek h2 x hx
theorem Jo{ts rs:List Nat}{s:St}{y:NF}(h:nf ts rs s=some y):(∀x∈s.env,x.1∈ts)∧(∀x∈s.aG,x.1∈rs)∧y=(ts.map s.env.get,rs.map s.aG.eE):=by
 unfold nf at h
 cases hb:(s.env.all (fun x=>ts.contains x.1)&&s.aG.all (fun x=>rs.contains x.1)) with
 |false=>rw[hb] at h;cases h
 |true =>
  simp only[hb,cond_true] at h
  injection h with h
  rw[Bool.and_eq_true,List.all_eq_true,List.all_eq_true] at hb
  exact⟨fun x hx=>by simpa using hb.1 x hx,fun x hx=>by simpa using hb.2 x hx,h.symm⟩
theorem ON{ts rs:List Nat}{s1 s2:St}{y:NF}(h1:nf ts rs s1=some y)(h2:nf ts rs s2=some y):Ow s1 s2:=by
 obtain⟨a1,b1,e1⟩:=Jo h1
 obtain⟨a2,b2,e2⟩:=Jo h2
 rw[e1] at e2
 injection e2 with q1 q2
 refine⟨fun t => ?_,fun r => ?_⟩
 ·by_cases ht:t∈ts
  ·exact(Ek q1 t ht).symm
  ·cases g1:s1.env.get t with
   |some e=>obtain⟨x,hx,rfl⟩:=Env.Ej g1;exact absurd (a1 x hx) ht
   |none =>
    cases g2:s2.env.get t with
    |some e=>obtain⟨x,hx,rfl⟩:=Env.Ej g2;exact absurd (a2 x hx) ht
    |none=>rfl
 ·have key:∀r,s2.aG.eE r=s1.aG.eE r:=fun r=>by
   by_cases ht:r∈rs
   ·exact(Ek q2 r ht).symm
   ·cases g1:s1.aG.eE r with
    |some e=>obtain⟨x,hx,rfl⟩:=aS.Bl g1;exact absurd (b1 x hx) ht
    |none =>
     cases g2:s2.aG.eE r with
     |some e=>obtain⟨x,hx,rfl⟩:=aS.Bl g2;exact absurd (b2 x hx) ht
     |none=>rfl
  unfold aS.get aS.hp
  rw[key,key]
theorem KE{n:Nat}{hs:List Hint}{al ts rs:List Nat}{can:List (List Prop)}{U:List Nat}{i:Nat}(h:Ji P T n ops hs al ts rs s (U,i)=Jj P T n ops hs al ts rs s can (U,i))
  {sU:St} {oU:List (List Prop)} (hU:zN P T n ops hs U al s=some (sU,oU)) :
  ∃o s1 s2 o2,ops[i]? = some o∧stepG P T n ops o (hs.getD i .none) sU=some (s1,can.getD (OL al i) [])∧zN P T n ops hs (FX U i) al s=some (s2,o2)∧Ow s1 s2:=by
 unfold Ji Jj at h
 simp only[hU] at h
 have hr:∀(ob:List Prop) (y:NF),((0:Nat),(([],[]):NF),([]:List Prop))≠(1,y,ob):=fun ob y e=>by injection e with e;cases e
 cases h2:zN P T n ops hs (FX U i) al s with
 |none =>
  simp only[h2] at h
  exfalso
  split at h
  ·split at h
   ·split at h
    ·injection h with e;cases e
    ·injection h with e;cases e
   ·injection h with e;cases e
  ·injection h with e;cases e
 |some p =>
  obtain⟨s2,o2⟩:=p
  simp only[h2] at h
  cases h3:nf ts rs s2 with
  |none =>
   simp only[h3] at h
   exfalso
   split at h
   ·split at h
    ·split at h
     ·injection h with e;cases e
     ·injection h with e;cases e
    ·injection h with e;cases e
   ·injection h with e;cases e
  |some y2 =>
   simp only[h3] at h
   split at h
   ·rename_i o ho
    split at h
    ·rename_i s1 ob aI
     split at h
     ·rename_i y hy
      injection h with _ h;injection h with e1 e2
      subst e1;subst e2
      exact⟨o,s1,s2,o2,ho,aI,rfl,ON hy h3⟩
     ·injection h with e;cases e
    ·injection h with e;cases e
   ·injection h with e;cases e
theorem Mf{fl:List Nat}{i:Nat} : i∈np ops fl↔i<ops.size∧i ∉ fl:=by
 unfold np
 rw[List.mem_filter,List.mem_range]
 simp
theorem CL(hm:P.follows .mixedOrders=true)(hT:nM P T)(hs:∀r,bS Γ.sin r→Γ.n≤r)(hQ:∀c a w d v,Q (.panic c) (Act.put a d v) w→Q (.panic c) a w){id:Nat}{fl:List Nat}{Us:List (List Nat)}{hints:List Hint}{ob:List Prop}(hr:Rel Γ s a w)
  (aI:Ei P T Γ.n ops fl (np ops fl) Us hints s=some (s',ob)) (cr:dP ob) (hk:∀a' w',Rel Γ s' a' w'→Q .normal a' w'):(Code.region id ops true).wp P Q a w:=by
 refine wp_region_any hm ?_
 unfold Ei at aI
 generalize Mg:np ops fl=al at aI
 cases tV:(Us.contains al&&(yQ ops Us).all (fun x=>Us.contains (FX x.1 x.2))&&fwd ops [] (List.range ops.size)&&Region.noSelect ops&&(List.range ops.size).all (fun i=>(jc ops i).all fun e=>Nat.blt e ops.size)&&xX fl&&fl.all (fun i=>Nat.blt i ops.size)) with
 |false=>rw[tV] at aI;cases aI
 |true =>
  simp only[tV,cond_true] at aI
  split at aI
  ·rename_i s0 Ff
   split at aI
   ·rename_i s1 can TC
    injection aI with aI;injection aI with e1 e2
    subst e1;subst e2
    obtain⟨g1,g2⟩:=cr.app
    have g2:xZ P T Γ.n ops al Us hints s0=x5 P T Γ.n ops al Us hints s0:=g2
    unfold xZ x5 P0 at g2
    rw[TC,Jm] at g2
    have g2:(yQ ops Us).map (Ji P T Γ.n ops hints al (Jk ops s0) (Jl ops s0) s0)=(yQ ops Us).map (Jj P T Γ.n ops hints al (Jk ops s0) (Jl ops s0) s0 can):=g2
    simp only[Bool.and_eq_true,List.all_eq_true] at tV
    obtain⟨⟨⟨⟨⟨⟨c1,c2⟩,c3⟩,c4⟩,c5⟩,c6⟩,c7⟩:=tV
    have TF:al∈Us:=by simpa using c1
    have F4:∀i,i∈al↔i<ops.size∧i ∉ fl:=fun i=>by rw[←Mg];exact Mf
    have Dc:∀i,i<ops.size→∀e∈jc ops i,e<ops.size:=fun i hi e he=>Nat.le_of_ble_eq_true (c5 i (by simpa using hi) e he)
    have main:∀(fuel:Nat) (U:List Nat) (listed:Array Bool) (a:Act) (w:World) (sU:St) (oU:List (List Prop)),U.length=fuel→U∈Us→U.Nodup→(∀i∈U,i<ops.size)→L6 ops listed U →
      zN P T Γ.n ops hints U al s0=some (sU,oU)→Rel Γ sU a w→wpAny P .any ops Q fuel listed a w:=by
     intro fuel
     induction fuel with
     |zero =>
      intro U listed a w sU oU hlen _ _ _ hl hU kl
      have:U=[]:=List.eq_nil_of_length_eq_zero hlen
      subst this
      rw[TC] at hU
      injection hU with hU;injection hU with e1 _
      subst e1
      refine⟨?_,hk a w kl⟩
      apply List.eq_nil_iff_forall_not_mem.2
      intro i hi
      have ba:i<ops.size:=by
       rw[mem_ready] at hi
       obtain⟨_,o,ho,_⟩:=hi
       exact(Array.getElem?_eq_some_iff.1 ho).1
      have:=(jW hl (Dc i ba)).1 hi
      simp at this
     |succ fuel ih =>
      intro U listed a w sU oU hlen ZP hn ba hl hU kl
      refine⟨fun D5 => ?_,fun i hi => ?_⟩
      ·have di:∃i,i∈List.range ops.size∧i∈U:=by
        cases U with
        |nil=>cases hlen
        |cons j U=>exact⟨j,by simpa using ba j (by simp),by simp⟩
       obtain⟨j,_,FL,Wm⟩:=xW ops U (List.range ops.size) [] c3 (fun e he=>by cases he) di
       have:j∈Region.ready .any ops listed:=(jW hl (Dc j (ba j FL))).2 ⟨ba j FL,FL,Wm⟩
       rw[D5] at this;cases this
      ·have Yk:i<ops.size:=by
        have hi':=hi
        rw[mem_ready] at hi'
        obtain⟨_,o,ho,_⟩:=hi'
        exact(Array.getElem?_eq_some_iff.1 ho).1
       obtain⟨_,Lj,oB⟩:=(jW hl (Dc i Yk)).1 hi
       have F4:(U,i)∈yQ ops Us:=by
        unfold yQ
        refine List.mem_flatMap.2 ⟨U,ZP,List.mem_map.2 ⟨i,List.mem_filter.2 ⟨Lj,?_⟩,rfl⟩⟩
        rw[List.all_eq_true]
        intro e he
        simpa using oB e he
       obtain⟨o,s1',s2,o2,ho,Jp,TG,Md⟩:=KE (Ek g2 (U,i) F4) hU
       unfold wpOp
       rw[ho]
       refine tf hT hs kl Jp (Jn can (OL al i) g1) (fun a' w' eb => ?_)
       have ZQ:FX U i∈Us:=by simpa using c2 (U,i) F4
       exact ih (FX U i) _ a' w' s2 o2 (by have:=Je hn Lj;omega) ZQ (List.Pairwise.filter _ hn) (fun j hj=>ba j (og.1 hj).1) (hl.set Yk) TG (Rel.Ox Md eb)
    have eb:Rel Γ s a w.drew:=by
     obtain⟨β,I,hr⟩:=hr
     exact⟨β,I,hr.grow ((Cy.refl _ _).drew) (fun b h=>h) (fun b h => .inl h)⟩
    have h0:∀(l:List Nat) (U:List Nat),(∀i∈l,i∈U)→zN P T Γ.n ops hints U l s0=some (s0,[]):=by
     intro l
     induction l with
     |nil=>intro U _;rfl
     |cons i l ih =>
      intro U h
      unfold zN
      have:U.contains i=true:=by simpa using h i (by simp)
      rw[this]
      exact ih U (fun j hj=>h j (by simp[hj]))
    have Yl:fl.Nodup:=tj c6
    have Ym:al.Nodup:=by rw[←Mg];exact List.Pairwise.filter _ List.nodup_range
    have Rb:∀i∈fl,i<ops.size:=fun i hi=>Nat.le_of_ble_eq_true (c7 i hi)
    have Me:∀i∈fl,i ∉ al:=fun i hi h=>((F4 i).1 h).2 hi
    have hlen:fl.length+al.length=ops.size:=by
     have We:(fl++al).Nodup:=List.nodup_append.2 ⟨Yl,Ym,fun i hi j hj e=>Me i hi (e ▸ hj)⟩
     have h1:=List.Nodup.length_le_of_subset (l₁:=fl++al) (l₂:=List.range ops.size) We (fun j hj=>by
      rw[List.mem_range]
      rcases List.mem_append.1 hj with h|h
      ·exact Rb j h
      ·exact((F4 j).1 h).1)
     have h2:=List.Nodup.length_le_of_subset (l₁:=List.range ops.size) (l₂:=fl++al) List.nodup_range (fun j hj=>by
      rw[List.mem_range] at hj
      rw[List.mem_append]
      by_cases h:j∈fl
      ·exact .inl h
      ·exact .inr ((F4 j).2 ⟨hj,h⟩))
     rw[List.length_append,List.length_range] at h1 h2
     omega
    have key:=vr (Q:=Q) (s0:=s0) (rest:=al.length) hT c4 hQ al (fun listed a w hl kl =>
     main al.length al listed a w s0 [] rfl TF Ym (fun i hi=>((F4 i).1 hi).1) hl (h0 _ _ (fun i hi=>hi)) kl)
     fl (fl++al) (Array.replicate ops.size false) s a w.drew (fun j=>by rw[List.mem_append];exact Or.comm) Me Yl Rb
     ⟨by simp,fun j hj=>by
      constructor
      ·intro h
       have hf:(Array.replicate ops.size false).getD j false=false:=by simp[Array.getD_eq_getD_getElem?,hj]
       rw[hf] at h;cases h
      ·intro h
       refine absurd ?_ h
       rw[List.mem_append]
       by_cases hf:j∈fl
       ·exact .inl hf
       ·exact .inr ((F4 j).2 ⟨hj,hf⟩)⟩ eb Ff
    rw[hlen] at key
    exact key
   ·cases aI
  ·cases aI
end
end Go.Proofs.YtllmkadmohkbfaaGreatDoor.Sym
