/- Lemmas for the statements of this seat. -/
import Derived.Test.YtcpnocgollpbhaaGreatDoorW21
namespace Go.Proofs.YtcpnocgollpbhaaGreatDoor.Sym
open Go Go.RowKit
def By(P:Program)(T:lh)(n:Nat)(ops:Array Oper)(hs:List Hint)(U:List Nat):List Nat→St→Option (St×List (List Prop))
 |[],s=>some (s,[])
 |i::l,s=>bif U.contains i then By P T n ops hs U l s else match ops[i]? with
  |some o=>match stepG P T n ops o (hs.getD i .none) s with
   |some (s1,ob)=>match By P T n ops hs U l s1 with
    |some (s2,obs)=>some (s2,ob::obs)
    |none=>none
   |none=>none
  |none=>none
abbrev NF:=List (Option EV)×List (Option SC)
def nf(ts rs:List Nat)(s:St):Option NF :=
 bif s.env.all (fun x=>ts.contains x.1)&&s.aK.all (fun x=>rs.contains x.1) then some (ts.map s.env.get,rs.map s.aK.eF) else none
def R1:List Nat→Nat→Nat
 |[],_=>0
 |x::r,i=>bif Nat.beq x i then 0 else R1 r i+1
def LN(P:Program)(T:lh)(n:Nat)(ops:Array Oper)(hs:List Hint)(al ts rs:List Nat)(s:St)(x:List Nat×Nat):Nat×NF×List Prop :=
 match By P T n ops hs x.1 al s with
 |some (sU,_)=>match ops[x.2]? with
  |some o=>match stepG P T n ops o (hs.getD x.2 .none) sU with
   |some (s',ob)=>match nf ts rs s' with
    |some y=>(1,y,ob)
    |none=>(0,([],[]),[])
   |none=>(0,([],[]),[])
  |none=>(0,([],[]),[])
 |none=>(0,([],[]),[])
def LO(P:Program)(T:lh)(n:Nat)(ops:Array Oper)(hs:List Hint)(al ts rs:List Nat)(s:St)(can:List (List Prop))(x:List Nat×Nat):Nat×NF×List Prop :=
 match By P T n ops hs (Ix x.1 x.2) al s with
 |some (YN,_)=>match nf ts rs YN with
  |some y=>(1,y,can.getD (R1 al x.2) [])
  |none=>(2,([],[]),[])
 |none=>(2,([],[]),[])
def AT(ops:Array Oper)(Us:List (List Nat)):List (List Nat×Nat) :=
 Us.flatMap fun U=>(U.filter fun i=>(jE ops i).all fun e => !(U.contains e)).map fun i=>(U,i)
def LP(ops:Array Oper)(s:St):List Nat:=s.env.map (·.1)++ops.toList.filterMap (·.dst)
def LQ(ops:Array Oper)(s:St):List Nat:=s.aK.map (·.1)++(ops.toList.filterMap (·.dst)++[999999])
def R2{α β:Type}(f:α→β):List α→List β
 |[]=>[]
 |x::l=>f x::R2 f l
theorem LR{α β:Type}(f:α→β):∀l:List α,R2 f l=l.map f
 |[]=>rfl
 |x::l=>by rw[R2,LR f l,agk]
def Tv(P:Program)(T:lh)(n:Nat)(ops:Array Oper)(hs:List Hint)(al:List Nat)(s:St):List (List Prop) :=
 match By P T n ops hs [] al s with
 |some (_,can)=>can
 |none=>[]
def UR(P:Program)(T:lh)(n:Nat)(ops:Array Oper)(al:List Nat)(Us:List (List Nat))(hs:List Hint)(s:St):List (Nat×NF×List Prop) :=
 (AT ops Us).map (LN P T n ops hs al (LP ops s) (LQ ops s) s)
def US(P:Program)(T:lh)(n:Nat)(ops:Array Oper)(al:List Nat)(Us:List (List Nat))(hs:List Hint)(s:St):List (Nat×NF×List Prop) :=
 R2 (LO P T n ops hs al (LP ops s) (LQ ops s) s (Tv P T n ops hs al s)) (AT ops Us)
def z6(P:Program)(T:lh)(n:Nat)(ops:Array Oper)(al:List Nat)(Us:List (List Nat))(hs:List Hint)(s:St):Prop:=UR P T n ops al Us hs s=US P T n ops al Us hs s
def lvl(ops:Array Oper)(l:List (List Nat)):List (List Nat) :=
 (l.flatMap fun U=>(U.filter fun i=>(jE ops i).all fun e => !(U.contains e)).map (Ix U)).eraseDups
def lvls(ops:Array Oper):Nat→List (List Nat)→List (List Nat)
 |0,l=>l
 |n+1,l=>l++lvls ops n (lvl ops l)
def KA(ops:Array Oper)(fl:List Nat):List Nat:=(List.range ops.size).filter fun i => !(fl.contains i)
def Tx(ops:Array Oper)(fl:List Nat):List (List Nat):=lvls ops ops.size [KA ops fl]
def R3(T:lh)(n:Nat)(ops:Array Oper)(fl:List Nat)(s:St):St:=(zZ T n ops fl (Array.replicate ops.size false) s).getD s
def Gu(P:Program)(T:lh)(n:Nat)(ops:Array Oper)(fl:List Nat)(al:List Nat)(Us:List (List Nat))(hs:List Hint)(s:St):Option (St×List Prop) :=
 bif Us.contains al&&(AT ops Us).all (fun x=>Us.contains (Ix x.1 x.2))&&fwd ops [] (List.range ops.size)&&Region.noSelect ops&&(List.range ops.size).all (fun i=>(jE ops i).all fun e=>Nat.blt e ops.size)&&zY fl&&fl.all (fun i=>Nat.blt i ops.size) then
  match zZ T n ops fl (Array.replicate ops.size false) s with
  |some s0=>match By P T n ops hs [] al s0 with
   |some (s',can)=>some (s',can.flatten++[z6 P T n ops al Us hs s0])
   |none=>none
  |none=>none
 else none
section
variable {P:Program} {T:lh} {Γ:Ctx} {s s':St} {a:Act} {w:World} {ops:Array Oper} {Q:Exit→Act→World→Prop}
theorem LS:∀(can:List (List Prop)) (i:Nat),dX can.flatten→dX (can.getD i [])
 |[],i,_=>by simp[dX]
 |c::can,0,h=>by rw[agY] at h;exact(dX.app h).1
 |c::can,i+1,h=>by rw[agY] at h;have:=LS can i (dX.app h).2;simpa using this
theorem Env.Gv:∀{env:Env} {t:Nat} {e:EV},env.get t=some e→∃x∈env,x.1=t
 |[],t,e,h=>by simp[Env.get] at h
 |(t',e')::r,t,e,h=>by
  simp only[Env.get] at h;cases hb:Nat.beq t' t with
  |true=>exact⟨(t',e'),by simp,afB hb⟩
  |false =>simp only[hb,cond_false] at h;obtain⟨x,hx,Z4⟩:=Env.Gv h;exact⟨x,by simp[hx],Z4⟩
theorem aT.C8:∀{aK:aT} {t:Nat} {e:SC},aK.eF t=some e→∃x∈aK,x.1=t
 |[],t,e,h=>by simp[aT.eF] at h
 |(t',e')::r,t,e,h=>by
  simp only[aT.eF] at h;cases hb:Nat.beq t' t with
  |true=>exact⟨(t',e'),by simp,afB hb⟩
  |false =>simp only[hb,cond_false] at h;obtain⟨x,hx,Z4⟩:=aT.C8 h;exact⟨x,by simp[hx],Z4⟩
theorem Gw{α β:Type}{f g:α→β} : ∀{l:List α},l.map f=l.map g→∀x∈l,f x=g x
 |[],_,x,hx=>by cases hx
 |y::l,h,x,hx=>by
  rw[agk,agk] at h;injection h with h1 h2
  rcases afY.1 hx with rfl|hx
  ·exact h1
  ·exact Gw h2 x hx
theorem LU{ts rs:List Nat}{s:St}{y:NF}(h:nf ts rs s=some y):(∀x∈s.env,x.1∈ts)∧(∀x∈s.aK,x.1∈rs)∧y=(ts.map s.env.get,rs.map s.aK.eF):=by
 unfold nf at h;cases hb:(s.env.all (fun x=>ts.contains x.1)&&s.aK.all (fun x=>rs.contains x.1)) with
 |false=>rw[hb] at h;cases h
 |true =>
  simp only[hb,cond_true] at h;injection h with h
  rw[afA,agb,agb] at hb;exact⟨fun x hx=>by simpa using hb.1 x hx,fun x hx=>by simpa using hb.2 x hx,h.symm⟩
theorem R4{ts rs:List Nat}{s1 s2:St}{y:NF}(h1:nf ts rs s1=some y)(h2:nf ts rs s2=some y):RM s1 s2:=by
 obtain⟨a1,b1,e1⟩:=LU h1;obtain⟨a2,b2,e2⟩:=LU h2;rw[e1] at e2;injection e2 with q1 q2
 refine⟨fun t => ?_,fun r => ?_⟩
 ·by_cases ht:t∈ts
  ·exact(Gw q1 t ht).symm
  ·cases g1:s1.env.get t with
   |some e=>obtain⟨x,hx,rfl⟩:=Env.Gv g1;exact absurd (a1 x hx) ht
   |none =>
    cases g2:s2.env.get t with
    |some e=>obtain⟨x,hx,rfl⟩:=Env.Gv g2;exact absurd (a2 x hx) ht
    |none=>rfl
 ·have key:∀r,s2.aK.eF r=s1.aK.eF r:=fun r=>by
   by_cases ht:r∈rs
   ·exact(Gw q2 r ht).symm
   ·cases g1:s1.aK.eF r with
    |some e=>obtain⟨x,hx,rfl⟩:=aT.C8 g1;exact absurd (b1 x hx) ht
    |none =>
     cases g2:s2.aK.eF r with
     |some e=>obtain⟨x,hx,rfl⟩:=aT.C8 g2;exact absurd (b2 x hx) ht
     |none=>rfl
  unfold aT.get aT.hp;rw[key,key]
theorem No{n:Nat}{hs:List Hint}{al ts rs:List Nat}{can:List (List Prop)}{U:List Nat}{i:Nat}(h:LN P T n ops hs al ts rs s (U,i)=LO P T n ops hs al ts rs s can (U,i))
  {sU:St} {oU:List (List Prop)} (hU:By P T n ops hs U al s=some (sU,oU)) :
  ∃o s1 s2 o2,ops[i]? = some o∧stepG P T n ops o (hs.getD i .none) sU=some (s1,can.getD (R1 al i) [])∧By P T n ops hs (Ix U i) al s=some (s2,o2)∧RM s1 s2:=by
 unfold LN LO at h;simp only[hU] at h;have hr:∀(ob:List Prop) (y:NF),((0:Nat),(([],[]):NF),([]:List Prop))≠(1,y,ob):=fun ob y e=>by injection e with e;cases e
 cases h2:By P T n ops hs (Ix U i) al s with
 |none =>
  simp only[h2] at h;exfalso;split at h
  ·split at h
   ·split at h
    ·injection h with e;cases e
    ·injection h with e;cases e
   ·injection h with e;cases e
  ·injection h with e;cases e
 |some p =>
  obtain⟨s2,o2⟩:=p;simp only[h2] at h;cases h3:nf ts rs s2 with
  |none =>
   simp only[h3] at h;exfalso;split at h
   ·split at h
    ·split at h
     ·injection h with e;cases e
     ·injection h with e;cases e
    ·injection h with e;cases e
   ·injection h with e;cases e
  |some y2 =>
   simp only[h3] at h;split at h
   ·rename_i o ho;split at h
    ·rename_i s1 ob aO;split at h
     ·rename_i y hy;injection h with _ h;injection h with e1 e2
      subst e1;subst e2;exact⟨o,s1,s2,o2,ho,aO,rfl,R4 hy h3⟩
     ·injection h with e;cases e
    ·injection h with e;cases e
   ·injection h with e;cases e
theorem Pj{fl:List Nat}{i:Nat} : i∈KA ops fl↔i<ops.size∧i ∉ fl:=by unfold KA;rw[ahZ,ahV];simp
theorem EJ(hm:P.follows .mixedOrders=true)(hT:oE P T)(hs:∀r,bK Γ.sin r→Γ.n≤r)(hQ:∀c a w d v,Q (.panic c) (Act.put a d v) w→Q (.panic c) a w){id:Nat}{fl:List Nat}{Us:List (List Nat)}{hints:List Hint}{ob:List Prop}(hr:Rel Γ s a w)
  (aO:Gu P T Γ.n ops fl (KA ops fl) Us hints s=some (s',ob)) (cv:dX ob) (hk:∀a' w',Rel Γ s' a' w'→Q .normal a' w'):(Code.region id ops true).wp P Q a w:=by
 refine wp_region_any hm ?_;unfold Gu at aO;generalize C9:KA ops fl=al at aO;cases vj:(Us.contains al&&(AT ops Us).all (fun x=>Us.contains (Ix x.1 x.2))&&fwd ops [] (List.range ops.size)&&Region.noSelect ops&&(List.range ops.size).all (fun i=>(jE ops i).all fun e=>Nat.blt e ops.size)&&zY fl&&fl.all (fun i=>Nat.blt i ops.size)) with
 |false=>rw[vj] at aO;cases aO
 |true =>
  simp only[vj,cond_true] at aO;split at aO
  ·rename_i s0 HH;split at aO
   ·rename_i s1 can Xo;injection aO with aO;injection aO with e1 e2
    subst e1;subst e2;obtain⟨g1,g2⟩:=cv.app;have g2:UR P T Γ.n ops al Us hints s0=US P T Γ.n ops al Us hints s0:=g2;unfold UR US Tv at g2;rw[Xo,LR] at g2;have g2:(AT ops Us).map (LN P T Γ.n ops hints al (LP ops s0) (LQ ops s0) s0)=(AT ops Us).map (LO P T Γ.n ops hints al (LP ops s0) (LQ ops s0) s0 can):=g2;simp only[Bool.and_eq_true,List.all_eq_true] at vj;obtain⟨⟨⟨⟨⟨⟨c1,c2⟩,c3⟩,c4⟩,c5⟩,c6⟩,c7⟩:=vj;have Xp:al∈Us:=by simpa using c1
    have Da:∀i,i∈al↔i<ops.size∧i ∉ fl:=fun i=>by rw[←C9];exact Pj
    have Fe:∀i,i<ops.size→∀e∈jE ops i,e<ops.size:=fun i hi e he=>afv (c5 i (by simpa using hi) e he)
    have main:∀(fuel:Nat) (U:List Nat) (listed:Array Bool) (a:Act) (w:World) (sU:St) (oU:List (List Prop)),U.length=fuel→U∈Us→U.Nodup→(∀i∈U,i<ops.size)→O9 ops listed U →
      By P T Γ.n ops hints U al s0=some (sU,oU)→Rel Γ sU a w→wpAny P .any ops Q fuel listed a w:=by
     intro fuel
     induction fuel with
     |zero =>
      intro U listed a w sU oU hlen _ _ _ hl hU kT;have:U=[]:=afr hlen;subst this;rw[Xo] at hU;injection hU with hU;injection hU with e1 _
      subst e1;refine⟨?_,hk a w kT⟩;apply aiJ.2;intro i hi;have dI:i<ops.size:=by rw[mem_ready] at hi;obtain⟨_,o,ho,_⟩:=hi;exact(agC.1 ho).1
      have:=(kD hl (Fe i dI)).1 hi;simp at this
     |succ fuel ih =>
      intro U listed a w sU oU hlen hUs hn dI hl hU kT;refine⟨fun Gf => ?_,fun i hi => ?_⟩
      ·have fT:∃i,i∈List.range ops.size∧i∈U:=by
        cases U with
        |nil=>cases hlen
        |cons j U=>exact⟨j,by simpa using dI j (by simp),by simp⟩
       obtain⟨j,_,Gi,Z3⟩:=zX ops U (List.range ops.size) [] c3 (fun e he=>by cases he) fT;have:j∈Region.ready .any ops listed:=(kD hl (Fe j (dI j Gi))).2 ⟨dI j Gi,Gi,Z3⟩;rw[Gf] at this;cases this
      ·have hil:i<ops.size:=by
        have AS:=hi;rw[mem_ready] at AS;obtain⟨_,o,ho,_⟩:=AS;exact(agC.1 ho).1
       obtain⟨_,Og,pE⟩:=(kD hl (Fe i hil)).1 hi;have Da:(U,i)∈AT ops Us:=by unfold AT;refine List.mem_flatMap.2 ⟨U,hUs,agj.2 ⟨i,ahZ.2 ⟨Og,?_⟩,rfl⟩⟩;rw[agb];intro e he;simpa using pE e he
       obtain⟨o,s1',s2,o2,ho,LV,Xq,Pg⟩:=No (Gw g2 (U,i) Da) hU;unfold wpOp;rw[ho];refine uu hT hs kT LV (LS can (R1 al i) g1) (fun a' w' dS => ?_);have hEU:Ix U i∈Us:=by simpa using c2 (U,i) Da
       exact ih (Ix U i) _ a' w' s2 o2 (by have:=LJ hn Og;omega) hEU (aiN _ hn) (fun j hj=>dI j (o6.1 hj).1) (hl.set hil) Xq (Rel.RN Pg dS)
    have dS:Rel Γ s a w.drew:=by obtain⟨β,I,hr⟩:=hr;exact⟨β,I,hr.grow ((Eu.refl _ _).drew) (fun b h=>h) (fun b h => .inl h)⟩
    have h0:∀(l:List Nat) (U:List Nat),(∀i∈l,i∈U)→By P T Γ.n ops hints U l s0=some (s0,[]):=by
     intro l
     induction l with
     |nil=>intro U _;rfl
     |cons i l ih =>
      intro U h;unfold By;have:U.contains i=true:=by simpa using h i (by simp)
      rw[this];exact ih U (fun j hj=>h j (by simp[hj]))
    have hnf:fl.Nodup:=uy c6;have hna:al.Nodup:=by rw[←C9];exact aiN _ List.nodup_range
    have hlf:∀i∈fl,i<ops.size:=fun i hi=>afv (c7 i hi)
    have Ph:∀i∈fl,i ∉ al:=fun i hi h=>((Da i).1 h).2 hi
    have hlen:fl.length+al.length=ops.size:=by
     have ZV:(fl++al).Nodup:=aho.2 ⟨hnf,hna,fun i hi j hj e=>Ph i hi (e ▸ hj)⟩;have h1:=ahc (l₁:=fl++al) (l₂:=List.range ops.size) ZV (fun j hj=>by
      rw[ahV];rcases agO.1 hj with h|h
      ·exact hlf j h
      ·exact((Da j).1 h).1)
     have h2:=ahc (l₁:=List.range ops.size) (l₂:=fl++al) List.nodup_range (fun j hj=>by
      rw[ahV] at hj;rw[agO];by_cases h:j∈fl
      ·exact .inl h
      ·exact .inr ((Da j).2 ⟨hj,h⟩))
     rw[afW,agZ] at h1 h2;omega
    have key:=w9 (Q:=Q) (s0:=s0) (rest:=al.length) hT c4 hQ al (fun listed a w hl kT =>
     main al.length al listed a w s0 [] rfl Xp hna (fun i hi=>((Da i).1 hi).1) hl (h0 _ _ (fun i hi=>hi)) kT)
     fl (fl++al) (Array.replicate ops.size false) s a w.drew (fun j=>by rw[agO];exact Or.comm) Ph hnf hlf
     ⟨by simp,fun j hj=>by
      constructor
      ·intro h;have hf:(Array.replicate ops.size false).getD j false=false:=by simp[Array.getD_eq_getD_getElem?,hj]
       rw[hf] at h;cases h
      ·intro h;refine absurd ?_ h;rw[agO];by_cases hf:j∈fl
       ·exact .inl hf
       ·exact .inr ((Da j).2 ⟨hj,hf⟩)⟩ dS HH
    rw[hlen] at key;exact key
   ·cases aO
  ·cases aO
end
end Go.Proofs.YtcpnocgollpbhaaGreatDoor.Sym
