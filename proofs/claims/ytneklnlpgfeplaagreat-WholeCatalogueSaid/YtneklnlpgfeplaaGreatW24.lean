/- Lemmas for the statements of this seat. -/
import Derived.Test.YtneklnlpgfeplaaGreatW23
namespace Go.Proofs.YtneklnlpgfeplaaGreat.Sym
open Go Go.RowKit
def vv(P:Program)(T:ja)(n:Nat)(ops:Array Oper)(hs:List Hint)(U:List Nat):List Nat→St→Option (St×List (List Prop))
 |[],s=>some (s,[])
 |i::l,s=>bif U.contains i then vv P T n ops hs U l s else match ops[i]? with
  |some o=>match stepG P T n ops o (hs.getD i .none) s with
   |some (s1,ob)=>match vv P T n ops hs U l s1 with
    |some (s2,obs)=>some (s2,ob::obs)
    |none=>none
   |none=>none
  |none=>none
abbrev NF:=List (Option EV)×List (Option SC)
def nf(ts rs:List Nat)(s:St):Option NF :=
 bif s.env.all (fun x=>ts.contains x.1)&&s.aP.all (fun x=>rs.contains x.1) then some (ts.map s.env.get,rs.map s.aP.cD) else none
def KC:List Nat→Nat→Nat
 |[],_=>0
 |x::r,i=>bif Nat.beq x i then 0 else KC r i+1
def AF(P:Program)(T:ja)(n:Nat)(ops:Array Oper)(hs:List Hint)(al ts rs:List Nat)(s:St)(x:List Nat×Nat):Nat×NF×List Prop :=
 match vv P T n ops hs x.1 al s with
 |some (sU,_)=>match ops[x.2]? with
  |some o=>match stepG P T n ops o (hs.getD x.2 .none) sU with
   |some (s',ob)=>match nf ts rs s' with
    |some y=>(1,y,ob)
    |none=>(0,([],[]),[])
   |none=>(0,([],[]),[])
  |none=>(0,([],[]),[])
 |none=>(0,([],[]),[])
def AG(P:Program)(T:ja)(n:Nat)(ops:Array Oper)(hs:List Hint)(al ts rs:List Nat)(s:St)(can:List (List Prop))(x:List Nat×Nat):Nat×NF×List Prop :=
 match vv P T n ops hs (CE x.1 x.2) al s with
 |some (Ur,_)=>match nf ts rs Ur with
  |some y=>(1,y,can.getD (KC al x.2) [])
  |none=>(2,([],[]),[])
 |none=>(2,([],[]),[])
def my(ops:Array Oper)(Us:List (List Nat)):List (List Nat×Nat) :=
 Us.flatMap fun U=>(U.filter fun i=>(gX ops i).all fun e => !(U.contains e)).map fun i=>(U,i)
def uM(ops:Array Oper)(s:St):List Nat:=s.env.map (·.1)++ops.toList.filterMap (·.dst)
def uN(ops:Array Oper)(s:St):List Nat:=s.aP.map (·.1)++(ops.toList.filterMap (·.dst)++[999999])
def I6{α β:Type}(f:α→β):List α→List β
 |[]=>[]
 |x::l=>f x::I6 f l
theorem zu{α β:Type}(f:α→β):∀l:List α,I6 f l=l.map f
 |[]=>rfl
 |x::l=>by rw[I6,zu f l,acI]
def E9(P:Program)(T:ja)(n:Nat)(ops:Array Oper)(hs:List Hint)(al:List Nat)(s:St):List (List Prop) :=
 match vv P T n ops hs [] al s with
 |some (_,can)=>can
 |none=>[]
def KD(P:Program)(T:ja)(n:Nat)(ops:Array Oper)(al:List Nat)(Us:List (List Nat))(hs:List Hint)(s:St):List (Nat×NF×List Prop) :=
 (my ops Us).map (AF P T n ops hs al (uM ops s) (uN ops s) s)
def KE(P:Program)(T:ja)(n:Nat)(ops:Array Oper)(al:List Nat)(Us:List (List Nat))(hs:List Hint)(s:St):List (Nat×NF×List Prop) :=
 I6 (AG P T n ops hs al (uM ops s) (uN ops s) s (E9 P T n ops hs al s)) (my ops Us)
def Cd(P:Program)(T:ja)(n:Nat)(ops:Array Oper)(al:List Nat)(Us:List (List Nat))(hs:List Hint)(s:St):Prop:=KD P T n ops al Us hs s=KE P T n ops al Us hs s
def lvl(ops:Array Oper)(l:List (List Nat)):List (List Nat) :=
 (l.flatMap fun U=>(U.filter fun i=>(gX ops i).all fun e => !(U.contains e)).map (CE U)).eraseDups
def lvls(ops:Array Oper):Nat→List (List Nat)→List (List Nat)
 |0,l=>l
 |n+1,l=>l++lvls ops n (lvl ops l)
def sC(ops:Array Oper)(fl:List Nat):List Nat:=(List.range ops.size).filter fun i => !(fl.contains i)
def uO(ops:Array Oper)(fl:List Nat):List (List Nat):=lvls ops ops.size [sC ops fl]
def Fa(T:ja)(n:Nat)(ops:Array Oper)(fl:List Nat)(s:St):St:=(xF T n ops fl (Array.replicate ops.size false) s).getD s
def ud(P:Program)(T:ja)(n:Nat)(ops:Array Oper)(fl:List Nat)(al:List Nat)(Us:List (List Nat))(hs:List Hint)(s:St):Option (St×List Prop) :=
 bif Us.contains al&&(my ops Us).all (fun x=>Us.contains (CE x.1 x.2))&&fwd ops [] (List.range ops.size)&&Region.noSelect ops&&(List.range ops.size).all (fun i=>(gX ops i).all fun e=>Nat.blt e ops.size)&&vt fl&&fl.all (fun i=>Nat.blt i ops.size) then
  match xF T n ops fl (Array.replicate ops.size false) s with
  |some s0=>match vv P T n ops hs [] al s0 with
   |some (s',can)=>some (s',can.flatten++[Cd P T n ops al Us hs s0])
   |none=>none
  |none=>none
 else none
section
variable {P:Program} {T:ja} {Γ:Ctx} {s s':St} {a:Act} {w:World} {ops:Array Oper} {Q:Exit→Act→World→Prop}
theorem DM:∀(can:List (List Prop)) (i:Nat),dW can.flatten→dW (can.getD i [])
 |[],i,_=>by simp[dW]
 |c::can,0,h=>by rw[acM] at h;exact(dW.app h).1
 |c::can,i+1,h=>by rw[acM] at h;have:=DM can i (dW.app h).2;simpa using this
theorem Env.DN:∀{env:Env} {t:Nat} {e:EV},env.get t=some e→∃x∈env,x.1=t
 |[],t,e,h=>by simp[Env.get] at h
 |(t',e')::r,t,e,h=>by
  simp only[Env.get] at h;cases hb:Nat.beq t' t with
  |true=>exact⟨(t',e'),by simp,abO hb⟩
  |false =>simp only[hb,cond_false] at h;obtain⟨x,hx,V4⟩:=Env.DN h;exact⟨x,by simp[hx],V4⟩
theorem aY.AH:∀{aP:aY} {t:Nat} {e:SC},aP.cD t=some e→∃x∈aP,x.1=t
 |[],t,e,h=>by simp[aY.cD] at h
 |(t',e')::r,t,e,h=>by
  simp only[aY.cD] at h;cases hb:Nat.beq t' t with
  |true=>exact⟨(t',e'),by simp,abO hb⟩
  |false =>simp only[hb,cond_false] at h;obtain⟨x,hx,V4⟩:=aY.AH h;exact⟨x,by simp[hx],V4⟩
theorem AI{α β:Type}{f g:α→β} : ∀{l:List α},l.map f=l.map g→∀x∈l,f x=g x
 |[],_,x,hx=>by cases hx
 |y::l,h,x,hx=>by
  rw[acI,acI] at h;injection h with h1 h2
  rcases ac0.1 hx with rfl|hx
  ·exact h1
  ·exact AI h2 x hx
theorem H5{ts rs:List Nat}{s:St}{y:NF}(h:nf ts rs s=some y):(∀x∈s.env,x.1∈ts)∧(∀x∈s.aP,x.1∈rs)∧y=(ts.map s.env.get,rs.map s.aP.cD):=by
 unfold nf at h;cases hb:(s.env.all (fun x=>ts.contains x.1)&&s.aP.all (fun x=>rs.contains x.1)) with
 |false=>rw[hb] at h;cases h
 |true =>
  simp only[hb,cond_true] at h;injection h with h
  rw[abK,abX,abX] at hb;exact⟨fun x hx=>by simpa using hb.1 x hx,fun x hx=>by simpa using hb.2 x hx,h.symm⟩
theorem Nb{ts rs:List Nat}{s1 s2:St}{y:NF}(h1:nf ts rs s1=some y)(h2:nf ts rs s2=some y):MR s1 s2:=by
 obtain⟨a1,b1,e1⟩:=H5 h1;obtain⟨a2,b2,e2⟩:=H5 h2;rw[e1] at e2;injection e2 with q1 q2
 refine⟨fun t => ?_,fun r => ?_⟩
 ·by_cases ht:t∈ts
  ·exact(AI q1 t ht).symm
  ·cases g1:s1.env.get t with
   |some e=>obtain⟨x,hx,rfl⟩:=Env.DN g1;exact absurd (a1 x hx) ht
   |none =>
    cases g2:s2.env.get t with
    |some e=>obtain⟨x,hx,rfl⟩:=Env.DN g2;exact absurd (a2 x hx) ht
    |none=>rfl
 ·have key:∀r,s2.aP.cD r=s1.aP.cD r:=fun r=>by
   by_cases ht:r∈rs
   ·exact(AI q2 r ht).symm
   ·cases g1:s1.aP.cD r with
    |some e=>obtain⟨x,hx,rfl⟩:=aY.AH g1;exact absurd (b1 x hx) ht
    |none =>
     cases g2:s2.aP.cD r with
     |some e=>obtain⟨x,hx,rfl⟩:=aY.AH g2;exact absurd (b2 x hx) ht
     |none=>rfl
  unfold aY.get aY.hp;rw[key,key]
theorem CF{n:Nat}{hs:List Hint}{al ts rs:List Nat}{can:List (List Prop)}{U:List Nat}{i:Nat}(h:AF P T n ops hs al ts rs s (U,i)=AG P T n ops hs al ts rs s can (U,i))
  {sU:St} {oU:List (List Prop)} (hU:vv P T n ops hs U al s=some (sU,oU)) :
  ∃o s1 s2 o2,ops[i]? = some o∧stepG P T n ops o (hs.getD i .none) sU=some (s1,can.getD (KC al i) [])∧vv P T n ops hs (CE U i) al s=some (s2,o2)∧MR s1 s2:=by
 unfold AF AG at h;simp only[hU] at h;have hr:∀(ob:List Prop) (y:NF),((0:Nat),(([],[]):NF),([]:List Prop))≠(1,y,ob):=fun ob y e=>by injection e with e;cases e
 cases h2:vv P T n ops hs (CE U i) al s with
 |none =>
  simp only[h2] at h;exfalso;split at h
  ·split at h
   ·split at h
    ·injection h with e;cases e
    ·injection h with e;cases e
   ·injection h with e;cases e
  ·injection h with e;cases e
 |some p =>
  obtain⟨s2,o2⟩:=p;simp only[h2] at h;cases h3:nf ts rs s2 with
  |none =>
   simp only[h3] at h;exfalso;split at h
   ·split at h
    ·split at h
     ·injection h with e;cases e
     ·injection h with e;cases e
    ·injection h with e;cases e
   ·injection h with e;cases e
  |some y2 =>
   simp only[h3] at h;split at h
   ·rename_i o ho;split at h
    ·rename_i s1 ob bc;split at h
     ·rename_i y hy;injection h with _ h;injection h with e1 e2
      subst e1;subst e2;exact⟨o,s1,s2,o2,ho,bc,rfl,Nb hy h3⟩
     ·injection h with e;cases e
    ·injection h with e;cases e
   ·injection h with e;cases e
theorem Fb{fl:List Nat}{i:Nat} : i∈sC ops fl↔i<ops.size∧i ∉ fl:=by unfold sC;rw[adj,adf];simp
theorem Ce(hm:P.follows .mixedOrders=true)(hT:mm P T)(hs:∀r,bz Γ.sin r→Γ.n≤r)(hQ:∀c a w d v,Q (.panic c) (Act.put a d v) w→Q (.panic c) a w){id:Nat}{fl:List Nat}{Us:List (List Nat)}{hints:List Hint}{ob:List Prop}(hr:Rel Γ s a w)
  (bc:ud P T Γ.n ops fl (sC ops fl) Us hints s=some (s',ob)) (cf:dW ob) (hk:∀a' w',Rel Γ s' a' w'→Q .normal a' w'):(Code.region id ops true).wp P Q a w:=by
 refine wp_region_any hm ?_;unfold ud at bc;generalize JA:sC ops fl=al at bc;cases r8:(Us.contains al&&(my ops Us).all (fun x=>Us.contains (CE x.1 x.2))&&fwd ops [] (List.range ops.size)&&Region.noSelect ops&&(List.range ops.size).all (fun i=>(gX ops i).all fun e=>Nat.blt e ops.size)&&vt fl&&fl.all (fun i=>Nat.blt i ops.size)) with
 |false=>rw[r8] at bc;cases bc
 |true =>
  simp only[r8,cond_true] at bc;split at bc
  ·rename_i s0 JV;split at bc
   ·rename_i s1 can KF;injection bc with bc;injection bc with e1 e2
    subst e1;subst e2;obtain⟨g1,g2⟩:=cf.app;have g2:KD P T Γ.n ops al Us hints s0=KE P T Γ.n ops al Us hints s0:=g2;unfold KD KE E9 at g2;rw[KF,zu] at g2;have g2:(my ops Us).map (AF P T Γ.n ops hints al (uM ops s0) (uN ops s0) s0)=(my ops Us).map (AG P T Γ.n ops hints al (uM ops s0) (uN ops s0) s0 can):=g2;simp only[Bool.and_eq_true,List.all_eq_true] at r8;obtain⟨⟨⟨⟨⟨⟨c1,c2⟩,c3⟩,c4⟩,c5⟩,c6⟩,c7⟩:=r8;have KG:al∈Us:=by simpa using c1
    have th:∀i,i∈al↔i<ops.size∧i ∉ fl:=fun i=>by rw[←JA];exact Fb
    have zr:∀i,i<ops.size→∀e∈gX ops i,e<ops.size:=fun i hi e he=>abM (c5 i (by simpa using hi) e he)
    have main:∀(fuel:Nat) (U:List Nat) (bT:Array Bool) (a:Act) (w:World) (sU:St) (oU:List (List Prop)),U.length=fuel→U∈Us→U.Nodup→(∀i∈U,i<ops.size)→Es ops bT U →
      vv P T Γ.n ops hints U al s0=some (sU,oU)→Rel Γ sU a w→wpAny P .any ops Q fuel bT a w:=by
     intro fuel
     induction fuel with
     |zero =>
      intro U bT a w sU oU hlen _ _ _ hl hU gW;have:U=[]:=abT hlen;subst this;rw[KF] at hU;injection hU with hU;injection hU with e1 _
      subst e1;refine⟨?_,hk a w gW⟩;apply adQ.2;intro i hi;have cT:i<ops.size:=by rw[mem_ready] at hi;obtain⟨_,o,ho,_⟩:=hi;exact(ach.1 ho).1
      have:=(gr hl (zr i cT)).1 hi;simp at this
     |succ fuel ih =>
      intro U bT a w sU oU hlen V5 hn cT hl hU gW;refine⟨fun zV => ?_,fun i hi => ?_⟩
      ·have nZ:∃i,i∈List.range ops.size∧i∈U:=by
        cases U with
        |nil=>cases hlen
        |cons j U=>exact⟨j,by simpa using cT j (by simp),by simp⟩
       obtain⟨j,_,Dw,Su⟩:=uc ops U (List.range ops.size) [] c3 (fun e he=>by cases he) nZ;have:j∈Region.ready .any ops bT:=(gr hl (zr j (cT j Dw))).2 ⟨cT j Dw,Dw,Su⟩;rw[zV] at this;cases this
      ·have PM:i<ops.size:=by
        have OB:=hi;rw[mem_ready] at OB;obtain⟨_,o,ho,_⟩:=OB;exact(ach.1 ho).1
       obtain⟨_,GI,nL⟩:=(gr hl (zr i PM)).1 hi;have th:(U,i)∈my ops Us:=by unfold my;refine af7.2 ⟨U,V5,aca.2 ⟨i,adj.2 ⟨GI,?_⟩,rfl⟩⟩;rw[abX];intro e he;simpa using nL e he
       obtain⟨o,Z2,s2,o2,ho,KH,KI,E6⟩:=CF (AI g2 (U,i) th) hU;unfold wpOp;rw[ho];refine nm hT hs gW KH (DM can (KC al i) g1) (fun a' w' dx => ?_);have V6:CE U i∈Us:=by simpa using c2 (U,i) th
       exact ih (CE U i) _ a' w' s2 o2 (by have:=DI hn GI;omega) V6 (adL _ hn) (fun j hj=>cT j (nc.1 hj).1) (hl.set PM) KI (Rel.IL E6 dx)
    have dx:Rel Γ s a w.drew:=by obtain⟨β,I,hr⟩:=hr;exact⟨β,I,hr.grow ((yK.refl _ _).drew) (fun b h=>h) (fun b h => .inl h)⟩
    have h0:∀(l:List Nat) (U:List Nat),(∀i∈l,i∈U)→vv P T Γ.n ops hints U l s0=some (s0,[]):=by
     intro l
     induction l with
     |nil=>intro U _;rfl
     |cons i l ih =>
      intro U h;unfold vv;have:U.contains i=true:=by simpa using h i (by simp)
      rw[this];exact ih U (fun j hj=>h j (by simp[hj]))
    have Sv:fl.Nodup:=pN c6;have Sw:al.Nodup:=by rw[←JA];exact adL _ aeC
    have Sx:∀i∈fl,i<ops.size:=fun i hi=>abM (c7 i hi)
    have E8:∀i∈fl,i ∉ al:=fun i hi h=>((th i).1 h).2 hi
    have hlen:fl.length+al.length=ops.size:=by
     have Sl:(fl++al).Nodup:=ad7.2 ⟨Sv,Sw,fun i hi j hj e=>E8 i hi (e ▸ hj)⟩;have h1:=acK (l₁:=fl++al) (l₂:=List.range ops.size) Sl (fun j hj=>by
      rw[adf];rcases acs.1 hj with h|h
      ·exact Sx j h
      ·exact((th j).1 h).1)
     have h2:=acK (l₁:=List.range ops.size) (l₂:=fl++al) aeC (fun j hj=>by
      rw[adf] at hj;rw[acs];by_cases h:j∈fl
      ·exact .inl h
      ·exact .inr ((th j).2 ⟨hj,h⟩))
     rw[acr,adC] at h1 h2;omega
    have key:=rz (Q:=Q) (s0:=s0) (rest:=al.length) hT c4 hQ al (fun bT a w hl gW =>
     main al.length al bT a w s0 [] rfl KG Sw (fun i hi=>((th i).1 hi).1) hl (h0 _ _ (fun i hi=>hi)) gW)
     fl (fl++al) (Array.replicate ops.size false) s a w.drew (fun j=>by rw[acs];exact Or.comm) E8 Sv Sx
     ⟨by simp,fun j hj=>by
      constructor
      ·intro h;have hf:(Array.replicate ops.size false).getD j false=false:=by simp[Array.getD_eq_getD_getElem?,hj]
       rw[hf] at h;cases h
      ·intro h;refine absurd ?_ h;rw[acs];by_cases hf:j∈fl
       ·exact .inl hf
       ·exact .inr ((th j).2 ⟨hj,hf⟩)⟩ dx JV
    rw[hlen] at key;exact key
   ·cases bc
  ·cases bc
end
end Go.Proofs.YtneklnlpgfeplaaGreat.Sym
