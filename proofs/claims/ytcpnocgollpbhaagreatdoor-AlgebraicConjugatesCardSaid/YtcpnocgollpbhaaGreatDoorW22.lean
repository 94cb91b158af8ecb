/- Lemmas for the statements of this seat. -/
import Derived.Test.YtcpnocgollpbhaaGreatDoorW21
namespace Go.Proofs.YtcpnocgollpbhaaGreatDoor.Sym
open Go Go.RowKit
def An(P:Program)(T:kL)(n:Nat)(ops:Array Oper)(hs:List Hint)(U:List Nat):List Nat→St→Option (St×List (List Prop))
 |[],s=>some (s,[])
 |i::l,s=>bif U.contains i then An P T n ops hs U l s else match ops[i]? with
  |some o=>match stepG P T n ops o (hs.getD i .none) s with
   |some (s1,ob)=>match An P T n ops hs U l s1 with
    |some (s2,obs)=>some (s2,ob::obs)
    |none=>none
   |none=>none
  |none=>none
abbrev NF:=List (Option EV)×List (Option SC)
def nf(ts rs:List Nat)(s:St):Option NF :=
 bif s.env.all (fun x=>ts.contains x.1)&&s.aG.all (fun x=>rs.contains x.1) then some (ts.map s.env.get,rs.map s.aG.ej) else none
def Rq:List Nat→Nat→Nat
 |[],_=>0
 |x::r,i=>bif Nat.beq x i then 0 else Rq r i+1
def K6(P:Program)(T:kL)(n:Nat)(ops:Array Oper)(hs:List Hint)(al ts rs:List Nat)(s:St)(x:List Nat×Nat):Nat×NF×List Prop :=
 match An P T n ops hs x.1 al s with
 |some (sU,_)=>match ops[x.2]? with
  |some o=>match stepG P T n ops o (hs.getD x.2 .none) sU with
   |some (s',ob)=>match nf ts rs s' with
    |some y=>(1,y,ob)
    |none=>(0,([],[]),[])
   |none=>(0,([],[]),[])
  |none=>(0,([],[]),[])
 |none=>(0,([],[]),[])
def K7(P:Program)(T:kL)(n:Nat)(ops:Array Oper)(hs:List Hint)(al ts rs:List Nat)(s:St)(can:List (List Prop))(x:List Nat×Nat):Nat×NF×List Prop :=
 match An P T n ops hs (HO x.1 x.2) al s with
 |some (YG,_)=>match nf ts rs YG with
  |some y=>(1,y,can.getD (Rq al x.2) [])
  |none=>(2,([],[]),[])
 |none=>(2,([],[]),[])
def zC(ops:Array Oper)(Us:List (List Nat)):List (List Nat×Nat) :=
 Us.flatMap fun U=>(U.filter fun i=>(jm ops i).all fun e => !(U.contains e)).map fun i=>(U,i)
def K8(ops:Array Oper)(s:St):List Nat:=s.env.map (·.1)++ops.toList.filterMap (·.dst)
def K9(ops:Array Oper)(s:St):List Nat:=s.aG.map (·.1)++(ops.toList.filterMap (·.dst)++[999999])
def Rr{α β:Type}(f:α→β):List α→List β
 |[]=>[]
 |x::l=>f x::Rr f l
theorem La{α β:Type}(f:α→β):∀l:List α,Rr f l=l.map f
 |[]=>rfl
 |x::l=>by rw[Rr,La f l,agD]
def S0(P:Program)(T:kL)(n:Nat)(ops:Array Oper)(hs:List Hint)(al:List Nat)(s:St):List (List Prop) :=
 match An P T n ops hs [] al s with
 |some (_,can)=>can
 |none=>[]
def Ul(P:Program)(T:kL)(n:Nat)(ops:Array Oper)(al:List Nat)(Us:List (List Nat))(hs:List Hint)(s:St):List (Nat×NF×List Prop) :=
 (zC ops Us).map (K6 P T n ops hs al (K8 ops s) (K9 ops s) s)
def Um(P:Program)(T:kL)(n:Nat)(ops:Array Oper)(al:List Nat)(Us:List (List Nat))(hs:List Hint)(s:St):List (Nat×NF×List Prop) :=
 Rr (K7 P T n ops hs al (K8 ops s) (K9 ops s) s (S0 P T n ops hs al s)) (zC ops Us)
def Ao(P:Program)(T:kL)(n:Nat)(ops:Array Oper)(al:List Nat)(Us:List (List Nat))(hs:List Hint)(s:St):Prop:=Ul P T n ops al Us hs s=Um P T n ops al Us hs s
def lvl(ops:Array Oper)(l:List (List Nat)):List (List Nat) :=
 (l.flatMap fun U=>(U.filter fun i=>(jm ops i).all fun e => !(U.contains e)).map (HO U)).eraseDups
def lvls(ops:Array Oper):Nat→List (List Nat)→List (List Nat)
 |0,l=>l
 |n+1,l=>l++lvls ops n (lvl ops l)
def JQ(ops:Array Oper)(fl:List Nat):List Nat:=(List.range ops.size).filter fun i => !(fl.contains i)
def S1(ops:Array Oper)(fl:List Nat):List (List Nat):=lvls ops ops.size [JQ ops fl]
def Ru(T:kL)(n:Nat)(ops:Array Oper)(fl:List Nat)(s:St):St:=(yD T n ops fl (Array.replicate ops.size false) s).getD s
def Fz(P:Program)(T:kL)(n:Nat)(ops:Array Oper)(fl:List Nat)(al:List Nat)(Us:List (List Nat))(hs:List Hint)(s:St):Option (St×List Prop) :=
 bif Us.contains al&&(zC ops Us).all (fun x=>Us.contains (HO x.1 x.2))&&fwd ops [] (List.range ops.size)&&Region.noSelect ops&&(List.range ops.size).all (fun i=>(jm ops i).all fun e=>Nat.blt e ops.size)&&yC fl&&fl.all (fun i=>Nat.blt i ops.size) then
  match yD T n ops fl (Array.replicate ops.size false) s with
  |some s0=>match An P T n ops hs [] al s0 with
   |some (s',can)=>some (s',can.flatten++[Ao P T n ops al Us hs s0])
   |none=>none
  |none=>none
 else none
section
variable {P:Program} {T:kL} {Γ:Ctx} {s s':St} {a:Act} {w:World} {ops:Array Oper} {Q:Exit→Act→World→Prop}
theorem Lb:∀(can:List (List Prop)) (i:Nat),dK can.flatten→dK (can.getD i [])
 |[],i,_=>by simp[dK]
 |c::can,0,h=>by rw[ahm] at h;exact(dK.app h).1
 |c::can,i+1,h=>by rw[ahm] at h;have:=Lb can i (dK.app h).2;simpa using this
theorem Env.FA:∀{env:Env} {t:Nat} {e:EV},env.get t=some e→∃x∈env,x.1=t
 |[],t,e,h=>by simp[Env.get] at h
 |(t',e')::r,t,e,h=>by
  simp only[Env.get] at h;cases hb:Nat.beq t' t with
  |true=>exact⟨(t',e'),by simp,ag0 hb⟩
  |false =>simp only[hb,cond_false] at h;obtain⟨x,hx,Z2⟩:=Env.FA h;exact⟨x,by simp[hx],Z2⟩
theorem aS.BO:∀{aG:aS} {t:Nat} {e:SC},aG.ej t=some e→∃x∈aG,x.1=t
 |[],t,e,h=>by simp[aS.ej] at h
 |(t',e')::r,t,e,h=>by
  simp only[aS.ej] at h;cases hb:Nat.beq t' t with
  |true=>exact⟨(t',e'),by simp,ag0 hb⟩
  |false =>simp only[hb,cond_false] at h;obtain⟨x,hx,Z2⟩:=aS.BO h;exact⟨x,by simp[hx],Z2⟩
theorem FB{α β:Type}{f g:α→β} : ∀{l:List α},l.map f=l.map g→∀x∈l,f x=g x
 |[],_,x,hx=>by cases hx
 |y::l,h,x,hx=>by
  rw[agD,agD] at h;injection h with h1 h2
  rcases agp.1 hx with rfl|hx
  ·exact h1
  ·exact FB h2 x hx
theorem Lc{ts rs:List Nat}{s:St}{y:NF}(h:nf ts rs s=some y):(∀x∈s.env,x.1∈ts)∧(∀x∈s.aG,x.1∈rs)∧y=(ts.map s.env.get,rs.map s.aG.ej):=by
 unfold nf at h;cases hb:(s.env.all (fun x=>ts.contains x.1)&&s.aG.all (fun x=>rs.contains x.1)) with
 |false=>rw[hb] at h;cases h
 |true =>
  simp only[hb,cond_true] at h;injection h with h
  rw[afX,agy,agy] at hb;exact⟨fun x hx=>by simpa using hb.1 x hx,fun x hx=>by simpa using hb.2 x hx,h.symm⟩
theorem Rv{ts rs:List Nat}{s1 s2:St}{y:NF}(h1:nf ts rs s1=some y)(h2:nf ts rs s2=some y):Ra s1 s2:=by
 obtain⟨a1,b1,e1⟩:=Lc h1;obtain⟨a2,b2,e2⟩:=Lc h2;rw[e1] at e2;injection e2 with q1 q2
 refine⟨fun t => ?_,fun r => ?_⟩
 ·by_cases ht:t∈ts
  ·exact(FB q1 t ht).symm
  ·cases g1:s1.env.get t with
   |some e=>obtain⟨x,hx,rfl⟩:=Env.FA g1;exact absurd (a1 x hx) ht
   |none =>
    cases g2:s2.env.get t with
    |some e=>obtain⟨x,hx,rfl⟩:=Env.FA g2;exact absurd (a2 x hx) ht
    |none=>rfl
 ·have key:∀r,s2.aG.ej r=s1.aG.ej r:=fun r=>by
   by_cases ht:r∈rs
   ·exact(FB q2 r ht).symm
   ·cases g1:s1.aG.ej r with
    |some e=>obtain⟨x,hx,rfl⟩:=aS.BO g1;exact absurd (b1 x hx) ht
    |none =>
     cases g2:s2.aG.ej r with
     |some e=>obtain⟨x,hx,rfl⟩:=aS.BO g2;exact absurd (b2 x hx) ht
     |none=>rfl
  unfold aS.get aS.hp;rw[key,key]
theorem MI{n:Nat}{hs:List Hint}{al ts rs:List Nat}{can:List (List Prop)}{U:List Nat}{i:Nat}(h:K6 P T n ops hs al ts rs s (U,i)=K7 P T n ops hs al ts rs s can (U,i))
  {sU:St} {oU:List (List Prop)} (hU:An P T n ops hs U al s=some (sU,oU)) :
  ∃o s1 s2 o2,ops[i]? = some o∧stepG P T n ops o (hs.getD i .none) sU=some (s1,can.getD (Rq al i) [])∧An P T n ops hs (HO U i) al s=some (s2,o2)∧Ra s1 s2:=by
 unfold K6 K7 at h;simp only[hU] at h;have hr:∀(ob:List Prop) (y:NF),((0:Nat),(([],[]):NF),([]:List Prop))≠(1,y,ob):=fun ob y e=>by injection e with e;cases e
 cases h2:An P T n ops hs (HO U i) al s with
 |none =>
  simp only[h2] at h;exfalso;split at h
  ·split at h
   ·split at h
    ·injection h with e;cases e
    ·injection h with e;cases e
   ·injection h with e;cases e
  ·injection h with e;cases e
 |some p =>
  obtain⟨s2,o2⟩:=p;simp only[h2] at h;cases h3:nf ts rs s2 with
  |none =>
   simp only[h3] at h;exfalso;split at h
   ·split at h
    ·split at h
     ·injection h with e;cases e
     ·injection h with e;cases e
    ·injection h with e;cases e
   ·injection h with e;cases e
  |some y2 =>
   simp only[h3] at h;split at h
   ·rename_i o ho;split at h
    ·rename_i s1 ob aK;split at h
     ·rename_i y hy;injection h with _ h;injection h with e1 e2
      subst e1;subst e2;exact⟨o,s1,s2,o2,ho,aK,rfl,Rv hy h3⟩
     ·injection h with e;cases e
    ·injection h with e;cases e
   ·injection h with e;cases e
theorem OK{fl:List Nat}{i:Nat} : i∈JQ ops fl↔i<ops.size∧i ∉ fl:=by unfold JQ;rw[ain,aiw];simp
theorem DK(hm:P.follows .mixedOrders=true)(hT:n8 P T)(hs:∀r,bB Γ.sin r→Γ.n≤r)(hQ:∀c a w d v,Q (.panic c) (Act.put a d v) w→Q (.panic c) a w){id:Nat}{fl:List Nat}{Us:List (List Nat)}{hints:List Hint}{ob:List Prop}(hr:Rel Γ s a w)
  (aK:Fz P T Γ.n ops fl (JQ ops fl) Us hints s=some (s',ob)) (bT:dK ob) (hk:∀a' w',Rel Γ s' a' w'→Q .normal a' w'):(Code.region id ops true).wp P Q a w:=by
 refine wp_region_any hm ?_;unfold Fz at aK;generalize BP:JQ ops fl=al at aK;cases s9:(Us.contains al&&(zC ops Us).all (fun x=>Us.contains (HO x.1 x.2))&&fwd ops [] (List.range ops.size)&&Region.noSelect ops&&(List.range ops.size).all (fun i=>(jm ops i).all fun e=>Nat.blt e ops.size)&&yC fl&&fl.all (fun i=>Nat.blt i ops.size)) with
 |false=>rw[s9] at aK;cases aK
 |true =>
  simp only[s9,cond_true] at aK;split at aK
  ·rename_i s0 Hr;split at aK
   ·rename_i s1 can W2;injection aK with aK;injection aK with e1 e2
    subst e1;subst e2;obtain⟨g1,g2⟩:=bT.app;have g2:Ul P T Γ.n ops al Us hints s0=Um P T Γ.n ops al Us hints s0:=g2;unfold Ul Um S0 at g2;rw[W2,La] at g2;have g2:(zC ops Us).map (K6 P T Γ.n ops hints al (K8 ops s0) (K9 ops s0) s0)=(zC ops Us).map (K7 P T Γ.n ops hints al (K8 ops s0) (K9 ops s0) s0 can):=g2;simp only[Bool.and_eq_true,List.all_eq_true] at s9;obtain⟨⟨⟨⟨⟨⟨c1,c2⟩,c3⟩,c4⟩,c5⟩,c6⟩,c7⟩:=s9;have W3:al∈Us:=by simpa using c1
    have HV:∀i,i∈al↔i<ops.size∧i ∉ fl:=fun i=>by rw[←BP];exact OK
    have Ei:∀i,i<ops.size→∀e∈jm ops i,e<ops.size:=fun i hi e he=>afS (c5 i (by simpa using hi) e he)
    have main:∀(fuel:Nat) (U:List Nat) (listed:Array Bool) (a:Act) (w:World) (sU:St) (oU:List (List Prop)),U.length=fuel→U∈Us→U.Nodup→(∀i∈U,i<ops.size)→OB ops listed U →
      An P T Γ.n ops hints U al s0=some (sU,oU)→Rel Γ sU a w→wpAny P .any ops Q fuel listed a w:=by
     intro fuel
     induction fuel with
     |zero =>
      intro U listed a w sU oU hlen _ _ _ hl hU kC;have:U=[]:=afP hlen;subst this;rw[W2] at hU;injection hU with hU;injection hU with e1 _
      subst e1;refine⟨?_,hk a w kC⟩;apply aj9.2;intro i hi;have bH:i<ops.size:=by rw[mem_ready] at hi;obtain⟨_,o,ho,_⟩:=hi;exact(agY.1 ho).1
      have:=(ke hl (Ei i bH)).1 hi;simp at this
     |succ fuel ih =>
      intro U listed a w sU oU hlen hUs hn bH hl hU kC;refine⟨fun Fk => ?_,fun i hi => ?_⟩
      ·have et:∃i,i∈List.range ops.size∧i∈U:=by
        cases U with
        |nil=>cases hlen
        |cons j U=>exact⟨j,by simpa using bH j (by simp),by simp⟩
       obtain⟨j,_,HC,Z1⟩:=yB ops U (List.range ops.size) [] c3 (fun e he=>by cases he) et;have:j∈Region.ready .any ops listed:=(ke hl (Ei j (bH j HC))).2 ⟨bH j HC,HC,Z1⟩;rw[Fk] at this;cases this
      ·have hil:i<ops.size:=by
        have hi':=hi;rw[mem_ready] at hi';obtain⟨_,o,ho,_⟩:=hi';exact(agY.1 ho).1
       obtain⟨_,NG,oW⟩:=(ke hl (Ei i hil)).1 hi;have HV:(U,i)∈zC ops Us:=by unfold zC;refine List.mem_flatMap.2 ⟨U,hUs,agI.2 ⟨i,ain.2 ⟨NG,?_⟩,rfl⟩⟩;rw[agy];intro e he;simpa using oW e he
       obtain⟨o,s1',s2,o2,ho,Ld,W4,OI⟩:=MI (FB g2 (U,i) HV) hU;unfold wpOp;rw[ho];refine tC hT hs kC Ld (Lb can (Rq al i) g1) (fun a' w' dI => ?_);have hEU:HO U i∈Us:=by simpa using c2 (U,i) HV
       exact ih (HO U i) _ a' w' s2 o2 (by have:=KZ hn NG;omega) hEU (aje _ hn) (fun j hj=>bH j (oA.1 hj).1) (hl.set hil) W4 (Rel.Rb OI dI)
    have dI:Rel Γ s a w.drew:=by obtain⟨β,I,hr⟩:=hr;exact⟨β,I,hr.grow ((Ds.refl _ _).drew) (fun b h=>h) (fun b h => .inl h)⟩
    have h0:∀(l:List Nat) (U:List Nat),(∀i∈l,i∈U)→An P T Γ.n ops hints U l s0=some (s0,[]):=by
     intro l
     induction l with
     |nil=>intro U _;rfl
     |cons i l ih =>
      intro U h;unfold An;have:U.contains i=true:=by simpa using h i (by simp)
      rw[this];exact ih U (fun j hj=>h j (by simp[hj]))
    have hnf:fl.Nodup:=tG c6;have hna:al.Nodup:=by rw[←BP];exact aje _ List.nodup_range
    have hlf:∀i∈fl,i<ops.size:=fun i hi=>afS (c7 i hi)
    have OJ:∀i∈fl,i ∉ al:=fun i hi h=>((HV i).1 h).2 hi
    have hlen:fl.length+al.length=ops.size:=by
     have ZT:(fl++al).Nodup:=ahL.2 ⟨hnf,hna,fun i hi j hj e=>OJ i hi (e ▸ hj)⟩;have h1:=ahx (l₁:=fl++al) (l₂:=List.range ops.size) ZT (fun j hj=>by
      rw[aiw];rcases ah6.1 hj with h|h
      ·exact hlf j h
      ·exact((HV j).1 h).1)
     have h2:=ahx (l₁:=List.range ops.size) (l₂:=fl++al) List.nodup_range (fun j hj=>by
      rw[aiw] at hj;rw[ah6];by_cases h:j∈fl
      ·exact .inl h
      ·exact .inr ((HV j).2 ⟨hj,h⟩))
     rw[agB,ahn] at h1 h2;omega
    have key:=vR (Q:=Q) (s0:=s0) (rest:=al.length) hT c4 hQ al (fun listed a w hl kC =>
     main al.length al listed a w s0 [] rfl W3 hna (fun i hi=>((HV i).1 hi).1) hl (h0 _ _ (fun i hi=>hi)) kC)
     fl (fl++al) (Array.replicate ops.size false) s a w.drew (fun j=>by rw[ah6];exact Or.comm) OJ hnf hlf
     ⟨by simp,fun j hj=>by
      constructor
      ·intro h;have hf:(Array.replicate ops.size false).getD j false=false:=by simp[Array.getD_eq_getD_getElem?,hj]
       rw[hf] at h;cases h
      ·intro h;refine absurd ?_ h;rw[ah6];by_cases hf:j∈fl
       ·exact .inl hf
       ·exact .inr ((HV j).2 ⟨hj,hf⟩)⟩ dI Hr
    rw[hlen] at key;exact key
   ·cases aK
  ·cases aK
end
end Go.Proofs.YtcpnocgollpbhaaGreatDoor.Sym
