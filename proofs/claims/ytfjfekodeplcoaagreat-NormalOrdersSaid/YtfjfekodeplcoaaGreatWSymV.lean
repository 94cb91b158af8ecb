/- Lemmas for the statements of this seat. -/
import Derived.Test.YtfjfekodeplcoaaGreatWSymT
namespace Go.Proofs.YtfjfekodeplcoaaGreat.Sym
open Go Go.RowKit
def wM(P:Program)(T:jZ)(n:Nat)(ops:Array Oper)(hs:List Hint)(U:List Nat):List Nat→St→Option (St×List (List Prop))
 |[],s=>some (s,[])
 |i::l,s=>bif U.contains i then wM P T n ops hs U l s else match ops[i]? with
  |some o=>match stepG P T n ops o (hs.getD i .none) s with
   |some (s1,ob)=>match wM P T n ops hs U l s1 with
    |some (s2,obs)=>some (s2,ob::obs)
    |none=>none
   |none=>none
  |none=>none
abbrev NF:=List (Option EV)×List (Option SC)
def nf(ts rs:List Nat)(s:St):Option NF :=
 bif s.env.all (fun x=>ts.contains x.1)&&s.sto.all (fun x=>rs.contains x.1) then some (ts.map s.env.get,rs.map s.sto.dX) else none
def J0:List Nat→Nat→Nat
 |[],_=>0
 |x::r,i=>bif Nat.beq x i then 0 else J0 r i+1
def E6(P:Program)(T:jZ)(n:Nat)(ops:Array Oper)(hs:List Hint)(al ts rs:List Nat)(s:St)(x:List Nat×Nat):Nat×NF×List Prop :=
 match wM P T n ops hs x.1 al s with
 |some (sU,_)=>match ops[x.2]? with
  |some o=>match stepG P T n ops o (hs.getD x.2 .none) sU with
   |some (s',ob)=>match nf ts rs s' with
    |some y=>(1,y,ob)
    |none=>(0,([],[]),[])
   |none=>(0,([],[]),[])
  |none=>(0,([],[]),[])
 |none=>(0,([],[]),[])
def E7(P:Program)(T:jZ)(n:Nat)(ops:Array Oper)(hs:List Hint)(al ts rs:List Nat)(s:St)(can:List (List Prop))(x:List Nat×Nat):Nat×NF×List Prop :=
 match wM P T n ops hs (CC x.1 x.2) al s with
 |some (Pp,_)=>match nf ts rs Pp with
  |some y=>(1,y,can.getD (J0 al x.2) [])
  |none=>(2,([],[]),[])
 |none=>(2,([],[]),[])
def wa(ops:Array Oper)(Us:List (List Nat)):List (List Nat×Nat) :=
 Us.flatMap fun U=>(U.filter fun i=>(iq ops i).all fun e => !(U.contains e)).map fun i=>(U,i)
def E8(ops:Array Oper)(s:St):List Nat:=s.env.map (·.1)++ops.toList.filterMap (·.dst)
def E9(ops:Array Oper)(s:St):List Nat:=s.sto.map (·.1)++(ops.toList.filterMap (·.dst)++[999999])
def J1{α β:Type}(f:α→β):List α→List β
 |[]=>[]
 |x::l=>f x::J1 f l
theorem Fa{α β:Type}(f:α→β):∀l:List α,J1 f l=l.map f
 |[]=>rfl
 |x::l=>by rw[J1,Fa f l,List.map_cons]
def K6(P:Program)(T:jZ)(n:Nat)(ops:Array Oper)(hs:List Hint)(al:List Nat)(s:St):List (List Prop) :=
 match wM P T n ops hs [] al s with
 |some (_,can)=>can
 |none=>[]
def wN(P:Program)(T:jZ)(n:Nat)(ops:Array Oper)(al:List Nat)(Us:List (List Nat))(hs:List Hint)(s:St):List (Nat×NF×List Prop) :=
 (wa ops Us).map (E6 P T n ops hs al (E8 ops s) (E9 ops s) s)
def wO(P:Program)(T:jZ)(n:Nat)(ops:Array Oper)(al:List Nat)(Us:List (List Nat))(hs:List Hint)(s:St):List (Nat×NF×List Prop) :=
 J1 (E7 P T n ops hs al (E8 ops s) (E9 ops s) s (K6 P T n ops hs al s)) (wa ops Us)
def lvl(ops:Array Oper)(l:List (List Nat)):List (List Nat) :=
 (l.flatMap fun U=>(U.filter fun i=>(iq ops i).all fun e => !(U.contains e)).map (CC U)).eraseDups
def lvls(ops:Array Oper):Nat→List (List Nat)→List (List Nat)
 |0,l=>l
 |n+1,l=>l++lvls ops n (lvl ops l)
def nq(ops:Array Oper)(fl:List Nat):List Nat:=(List.range ops.size).filter fun i => !(fl.contains i)
def kZ(ops:Array Oper)(fl:List Nat):List (List Nat):=lvls ops ops.size [nq ops fl]
def BY(T:jZ)(n:Nat)(ops:Array Oper)(fl:List Nat)(s:St):St:=(vo T n ops fl (Array.replicate ops.size false) s).getD s
def A1(P:Program)(T:jZ)(n:Nat)(ops:Array Oper)(fl:List Nat)(al:List Nat)(Us:List (List Nat))(hs:List Hint)(s:St):Option (St×List Prop) :=
 bif Us.contains al&&(wa ops Us).all (fun x=>Us.contains (CC x.1 x.2))&&fwd ops [] (List.range ops.size)&&Region.noSelect ops&&(List.range ops.size).all (fun i=>(iq ops i).all fun e=>Nat.blt e ops.size)&&vm fl&&fl.all (fun i=>Nat.blt i ops.size) then
  match vo T n ops fl (Array.replicate ops.size false) s with
  |some s0=>match wM P T n ops hs [] al s0 with
   |some (s',can)=>some (s',can.flatten++[wN P T n ops al Us hs s0=wO P T n ops al Us hs s0])
   |none=>none
  |none=>none
 else none
section
variable {P:Program} {T:jZ} {Γ:Ctx} {s s':St} {a:Act} {w:World} {ops:Array Oper} {Q:Exit→Act→World→Prop}
theorem Fb:∀(can:List (List Prop)) (i:Nat),dw can.flatten→dw (can.getD i [])
 |[],i,_=>by simp[dw]
 |c::can,0,h=>by
  rw[List.flatten_cons] at h
  exact(dw.app h).1
 |c::can,i+1,h=>by
  rw[List.flatten_cons] at h
  have:=Fb can i (dw.app h).2
  simpa using this
theorem Env.A2:∀{env:Env} {t:Nat} {e:EV},env.get t=some e→∃x∈env,x.1=t
 |[],t,e,h=>by simp[Env.get] at h
 |(t',e')::r,t,e,h=>by
  simp only[Env.get] at h
  cases hb:Nat.beq t' t with
  |true=>exact⟨(t',e'),by simp,Nat.eq_of_beq_eq_true hb⟩
  |false =>
   simp only[hb,cond_false] at h
   obtain⟨x,hx,QH⟩:=Env.A2 h
   exact⟨x,by simp[hx],QH⟩
theorem aN.yg:∀{sto:aN} {t:Nat} {e:SC},sto.dX t=some e→∃x∈sto,x.1=t
 |[],t,e,h=>by simp[aN.dX] at h
 |(t',e')::r,t,e,h=>by
  simp only[aN.dX] at h
  cases hb:Nat.beq t' t with
  |true=>exact⟨(t',e'),by simp,Nat.eq_of_beq_eq_true hb⟩
  |false =>
   simp only[hb,cond_false] at h
   obtain⟨x,hx,QH⟩:=aN.yg h
   exact⟨x,by simp[hx],QH⟩
theorem A3{α β:Type}{f g:α→β} : ∀{l:List α},l.map f=l.map g→∀x∈l,f x=g x
 |[],_,x,hx=>by cases hx
 |y::l,h,x,hx=>by
  rw[List.map_cons,List.map_cons] at h
  injection h with h1 h2
  rcases List.mem_cons.1 hx with rfl|hx
  ·exact h1
  ·exact A3 h2 x hx
theorem Fc{ts rs:List Nat}{s:St}{y:NF}(h:nf ts rs s=some y):(∀x∈s.env,x.1∈ts)∧(∀x∈s.sto,x.1∈rs)∧y=(ts.map s.env.get,rs.map s.sto.dX):=by
 unfold nf at h
 cases hb:(s.env.all (fun x=>ts.contains x.1)&&s.sto.all (fun x=>rs.contains x.1)) with
 |false=>rw[hb] at h;cases h
 |true =>
  simp only[hb,cond_true] at h
  injection h with h
  rw[Bool.and_eq_true,List.all_eq_true,List.all_eq_true] at hb
  exact⟨fun x hx=>by simpa using hb.1 x hx,fun x hx=>by simpa using hb.2 x hx,h.symm⟩
theorem J2{ts rs:List Nat}{s1 s2:St}{y:NF}(h1:nf ts rs s1=some y)(h2:nf ts rs s2=some y):JJ s1 s2:=by
 obtain⟨a1,b1,e1⟩:=Fc h1
 obtain⟨a2,b2,e2⟩:=Fc h2
 rw[e1] at e2
 injection e2 with q1 q2
 refine⟨fun t => ?_,fun r => ?_⟩
 ·by_cases ht:t∈ts
  ·exact(A3 q1 t ht).symm
  ·cases g1:s1.env.get t with
   |some e=>obtain⟨x,hx,rfl⟩:=Env.A2 g1;exact absurd (a1 x hx) ht
   |none =>
    cases g2:s2.env.get t with
    |some e=>obtain⟨x,hx,rfl⟩:=Env.A2 g2;exact absurd (a2 x hx) ht
    |none=>rfl
 ·have key:∀r,s2.sto.dX r=s1.sto.dX r:=fun r=>by
   by_cases ht:r∈rs
   ·exact(A3 q2 r ht).symm
   ·cases g1:s1.sto.dX r with
    |some e=>obtain⟨x,hx,rfl⟩:=aN.yg g1;exact absurd (b1 x hx) ht
    |none =>
     cases g2:s2.sto.dX r with
     |some e=>obtain⟨x,hx,rfl⟩:=aN.yg g2;exact absurd (b2 x hx) ht
     |none=>rfl
  unfold aN.get aN.hp
  rw[key,key]
theorem F7{n:Nat}{hs:List Hint}{al ts rs:List Nat}{can:List (List Prop)}{U:List Nat}{i:Nat}(h:E6 P T n ops hs al ts rs s (U,i)=E7 P T n ops hs al ts rs s can (U,i))
  {sU:St} {oU:List (List Prop)} (hU:wM P T n ops hs U al s=some (sU,oU)) :
  ∃o s1 s2 o2,ops[i]? = some o∧stepG P T n ops o (hs.getD i .none) sU=some (s1,can.getD (J0 al i) [])∧wM P T n ops hs (CC U i) al s=some (s2,o2)∧JJ s1 s2:=by
 unfold E6 E7 at h
 simp only[hU] at h
 have hr:∀(ob:List Prop) (y:NF),((0:Nat),(([],[]):NF),([]:List Prop))≠(1,y,ob):=fun ob y e=>by injection e with e;cases e
 cases h2:wM P T n ops hs (CC U i) al s with
 |none =>
  simp only[h2] at h
  exfalso
  split at h
  ·split at h
   ·split at h
    ·injection h with e;cases e
    ·injection h with e;cases e
   ·injection h with e;cases e
  ·injection h with e;cases e
 |some p =>
  obtain⟨s2,o2⟩:=p
  simp only[h2] at h
  cases h3:nf ts rs s2 with
  |none =>
   simp only[h3] at h
   exfalso
   split at h
   ·split at h
    ·split at h
     ·injection h with e;cases e
     ·injection h with e;cases e
    ·injection h with e;cases e
   ·injection h with e;cases e
  |some y2 =>
   simp only[h3] at h
   split at h
   ·rename_i o ho
    split at h
    ·rename_i s1 ob aP
     split at h
     ·rename_i y hy
      injection h with _ h;injection h with e1 e2
      subst e1;subst e2
      exact⟨o,s1,s2,o2,ho,aP,rfl,J2 hy h3⟩
     ·injection h with e;cases e
    ·injection h with e;cases e
   ·injection h with e;cases e
theorem HL{fl:List Nat}{i:Nat} : i∈nq ops fl↔i<ops.size∧i ∉ fl:=by
 unfold nq
 rw[List.mem_filter,List.mem_range]
 simp
theorem zH(hm:P.follows .mixedOrders=true)(hT:mN P T)(hs:∀r,bk Γ.sin r→Γ.n≤r)(hQ:∀c a w d v,Q (.panic c) (Act.put a d v) w→Q (.panic c) a w){id:Nat}{fl:List Nat}{Us:List (List Nat)}{hints:List Hint}{ob:List Prop}(hr:Rel Γ s a w)
  (aP:A1 P T Γ.n ops fl (nq ops fl) Us hints s=some (s',ob)) (cd:dw ob) (hk:∀a' w',Rel Γ s' a' w'→Q .normal a' w'):(Code.region id ops true).wp P Q a w:=by
 refine wp_region_any hm ?_
 unfold A1 at aP
 generalize J3:nq ops fl=al at aP
 cases ri:(Us.contains al&&(wa ops Us).all (fun x=>Us.contains (CC x.1 x.2))&&fwd ops [] (List.range ops.size)&&Region.noSelect ops&&(List.range ops.size).all (fun i=>(iq ops i).all fun e=>Nat.blt e ops.size)&&vm fl&&fl.all (fun i=>Nat.blt i ops.size)) with
 |false=>rw[ri] at aP;cases aP
 |true =>
  simp only[ri,cond_true] at aP
  split at aP
  ·rename_i s0 FV
   split at aP
   ·rename_i s1 can Oh
    injection aP with aP;injection aP with e1 e2
    subst e1;subst e2
    obtain⟨g1,g2⟩:=cd.app
    have g2:wN P T Γ.n ops al Us hints s0=wO P T Γ.n ops al Us hints s0:=g2
    unfold wN wO K6 at g2
    rw[Oh,Fa] at g2
    have g2:(wa ops Us).map (E6 P T Γ.n ops hints al (E8 ops s0) (E9 ops s0) s0)=(wa ops Us).map (E7 P T Γ.n ops hints al (E8 ops s0) (E9 ops s0) s0 can):=g2
    simp only[Bool.and_eq_true,List.all_eq_true] at ri
    obtain⟨⟨⟨⟨⟨⟨c1,c2⟩,c3⟩,c4⟩,c5⟩,c6⟩,c7⟩:=ri
    have Oi:al∈Us:=by simpa using c1
    have vr:∀i,i∈al↔i<ops.size∧i ∉ fl:=fun i=>by rw[←J3];exact HL
    have Ah:∀i,i<ops.size→∀e∈iq ops i,e<ops.size:=fun i hi e he=>Nat.le_of_ble_eq_true (c5 i (by simpa using hi) e he)
    have main:∀(fuel:Nat) (U:List Nat) (bI:Array Bool) (a:Act) (w:World) (sU:St) (oU:List (List Prop)),U.length=fuel→U∈Us→U.Nodup→(∀i∈U,i<ops.size)→HA ops bI U →
      wM P T Γ.n ops hints U al s0=some (sU,oU)→Rel Γ sU a w→wpAny P .any ops Q fuel bI a w:=by
     intro fuel
     induction fuel with
     |zero =>
      intro U bI a w sU oU hlen _ _ _ hl hU jL
      have:U=[]:=List.eq_nil_of_length_eq_zero hlen
      subst this
      rw[Oh] at hU
      injection hU with hU;injection hU with e1 _
      subst e1
      refine⟨?_,hk a w jL⟩
      apply List.eq_nil_iff_forall_not_mem.2
      intro i hi
      have cN:i<ops.size:=by
       rw[mem_ready] at hi
       obtain⟨_,o,ho,_⟩:=hi
       exact(Array.getElem?_eq_some_iff.1 ho).1
      have:=(ju hl (Ah i cN)).1 hi
      simp at this
     |succ fuel ih =>
      intro U bI a w sU oU hlen T5 hn cN hl hU jL
      refine⟨fun AO => ?_,fun i hi => ?_⟩
      ·have iN:∃i,i∈List.range ops.size∧i∈U:=by
        cases U with
        |nil=>cases hlen
        |cons j U=>exact⟨j,by simpa using cN j (by simp),by simp⟩
       obtain⟨j,_,DZ,QG⟩:=vl ops U (List.range ops.size) [] c3 (fun e he=>by cases he) iN
       have:j∈Region.ready .any ops bI:=(ju hl (Ah j (cN j DZ))).2 ⟨cN j DZ,DZ,QG⟩
       rw[AO] at this;cases this
      ·have HM:i<ops.size:=by
        have HI:=hi
        rw[mem_ready] at HI
        obtain⟨_,o,ho,_⟩:=HI
        exact(Array.getElem?_eq_some_iff.1 ho).1
       obtain⟨_,GM,oA⟩:=(ju hl (Ah i HM)).1 hi
       have vr:(U,i)∈wa ops Us:=by
        unfold wa
        refine List.mem_flatMap.2 ⟨U,T5,List.mem_map.2 ⟨i,List.mem_filter.2 ⟨GM,?_⟩,rfl⟩⟩
        rw[List.all_eq_true]
        intro e he
        simpa using oA e he
       obtain⟨o,Vw,s2,o2,ho,Fe,Oj,HJ⟩:=F7 (A3 g2 (U,i) vr) hU
       unfold wpOp
       rw[ho]
       refine rA hT hs jL Fe (Fb can (J0 al i) g1) (fun a' w' dx => ?_)
       have T6:CC U i∈Us:=by simpa using c2 (U,i) vr
       exact ih (CC U i) _ a' w' s2 o2 (by have:=E2 hn GM;omega) T6 (List.Pairwise.filter _ hn) (fun j hj=>cN j (np.1 hj).1) (hl.set HM) Oj (Rel.JK HJ dx)
    have dx:Rel Γ s a w.drew:=by
     obtain⟨β,I,hr⟩:=hr
     exact⟨β,I,hr.grow ((wx.refl _ _).drew) (fun b h=>h) (fun b h => .inl h)⟩
    have h0:∀(l:List Nat) (U:List Nat),(∀i∈l,i∈U)→wM P T Γ.n ops hints U l s0=some (s0,[]):=by
     intro l
     induction l with
     |nil=>intro U _;rfl
     |cons i l ih =>
      intro U h
      unfold wM
      have:U.contains i=true:=by simpa using h i (by simp)
      rw[this]
      exact ih U (fun j hj=>h j (by simp[hj]))
    have Ss:fl.Nodup:=rE c6
    have Su:al.Nodup:=by rw[←J3];exact List.Pairwise.filter _ List.nodup_range
    have Sv:∀i∈fl,i<ops.size:=fun i hi=>Nat.le_of_ble_eq_true (c7 i hi)
    have HK:∀i∈fl,i ∉ al:=fun i hi h=>((vr i).1 h).2 hi
    have hlen:fl.length+al.length=ops.size:=by
     have Qx:(fl++al).Nodup:=List.nodup_append.2 ⟨Ss,Su,fun i hi j hj e=>HK i hi (e ▸ hj)⟩
     have h1:=List.Nodup.length_le_of_subset (l₁:=fl++al) (l₂:=List.range ops.size) Qx (fun j hj=>by
      rw[List.mem_range]
      rcases List.mem_append.1 hj with h|h
      ·exact Sv j h
      ·exact((vr j).1 h).1)
     have h2:=List.Nodup.length_le_of_subset (l₁:=List.range ops.size) (l₂:=fl++al) List.nodup_range (fun j hj=>by
      rw[List.mem_range] at hj
      rw[List.mem_append]
      by_cases h:j∈fl
      ·exact .inl h
      ·exact .inr ((vr j).2 ⟨hj,h⟩))
     rw[List.length_append,List.length_range] at h1 h2
     omega
    have key:=tx (Q:=Q) (s0:=s0) (rest:=al.length) hT c4 hQ al (fun bI a w hl jL =>
     main al.length al bI a w s0 [] rfl Oi Su (fun i hi=>((vr i).1 hi).1) hl (h0 _ _ (fun i hi=>hi)) jL)
     fl (fl++al) (Array.replicate ops.size false) s a w.drew (fun j=>by rw[List.mem_append];exact Or.comm) HK Ss Sv
     ⟨by simp,fun j hj=>by
      constructor
      ·intro h
       have hf:(Array.replicate ops.size false).getD j false=false:=by simp[Array.getD_eq_getD_getElem?,hj]
       rw[hf] at h;cases h
      ·intro h
       refine absurd ?_ h
       rw[List.mem_append]
       by_cases hf:j∈fl
       ·exact .inl hf
       ·exact .inr ((vr j).2 ⟨hj,hf⟩)⟩ dx FV
    rw[hlen] at key
    exact key
   ·cases aP
  ·cases aP
end
end Go.Proofs.YtfjfekodeplcoaaGreat.Sym
