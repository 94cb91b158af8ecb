/- Lemmas for the statements of this seat. -/
import Derived.Test.YtllmkadmohkbfaaGreatDoorWSymT
namespace Go.Proofs.YtllmkadmohkbfaaGreatDoor.Sym
open Go Go.RowKit
def Fy(P:Program)(T:qU)(n:Nat)(ops:Array Oper)(hs:List Hint)(U:List Nat):List Nat→St→Option (St×List (List Prop))
 |[],s=>some (s,[])
 |i::l,s=>bif U.contains i then Fy P T n ops hs U l s else match ops[i]? with
  |some o=>match stepG P T n ops o (hs.getD i .none) s with
   |some (s1,ob)=>match Fy P T n ops hs U l s1 with
    |some (s2,obs)=>some (s2,ob::obs)
    |none=>none
   |none=>none
  |none=>none
abbrev NF:=List (Option EV)×List (Option SC)
def nf(ts rs:List Nat)(s:St):Option NF :=
 bif s.env.all (fun x=>ts.contains x.1)&&s.bp.all (fun x=>rs.contains x.1) then some (ts.map s.env.get,rs.map s.bp.jG) else none
def SU:List Nat→Nat→Nat
 |[],_=>0
 |x::r,i=>bif Nat.beq x i then 0 else SU r i+1
def N9(P:Program)(T:qU)(n:Nat)(ops:Array Oper)(hs:List Hint)(al ts rs:List Nat)(s:St)(x:List Nat×Nat):Nat×NF×List Prop :=
 match Fy P T n ops hs x.1 al s with
 |some (sU,_)=>match ops[x.2]? with
  |some o=>match stepG P T n ops o (hs.getD x.2 .none) sU with
   |some (s',ob)=>match nf ts rs s' with
    |some y=>(1,y,ob)
    |none=>(0,([],[]),[])
   |none=>(0,([],[]),[])
  |none=>(0,([],[]),[])
 |none=>(0,([],[]),[])
def Oa(P:Program)(T:qU)(n:Nat)(ops:Array Oper)(hs:List Hint)(al ts rs:List Nat)(s:St)(can:List (List Prop))(x:List Nat×Nat):Nat×NF×List Prop :=
 match Fy P T n ops hs (K6 x.1 x.2) al s with
 |some (Yd,_)=>match nf ts rs Yd with
  |some y=>(1,y,can.getD (SU al x.2) [])
  |none=>(2,([],[]),[])
 |none=>(2,([],[]),[])
def ES(ops:Array Oper)(Us:List (List Nat)):List (List Nat×Nat) :=
 Us.flatMap fun U=>(U.filter fun i=>(oe ops i).all fun e => !(U.contains e)).map fun i=>(U,i)
def Ob(ops:Array Oper)(s:St):List Nat:=s.env.map (·.1)++ops.toList.filterMap (·.dst)
def Oc(ops:Array Oper)(s:St):List Nat:=s.bp.map (·.1)++(ops.toList.filterMap (·.dst)++[999999])
def SV{α β:Type}(f:α→β):List α→List β
 |[]=>[]
 |x::l=>f x::SV f l
theorem Od{α β:Type}(f:α→β):∀l:List α,SV f l=l.map f
 |[]=>rfl
 |x::l=>by rw[SV,Od f l,List.map_cons]
def TZ(P:Program)(T:qU)(n:Nat)(ops:Array Oper)(hs:List Hint)(al:List Nat)(s:St):List (List Prop) :=
 match Fy P T n ops hs [] al s with
 |some (_,can)=>can
 |none=>[]
def uu(P:Program)(T:qU)(n:Nat)(ops:Array Oper)(al:List Nat)(Us:List (List Nat))(hs:List Hint)(s:St):List (Nat×NF×List Prop) :=
 (ES ops Us).map (N9 P T n ops hs al (Ob ops s) (Oc ops s) s)
def uv(P:Program)(T:qU)(n:Nat)(ops:Array Oper)(al:List Nat)(Us:List (List Nat))(hs:List Hint)(s:St):List (Nat×NF×List Prop) :=
 SV (Oa P T n ops hs al (Ob ops s) (Oc ops s) s (TZ P T n ops hs al s)) (ES ops Us)
def lvl(ops:Array Oper)(l:List (List Nat)):List (List Nat) :=
 (l.flatMap fun U=>(U.filter fun i=>(oe ops i).all fun e => !(U.contains e)).map (K6 U)).eraseDups
def lvls(ops:Array Oper):Nat→List (List Nat)→List (List Nat)
 |0,l=>l
 |n+1,l=>l++lvls ops n (lvl ops l)
def kW(ops:Array Oper)(fl:List Nat):List Nat:=(List.range ops.size).filter fun i => !(fl.contains i)
def iL(ops:Array Oper)(fl:List Nat):List (List Nat):=lvls ops ops.size [kW ops fl]
def wB(T:qU)(n:Nat)(ops:Array Oper)(fl:List Nat)(s:St):St:=(Ef T n ops fl (Array.replicate ops.size false) s).getD s
def JM(P:Program)(T:qU)(n:Nat)(ops:Array Oper)(fl:List Nat)(al:List Nat)(Us:List (List Nat))(hs:List Hint)(s:St):Option (St×List Prop) :=
 bif Us.contains al&&(ES ops Us).all (fun x=>Us.contains (K6 x.1 x.2))&&fwd ops [] (List.range ops.size)&&Region.noSelect ops&&(List.range ops.size).all (fun i=>(oe ops i).all fun e=>Nat.blt e ops.size)&&Ee fl&&fl.all (fun i=>Nat.blt i ops.size) then
  match Ef T n ops fl (Array.replicate ops.size false) s with
  |some s0=>match Fy P T n ops hs [] al s0 with
   |some (s',can)=>some (s',can.flatten++[uu P T n ops al Us hs s0=uv P T n ops al Us hs s0])
   |none=>none
  |none=>none
 else none
section
variable {P:Program} {T:qU} {Γ:Ctx} {s s':St} {a:Act} {w:World} {ops:Array Oper} {Q:Exit→Act→World→Prop}
theorem Oe:∀(can:List (List Prop)) (i:Nat),je can.flatten→je (can.getD i [])
 |[],i,_=>by simp[je]
 |c::can,0,h=>by
  rw[List.flatten_cons] at h
  exact(je.app h).1
 |c::can,i+1,h=>by
  rw[List.flatten_cons] at h
  have:=Oe can i (je.app h).2
  simpa using this
theorem Env.JN:∀{env:Env} {t:Nat} {e:EV},env.get t=some e→∃x∈env,x.1=t
 |[],t,e,h=>by simp[Env.get] at h
 |(t',e')::r,t,e,h=>by
  simp only[Env.get] at h
  cases hb:Nat.beq t' t with
  |true=>exact⟨(t',e'),by simp,Nat.eq_of_beq_eq_true hb⟩
  |false =>
   simp only[hb,cond_false] at h
   obtain⟨x,hx,QN⟩:=Env.JN h
   exact⟨x,by simp[hx],QN⟩
theorem cq.GU:∀{bp:cq} {t:Nat} {e:SC},bp.jG t=some e→∃x∈bp,x.1=t
 |[],t,e,h=>by simp[cq.jG] at h
 |(t',e')::r,t,e,h=>by
  simp only[cq.jG] at h
  cases hb:Nat.beq t' t with
  |true=>exact⟨(t',e'),by simp,Nat.eq_of_beq_eq_true hb⟩
  |false =>
   simp only[hb,cond_false] at h
   obtain⟨x,hx,QN⟩:=cq.GU h
   exact⟨x,by simp[hx],QN⟩
theorem JO{α β:Type}{f g:α→β} : ∀{l:List α},l.map f=l.map g→∀x∈l,f x=g x
 |[],_,x,hx=>by cases hx
 |y::l,h,x,hx=>by
  rw[List.map_cons,List.map_cons] at h
  injection h with h1 h2
  rcases List.mem_cons.1 hx with rfl|hx
  ·exact h1
  ·exact JO h2 x hx
theorem Og{ts rs:List Nat}{s:St}{y:NF}(h:nf ts rs s=some y):(∀x∈s.env,x.1∈ts)∧(∀x∈s.bp,x.1∈rs)∧y=(ts.map s.env.get,rs.map s.bp.jG):=by
 unfold nf at h
 cases hb:(s.env.all (fun x=>ts.contains x.1)&&s.bp.all (fun x=>rs.contains x.1)) with
 |false=>rw[hb] at h;cases h
 |true =>
  simp only[hb,cond_true] at h
  injection h with h
  rw[Bool.and_eq_true,List.all_eq_true,List.all_eq_true] at hb
  exact⟨fun x hx=>by simpa using hb.1 x hx,fun x hx=>by simpa using hb.2 x hx,h.symm⟩
theorem SW{ts rs:List Nat}{s1 s2:St}{y:NF}(h1:nf ts rs s1=some y)(h2:nf ts rs s2=some y):SB s1 s2:=by
 obtain⟨a1,b1,e1⟩:=Og h1
 obtain⟨a2,b2,e2⟩:=Og h2
 rw[e1] at e2
 injection e2 with q1 q2
 refine⟨fun t => ?_,fun r => ?_⟩
 ·by_cases ht:t∈ts
  ·exact(JO q1 t ht).symm
  ·cases g1:s1.env.get t with
   |some e=>obtain⟨x,hx,rfl⟩:=Env.JN g1;exact absurd (a1 x hx) ht
   |none =>
    cases g2:s2.env.get t with
    |some e=>obtain⟨x,hx,rfl⟩:=Env.JN g2;exact absurd (a2 x hx) ht
    |none=>rfl
 ·have key:∀r,s2.bp.jG r=s1.bp.jG r:=fun r=>by
   by_cases ht:r∈rs
   ·exact(JO q2 r ht).symm
   ·cases g1:s1.bp.jG r with
    |some e=>obtain⟨x,hx,rfl⟩:=cq.GU g1;exact absurd (b1 x hx) ht
    |none =>
     cases g2:s2.bp.jG r with
     |some e=>obtain⟨x,hx,rfl⟩:=cq.GU g2;exact absurd (b2 x hx) ht
     |none=>rfl
  unfold cq.get cq.hp
  rw[key,key]
theorem Ph{n:Nat}{hs:List Hint}{al ts rs:List Nat}{can:List (List Prop)}{U:List Nat}{i:Nat}(h:N9 P T n ops hs al ts rs s (U,i)=Oa P T n ops hs al ts rs s can (U,i))
  {sU:St} {oU:List (List Prop)} (hU:Fy P T n ops hs U al s=some (sU,oU)) :
  ∃o s1 s2 o2,ops[i]? = some o∧stepG P T n ops o (hs.getD i .none) sU=some (s1,can.getD (SU al i) [])∧Fy P T n ops hs (K6 U i) al s=some (s2,o2)∧SB s1 s2:=by
 unfold N9 Oa at h
 simp only[hU] at h
 have hr:∀(ob:List Prop) (y:NF),((0:Nat),(([],[]):NF),([]:List Prop))≠(1,y,ob):=fun ob y e=>by injection e with e;cases e
 cases h2:Fy P T n ops hs (K6 U i) al s with
 |none =>
  simp only[h2] at h
  exfalso
  split at h
  ·split at h
   ·split at h
    ·injection h with e;cases e
    ·injection h with e;cases e
   ·injection h with e;cases e
  ·injection h with e;cases e
 |some p =>
  obtain⟨s2,o2⟩:=p
  simp only[h2] at h
  cases h3:nf ts rs s2 with
  |none =>
   simp only[h3] at h
   exfalso
   split at h
   ·split at h
    ·split at h
     ·injection h with e;cases e
     ·injection h with e;cases e
    ·injection h with e;cases e
   ·injection h with e;cases e
  |some y2 =>
   simp only[h3] at h
   split at h
   ·rename_i o ho
    split at h
    ·rename_i s1 ob bz
     split at h
     ·rename_i y hy
      injection h with _ h;injection h with e1 e2
      subst e1;subst e2
      exact⟨o,s1,s2,o2,ho,bz,rfl,SW hy h3⟩
     ·injection h with e;cases e
    ·injection h with e;cases e
   ·injection h with e;cases e
theorem QO{fl:List Nat}{i:Nat} : i∈kW ops fl↔i<ops.size∧i ∉ fl:=by
 unfold kW
 rw[List.mem_filter,List.mem_range]
 simp
theorem It(hm:P.follows .mixedOrders=true)(hT:uj P T)(hs:∀r,ee Γ.sin r→Γ.n≤r)(hQ:∀c a w d v,Q (.panic c) (Act.put a d v) w→Q (.panic c) a w){id:Nat}{fl:List Nat}{Us:List (List Nat)}{hints:List Hint}{ob:List Prop}(hr:Rel Γ s a w)
  (bz:JM P T Γ.n ops fl (kW ops fl) Us hints s=some (s',ob)) (fK:je ob) (hk:∀a' w',Rel Γ s' a' w'→Q .normal a' w'):(Code.region id ops true).wp P Q a w:=by
 refine wp_region_any hm ?_
 unfold JM at bz
 generalize La:kW ops fl=al at bz
 cases AI:(Us.contains al&&(ES ops Us).all (fun x=>Us.contains (K6 x.1 x.2))&&fwd ops [] (List.range ops.size)&&Region.noSelect ops&&(List.range ops.size).all (fun i=>(oe ops i).all fun e=>Nat.blt e ops.size)&&Ee fl&&fl.all (fun i=>Nat.blt i ops.size)) with
 |false=>rw[AI] at bz;cases bz
 |true =>
  simp only[AI,cond_true] at bz
  split at bz
  ·rename_i s0 FH
   split at bz
   ·rename_i s1 can Xb
    injection bz with bz;injection bz with e1 e2
    subst e1;subst e2
    obtain⟨g1,g2⟩:=fK.app
    have g2:uu P T Γ.n ops al Us hints s0=uv P T Γ.n ops al Us hints s0:=g2
    unfold uu uv TZ at g2
    rw[Xb,Od] at g2
    have g2:(ES ops Us).map (N9 P T Γ.n ops hints al (Ob ops s0) (Oc ops s0) s0)=(ES ops Us).map (Oa P T Γ.n ops hints al (Ob ops s0) (Oc ops s0) s0 can):=g2
    simp only[Bool.and_eq_true,List.all_eq_true] at AI
    obtain⟨⟨⟨⟨⟨⟨c1,c2⟩,c3⟩,c4⟩,c5⟩,c6⟩,c7⟩:=AI
    have Xc:al∈Us:=by simpa using c1
    have Lb:∀i,i∈al↔i<ops.size∧i ∉ fl:=fun i=>by rw[←La];exact QO
    have IZ:∀i,i<ops.size→∀e∈oe ops i,e<ops.size:=fun i hi e he=>Nat.le_of_ble_eq_true (c5 i (by simpa using hi) e he)
    have main:∀(fuel:Nat) (U:List Nat) (listed:Array Bool) (a:Act) (w:World) (sU:St) (oU:List (List Prop)),U.length=fuel→U∈Us→U.Nodup→(∀i∈U,i<ops.size)→QC ops listed U →
      Fy P T Γ.n ops hints U al s0=some (sU,oU)→Rel Γ sU a w→wpAny P .any ops Q fuel listed a w:=by
     intro fuel
     induction fuel with
     |zero =>
      intro U listed a w sU oU hlen _ _ _ hl hU qp
      have:U=[]:=List.eq_nil_of_length_eq_zero hlen
      subst this
      rw[Xb] at hU
      injection hU with hU;injection hU with e1 _
      subst e1
      refine⟨?_,hk a w qp⟩
      apply List.eq_nil_iff_forall_not_mem.2
      intro i hi
      have bH:i<ops.size:=by
       rw[mem_ready] at hi
       obtain⟨_,o,ho,_⟩:=hi
       exact(Array.getElem?_eq_some_iff.1 ho).1
      have:=(pX hl (IZ i bH)).1 hi
      simp at this
     |succ fuel ih =>
      intro U listed a w sU oU hlen hUs hn bH hl hU qp
      refine⟨fun Jz => ?_,fun i hi => ?_⟩
      ·have dk:∃i,i∈List.range ops.size∧i∈U:=by
        cases U with
        |nil=>cases hlen
        |cons j U=>exact⟨j,by simpa using bH j (by simp),by simp⟩
       obtain⟨j,_,Fs,Zs⟩:=Ed ops U (List.range ops.size) [] c3 (fun e he=>by cases he) dk
       have:j∈Region.ready .any ops listed:=(pX hl (IZ j (bH j Fs))).2 ⟨bH j Fs,Fs,Zs⟩
       rw[Jz] at this;cases this
      ·have hil:i<ops.size:=by
        have hi':=hi
        rw[mem_ready] at hi'
        obtain⟨_,o,ho,_⟩:=hi'
        exact(Array.getElem?_eq_some_iff.1 ho).1
       obtain⟨_,PT,u5⟩:=(pX hl (IZ i hil)).1 hi
       have Lb:(U,i)∈ES ops Us:=by
        unfold ES
        refine List.mem_flatMap.2 ⟨U,hUs,List.mem_map.2 ⟨i,List.mem_filter.2 ⟨PT,?_⟩,rfl⟩⟩
        rw[List.all_eq_true]
        intro e he
        simpa using u5 e he
       obtain⟨o,s1',s2,o2,ho,Oh,Xd,QL⟩:=Ph (JO g2 (U,i) Lb) hU
       unfold wpOp
       rw[ho]
       refine zZ hT hs qp Oh (Oe can (SU al i) g1) (fun a' w' jn => ?_)
       have hEU:K6 U i∈Us:=by simpa using c2 (U,i) Lb
       exact ih (K6 U i) _ a' w' s2 o2 (by have:=N5 hn PT;omega) hEU (List.Pairwise.filter _ hn) (fun j hj=>bH j (uJ.1 hj).1) (hl.set hil) Xd (Rel.SD QL jn)
    have jn:Rel Γ s a w.drew:=by
     obtain⟨β,I,hr⟩:=hr
     exact⟨β,I,hr.grow ((Ib.refl _ _).drew) (fun b h=>h) (fun b h => .inl h)⟩
    have h0:∀(l:List Nat) (U:List Nat),(∀i∈l,i∈U)→Fy P T Γ.n ops hints U l s0=some (s0,[]):=by
     intro l
     induction l with
     |nil=>intro U _;rfl
     |cons i l ih =>
      intro U h
      unfold Fy
      have:U.contains i=true:=by simpa using h i (by simp)
      rw[this]
      exact ih U (fun j hj=>h j (by simp[hj]))
    have hnf:fl.Nodup:=Aa c6
    have hna:al.Nodup:=by rw[←La];exact List.Pairwise.filter _ List.nodup_range
    have H9:∀i∈fl,i<ops.size:=fun i hi=>Nat.le_of_ble_eq_true (c7 i hi)
    have QM:∀i∈fl,i ∉ al:=fun i hi h=>((Lb i).1 h).2 hi
    have hlen:fl.length+al.length=ops.size:=by
     have Zj:(fl++al).Nodup:=List.nodup_append.2 ⟨hnf,hna,fun i hi j hj e=>QM i hi (e ▸ hj)⟩
     have h1:=List.Nodup.length_le_of_subset (l₁:=fl++al) (l₂:=List.range ops.size) Zj (fun j hj=>by
      rw[List.mem_range]
      rcases List.mem_append.1 hj with h|h
      ·exact H9 j h
      ·exact((Lb j).1 h).1)
     have h2:=List.Nodup.length_le_of_subset (l₁:=List.range ops.size) (l₂:=fl++al) List.nodup_range (fun j hj=>by
      rw[List.mem_range] at hj
      rw[List.mem_append]
      by_cases h:j∈fl
      ·exact .inl h
      ·exact .inr ((Lb j).2 ⟨hj,h⟩))
     rw[List.length_append,List.length_range] at h1 h2
     omega
    have key:=BM (Q:=Q) (s0:=s0) (rest:=al.length) hT c4 hQ al (fun listed a w hl qp =>
     main al.length al listed a w s0 [] rfl Xc hna (fun i hi=>((Lb i).1 hi).1) hl (h0 _ _ (fun i hi=>hi)) qp)
     fl (fl++al) (Array.replicate ops.size false) s a w.drew (fun j=>by rw[List.mem_append];exact Or.comm) QM hnf H9
     ⟨by simp,fun j hj=>by
      constructor
      ·intro h
       have hf:(Array.replicate ops.size false).getD j false=false:=by simp[Array.getD_eq_getD_getElem?,hj]
       rw[hf] at h;cases h
      ·intro h
       refine absurd ?_ h
       rw[List.mem_append]
       by_cases hf:j∈fl
       ·exact .inl hf
       ·exact .inr ((Lb j).2 ⟨hj,hf⟩)⟩ jn FH
    rw[hlen] at key
    exact key
   ·cases bz
  ·cases bz
end
end Go.Proofs.YtllmkadmohkbfaaGreatDoor.Sym
