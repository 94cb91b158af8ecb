/- Lemmas for the statements of this seat. -/
import Derived.Test.YtnjhplhbmapclaaGreatDoorWSymT
namespace Go.Proofs.YtnjhplhbmapclaaGreatDoor.Sym
open Go Go.RowKit
def r9(P:Program)(T:gi)(n:Nat)(ops:Array Oper)(hs:List Hint)(U:List Nat):List Nat→St→Option (St×List (List Prop))
 |[],s=>some (s,[])
 |i::l,s=>bif U.contains i then r9 P T n ops hs U l s else match ops[i]? with
  |some o=>match stepG P T n ops o (hs.getD i .none) s with
   |some (s1,ob)=>match r9 P T n ops hs U l s1 with
    |some (s2,obs)=>some (s2,ob::obs)
    |none=>none
   |none=>none
  |none=>none
abbrev NF:=List (Option EV)×List (Option SC)
def nf(ts rs:List Nat)(s:St):Option NF :=
 bif s.env.all (fun x=>ts.contains x.1)&&s.aw.all (fun x=>rs.contains x.1) then some (ts.map s.env.get,rs.map s.aw.cp) else none
def E7:List Nat→Nat→Nat
 |[],_=>0
 |x::r,i=>bif Nat.beq x i then 0 else E7 r i+1
def AI(P:Program)(T:gi)(n:Nat)(ops:Array Oper)(hs:List Hint)(al ts rs:List Nat)(s:St)(x:List Nat×Nat):Nat×NF×List Prop :=
 match r9 P T n ops hs x.1 al s with
 |some (sU,_)=>match ops[x.2]? with
  |some o=>match stepG P T n ops o (hs.getD x.2 .none) sU with
   |some (s',ob)=>match nf ts rs s' with
    |some y=>(1,y,ob)
    |none=>(0,([],[]),[])
   |none=>(0,([],[]),[])
  |none=>(0,([],[]),[])
 |none=>(0,([],[]),[])
def AJ(P:Program)(T:gi)(n:Nat)(ops:Array Oper)(hs:List Hint)(al ts rs:List Nat)(s:St)(can:List (List Prop))(x:List Nat×Nat):Nat×NF×List Prop :=
 match r9 P T n ops hs (xR x.1 x.2) al s with
 |some (J6,_)=>match nf ts rs J6 with
  |some y=>(1,y,can.getD (E7 al x.2) [])
  |none=>(2,([],[]),[])
 |none=>(2,([],[]),[])
def rA(ops:Array Oper)(Us:List (List Nat)):List (List Nat×Nat) :=
 Us.flatMap fun U=>(U.filter fun i=>(eJ ops i).all fun e => !(U.contains e)).map fun i=>(U,i)
def AK(ops:Array Oper)(s:St):List Nat:=s.env.map (·.1)++ops.toList.filterMap (·.dst)
def AL(ops:Array Oper)(s:St):List Nat:=s.aw.map (·.1)++(ops.toList.filterMap (·.dst)++[999999])
def E8{α β:Type}(f:α→β):List α→List β
 |[]=>[]
 |x::l=>f x::E8 f l
theorem AM{α β:Type}(f:α→β):∀l:List α,E8 f l=l.map f
 |[]=>rfl
 |x::l=>by rw[E8,AM f l,List.map_cons]
def Ge(P:Program)(T:gi)(n:Nat)(ops:Array Oper)(hs:List Hint)(al:List Nat)(s:St):List (List Prop) :=
 match r9 P T n ops hs [] al s with
 |some (_,can)=>can
 |none=>[]
def BA(P:Program)(T:gi)(n:Nat)(ops:Array Oper)(al:List Nat)(Us:List (List Nat))(hs:List Hint)(s:St):List (Nat×NF×List Prop) :=
 (rA ops Us).map (AI P T n ops hs al (AK ops s) (AL ops s) s)
def BB(P:Program)(T:gi)(n:Nat)(ops:Array Oper)(al:List Nat)(Us:List (List Nat))(hs:List Hint)(s:St):List (Nat×NF×List Prop) :=
 E8 (AJ P T n ops hs al (AK ops s) (AL ops s) s (Ge P T n ops hs al s)) (rA ops Us)
def lvl(ops:Array Oper)(l:List (List Nat)):List (List Nat) :=
 (l.flatMap fun U=>(U.filter fun i=>(eJ ops i).all fun e => !(U.contains e)).map (xR U)).eraseDups
def lvls(ops:Array Oper):Nat→List (List Nat)→List (List Nat)
 |0,l=>l
 |n+1,l=>l++lvls ops n (lvl ops l)
def sa(ops:Array Oper)(fl:List Nat):List Nat:=(List.range ops.size).filter fun i => !(fl.contains i)
def tJ(ops:Array Oper)(fl:List Nat):List (List Nat):=lvls ops ops.size [sa ops fl]
def Iv(T:gi)(n:Nat)(ops:Array Oper)(fl:List Nat)(s:St):St:=(qQ T n ops fl (Array.replicate ops.size false) s).getD s
def wo(P:Program)(T:gi)(n:Nat)(ops:Array Oper)(fl:List Nat)(al:List Nat)(Us:List (List Nat))(hs:List Hint)(s:St):Option (St×List Prop) :=
 bif Us.contains al&&(rA ops Us).all (fun x=>Us.contains (xR x.1 x.2))&&fwd ops [] (List.range ops.size)&&Region.noSelect ops&&(List.range ops.size).all (fun i=>(eJ ops i).all fun e=>Nat.blt e ops.size)&&qO fl&&fl.all (fun i=>Nat.blt i ops.size) then
  match qQ T n ops fl (Array.replicate ops.size false) s with
  |some s0=>match r9 P T n ops hs [] al s0 with
   |some (s',can)=>some (s',can.flatten++[BA P T n ops al Us hs s0=BB P T n ops al Us hs s0])
   |none=>none
  |none=>none
 else none
section
variable {P:Program} {T:gi} {Γ:Ctx} {s s':St} {a:Act} {w:World} {ops:Array Oper} {Q:Exit→Act→World→Prop}
theorem AN:∀(can:List (List Prop)) (i:Nat),bV can.flatten→bV (can.getD i [])
 |[],i,_=>by simp[bV]
 |c::can,0,h=>by
  rw[List.flatten_cons] at h
  exact(bV.app h).1
 |c::can,i+1,h=>by
  rw[List.flatten_cons] at h
  have:=AN can i (bV.app h).2
  simpa using this
theorem Env.wq:∀{env:Env} {t:Nat} {e:EV},env.get t=some e→∃x∈env,x.1=t
 |[],t,e,h=>by simp[Env.get] at h
 |(t',e')::r,t,e,h=>by
  simp only[Env.get] at h
  cases hb:Nat.beq t' t with
  |true=>exact⟨(t',e'),by simp,Nat.eq_of_beq_eq_true hb⟩
  |false =>
   simp only[hb,cond_false] at h
   obtain⟨x,hx,Li⟩:=Env.wq h
   exact⟨x,by simp[hx],Li⟩
theorem aD.tK:∀{aw:aD} {t:Nat} {e:SC},aw.cp t=some e→∃x∈aw,x.1=t
 |[],t,e,h=>by simp[aD.cp] at h
 |(t',e')::r,t,e,h=>by
  simp only[aD.cp] at h
  cases hb:Nat.beq t' t with
  |true=>exact⟨(t',e'),by simp,Nat.eq_of_beq_eq_true hb⟩
  |false =>
   simp only[hb,cond_false] at h
   obtain⟨x,hx,Li⟩:=aD.tK h
   exact⟨x,by simp[hx],Li⟩
theorem wu{α β:Type}{f g:α→β} : ∀{l:List α},l.map f=l.map g→∀x∈l,f x=g x
 |[],_,x,hx=>by cases hx
 |y::l,h,x,hx=>by
  rw[List.map_cons,List.map_cons] at h
  injection h with h1 h2
  rcases List.mem_cons.1 hx with rfl|hx
  ·exact h1
  ·exact wu h2 x hx
theorem AO{ts rs:List Nat}{s:St}{y:NF}(h:nf ts rs s=some y):(∀x∈s.env,x.1∈ts)∧(∀x∈s.aw,x.1∈rs)∧y=(ts.map s.env.get,rs.map s.aw.cp):=by
 unfold nf at h
 cases hb:(s.env.all (fun x=>ts.contains x.1)&&s.aw.all (fun x=>rs.contains x.1)) with
 |false=>rw[hb] at h;cases h
 |true =>
  simp only[hb,cond_true] at h
  injection h with h
  rw[Bool.and_eq_true,List.all_eq_true,List.all_eq_true] at hb
  exact⟨fun x hx=>by simpa using hb.1 x hx,fun x hx=>by simpa using hb.2 x hx,h.symm⟩
theorem E9{ts rs:List Nat}{s1 s2:St}{y:NF}(h1:nf ts rs s1=some y)(h2:nf ts rs s2=some y):EP s1 s2:=by
 obtain⟨a1,b1,e1⟩:=AO h1
 obtain⟨a2,b2,e2⟩:=AO h2
 rw[e1] at e2
 injection e2 with q1 q2
 refine⟨fun t => ?_,fun r => ?_⟩
 ·by_cases ht:t∈ts
  ·exact(wu q1 t ht).symm
  ·cases g1:s1.env.get t with
   |some e=>obtain⟨x,hx,rfl⟩:=Env.wq g1;exact absurd (a1 x hx) ht
   |none =>
    cases g2:s2.env.get t with
    |some e=>obtain⟨x,hx,rfl⟩:=Env.wq g2;exact absurd (a2 x hx) ht
    |none=>rfl
 ·have key:∀r,s2.aw.cp r=s1.aw.cp r:=fun r=>by
   by_cases ht:r∈rs
   ·exact(wu q2 r ht).symm
   ·cases g1:s1.aw.cp r with
    |some e=>obtain⟨x,hx,rfl⟩:=aD.tK g1;exact absurd (b1 x hx) ht
    |none =>
     cases g2:s2.aw.cp r with
     |some e=>obtain⟨x,hx,rfl⟩:=aD.tK g2;exact absurd (b2 x hx) ht
     |none=>rfl
  unfold aD.get aD.hp
  rw[key,key]
theorem BC{n:Nat}{hs:List Hint}{al ts rs:List Nat}{can:List (List Prop)}{U:List Nat}{i:Nat}(h:AI P T n ops hs al ts rs s (U,i)=AJ P T n ops hs al ts rs s can (U,i))
  {sU:St} {oU:List (List Prop)} (hU:r9 P T n ops hs U al s=some (sU,oU)) :
  ∃o s1 s2 o2,ops[i]? = some o∧stepG P T n ops o (hs.getD i .none) sU=some (s1,can.getD (E7 al i) [])∧r9 P T n ops hs (xR U i) al s=some (s2,o2)∧EP s1 s2:=by
 unfold AI AJ at h
 simp only[hU] at h
 have hr:∀(ob:List Prop) (y:NF),((0:Nat),(([],[]):NF),([]:List Prop))≠(1,y,ob):=fun ob y e=>by injection e with e;cases e
 cases h2:r9 P T n ops hs (xR U i) al s with
 |none =>
  simp only[h2] at h
  exfalso
  split at h
  ·split at h
   ·split at h
    ·injection h with e;cases e
    ·injection h with e;cases e
   ·injection h with e;cases e
  ·injection h with e;cases e
 |some p =>
  obtain⟨s2,o2⟩:=p
  simp only[h2] at h
  cases h3:nf ts rs s2 with
  |none =>
   simp only[h3] at h
   exfalso
   split at h
   ·split at h
    ·split at h
     ·injection h with e;cases e
     ·injection h with e;cases e
    ·injection h with e;cases e
   ·injection h with e;cases e
  |some y2 =>
   simp only[h3] at h
   split at h
   ·rename_i o ho
    split at h
    ·rename_i s1 ob ay
     split at h
     ·rename_i y hy
      injection h with _ h;injection h with e1 e2
      subst e1;subst e2
      exact⟨o,s1,s2,o2,ho,ay,rfl,E9 hy h3⟩
     ·injection h with e;cases e
    ·injection h with e;cases e
   ·injection h with e;cases e
theorem Dd{fl:List Nat}{i:Nat} : i∈sa ops fl↔i<ops.size∧i ∉ fl:=by
 unfold sa
 rw[List.mem_filter,List.mem_range]
 simp
theorem uW(hm:P.follows .mixedOrders=true)(hT:jh P T)(hs:∀r,aT Γ.sin r→Γ.n≤r)(hQ:∀c a w d v,Q (.panic c) (Act.put a d v) w→Q (.panic c) a w){id:Nat}{fl:List Nat}{Us:List (List Nat)}{hints:List Hint}{ob:List Prop}(hr:Rel Γ s a w)
  (ay:wo P T Γ.n ops fl (sa ops fl) Us hints s=some (s',ob)) (bj:bV ob) (hk:∀a' w',Rel Γ s' a' w'→Q .normal a' w'):(Code.region id ops true).wp P Q a w:=by
 refine wp_region_any hm ?_
 unfold wo at ay
 generalize Fa:sa ops fl=al at ay
 cases ss:(Us.contains al&&(rA ops Us).all (fun x=>Us.contains (xR x.1 x.2))&&fwd ops [] (List.range ops.size)&&Region.noSelect ops&&(List.range ops.size).all (fun i=>(eJ ops i).all fun e=>Nat.blt e ops.size)&&qO fl&&fl.all (fun i=>Nat.blt i ops.size)) with
 |false=>rw[ss] at ay;cases ay
 |true =>
  simp only[ss,cond_true] at ay
  split at ay
  ·rename_i s0 B7
   split at ay
   ·rename_i s1 can Je
    injection ay with ay;injection ay with e1 e2
    subst e1;subst e2
    obtain⟨g1,g2⟩:=bj.app
    have g2:BA P T Γ.n ops al Us hints s0=BB P T Γ.n ops al Us hints s0:=g2
    unfold BA BB Ge at g2
    rw[Je,AM] at g2
    have g2:(rA ops Us).map (AI P T Γ.n ops hints al (AK ops s0) (AL ops s0) s0)=(rA ops Us).map (AJ P T Γ.n ops hints al (AK ops s0) (AL ops s0) s0 can):=g2
    simp only[Bool.and_eq_true,List.all_eq_true] at ss
    obtain⟨⟨⟨⟨⟨⟨c1,c2⟩,c3⟩,c4⟩,c5⟩,c6⟩,c7⟩:=ss
    have Jf:al∈Us:=by simpa using c1
    have xV:∀i,i∈al↔i<ops.size∧i ∉ fl:=fun i=>by rw[←Fa];exact Dd
    have vl:∀i,i<ops.size→∀e∈eJ ops i,e<ops.size:=fun i hi e he=>Nat.le_of_ble_eq_true (c5 i (by simpa using hi) e he)
    have main:∀(fuel:Nat) (U:List Nat) (listed:Array Bool) (a:Act) (w:World) (sU:St) (oU:List (List Prop)),U.length=fuel→U∈Us→U.Nodup→(∀i∈U,i<ops.size)→C3 ops listed U →
      r9 P T Γ.n ops hints U al s0=some (sU,oU)→Rel Γ sU a w→wpAny P .any ops Q fuel listed a w:=by
     intro fuel
     induction fuel with
     |zero =>
      intro U listed a w sU oU hlen _ _ _ hl hU fR
      have:U=[]:=List.eq_nil_of_length_eq_zero hlen
      subst this
      rw[Je] at hU
      injection hU with hU;injection hU with e1 _
      subst e1
      refine⟨?_,hk a w fR⟩
      apply List.eq_nil_iff_forall_not_mem.2
      intro i hi
      have cS:i<ops.size:=by
       rw[mem_ready] at hi
       obtain⟨_,o,ho,_⟩:=hi
       exact(Array.getElem?_eq_some_iff.1 ho).1
      have:=(fE hl (vl i cS)).1 hi
      simp at this
     |succ fuel ih =>
      intro U listed a w sU oU hlen Og hn cS hl hU fR
      refine⟨fun v7 => ?_,fun i hi => ?_⟩
      ·have fP:∃i,i∈List.range ops.size∧i∈U:=by
        cases U with
        |nil=>cases hlen
        |cons j U=>exact⟨j,by simpa using cS j (by simp),by simp⟩
       obtain⟨j,_,ze,Lh⟩:=qN ops U (List.range ops.size) [] c3 (fun e he=>by cases he) fP
       have:j∈Region.ready .any ops listed:=(fE hl (vl j (cS j ze))).2 ⟨cS j ze,ze,Lh⟩
       rw[v7] at this;cases this
      ·have MI:i<ops.size:=by
        have I8:=hi
        rw[mem_ready] at I8
        obtain⟨_,o,ho,_⟩:=I8
        exact(Array.getElem?_eq_some_iff.1 ho).1
       obtain⟨_,Cf,kp⟩:=(fE hl (vl i MI)).1 hi
       have xV:(U,i)∈rA ops Us:=by
        unfold rA
        refine List.mem_flatMap.2 ⟨U,Og,List.mem_map.2 ⟨i,List.mem_filter.2 ⟨Cf,?_⟩,rfl⟩⟩
        rw[List.all_eq_true]
        intro e he
        simpa using kp e he
       obtain⟨o,Pk,s2,o2,ho,vn,Jg,Db⟩:=BC (wu g2 (U,i) xV) hU
       unfold wpOp
       rw[ho]
       refine mW hT hs fR vn (AN can (E7 al i) g1) (fun a' w' bU => ?_)
       have Oh:xR U i∈Us:=by simpa using c2 (U,i) xV
       exact ih (xR U i) _ a' w' s2 o2 (by have:=AE hn Cf;omega) Oh (List.Pairwise.filter _ hn) (fun j hj=>cS j (jJ.1 hj).1) (hl.set MI) Jg (Rel.ER Db bU)
    have bU:Rel Γ s a w.drew:=by
     obtain⟨β,I,hr⟩:=hr
     exact⟨β,I,hr.grow ((uE.refl _ _).drew) (fun b h=>h) (fun b h => .inl h)⟩
    have h0:∀(l:List Nat) (U:List Nat),(∀i∈l,i∈U)→r9 P T Γ.n ops hints U l s0=some (s0,[]):=by
     intro l
     induction l with
     |nil=>intro U _;rfl
     |cons i l ih =>
      intro U h
      unfold r9
      have:U.contains i=true:=by simpa using h i (by simp)
      rw[this]
      exact ih U (fun j hj=>h j (by simp[hj]))
    have MJ:fl.Nodup:=nd c6
    have MK:al.Nodup:=by rw[←Fa];exact List.Pairwise.filter _ List.nodup_range
    have ML:∀i∈fl,i<ops.size:=fun i hi=>Nat.le_of_ble_eq_true (c7 i hi)
    have Dc:∀i∈fl,i ∉ al:=fun i hi h=>((xV i).1 h).2 hi
    have hlen:fl.length+al.length=ops.size:=by
     have K8:(fl++al).Nodup:=List.nodup_append.2 ⟨MJ,MK,fun i hi j hj e=>Dc i hi (e ▸ hj)⟩
     have h1:=List.Nodup.length_le_of_subset (l₁:=fl++al) (l₂:=List.range ops.size) K8 (fun j hj=>by
      rw[List.mem_range]
      rcases List.mem_append.1 hj with h|h
      ·exact ML j h
      ·exact((xV j).1 h).1)
     have h2:=List.Nodup.length_le_of_subset (l₁:=List.range ops.size) (l₂:=fl++al) List.nodup_range (fun j hj=>by
      rw[List.mem_range] at hj
      rw[List.mem_append]
      by_cases h:j∈fl
      ·exact .inl h
      ·exact .inr ((xV j).2 ⟨hj,h⟩))
     rw[List.length_append,List.length_range] at h1 h2
     omega
    have key:=oI (Q:=Q) (s0:=s0) (rest:=al.length) hT c4 hQ al (fun listed a w hl fR =>
     main al.length al listed a w s0 [] rfl Jf MK (fun i hi=>((xV i).1 hi).1) hl (h0 _ _ (fun i hi=>hi)) fR)
     fl (fl++al) (Array.replicate ops.size false) s a w.drew (fun j=>by rw[List.mem_append];exact Or.comm) Dc MJ ML
     ⟨by simp,fun j hj=>by
      constructor
      ·intro h
       have hf:(Array.replicate ops.size false).getD j false=false:=by simp[Array.getD_eq_getD_getElem?,hj]
       rw[hf] at h;cases h
      ·intro h
       refine absurd ?_ h
       rw[List.mem_append]
       by_cases hf:j∈fl
       ·exact .inl hf
       ·exact .inr ((xV j).2 ⟨hj,hf⟩)⟩ bU B7
    rw[hlen] at key
    exact key
   ·cases ay
  ·cases ay
end
end Go.Proofs.YtnjhplhbmapclaaGreatDoor.Sym
