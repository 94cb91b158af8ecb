/- Lemmas for the statements of this seat. -/
import Derived.Test.YtfjfekodeplcoaaGreatWSymT
namespace Go.Proofs.YtfjfekodeplcoaaGreat.Sym
open Go Go.RowKit
def xP(P:Program)(T:ja)(n:Nat)(ops:Array Oper)(hs:List Hint)(U:List Nat):List Nat→St→Option (St×List (List Prop))
 |[],s=>some (s,[])
 |i::l,s=>bif U.contains i then xP P T n ops hs U l s else match ops[i]? with
  |some o=>match stepG P T n ops o (hs.getD i .none) s with
   |some (s1,ob)=>match xP P T n ops hs U l s1 with
    |some (s2,obs)=>some (s2,ob::obs)
    |none=>none
   |none=>none
  |none=>none
abbrev NF:=List (Option EV)×List (Option SC)
def nf(ts rs:List Nat)(s:St):Option NF :=
 bif s.env.all (fun x=>ts.contains x.1)&&s.sto.all (fun x=>rs.contains x.1) then some (ts.map s.env.get,rs.map s.sto.cp) else none
def KM:List Nat→Nat→Nat
 |[],_=>0
 |x::r,i=>bif Nat.beq x i then 0 else KM r i+1
def F2(P:Program)(T:ja)(n:Nat)(ops:Array Oper)(hs:List Hint)(al ts rs:List Nat)(s:St)(x:List Nat×Nat):Nat×NF×List Prop :=
 match xP P T n ops hs x.1 al s with
 |some (sU,_)=>match ops[x.2]? with
  |some o=>match stepG P T n ops o (hs.getD x.2 .none) sU with
   |some (s',ob)=>match nf ts rs s' with
    |some y=>(1,y,ob)
    |none=>(0,([],[]),[])
   |none=>(0,([],[]),[])
  |none=>(0,([],[]),[])
 |none=>(0,([],[]),[])
def F3(P:Program)(T:ja)(n:Nat)(ops:Array Oper)(hs:List Hint)(al ts rs:List Nat)(s:St)(can:List (List Prop))(x:List Nat×Nat):Nat×NF×List Prop :=
 match xP P T n ops hs (Di x.1 x.2) al s with
 |some (QJ,_)=>match nf ts rs QJ with
  |some y=>(1,y,can.getD (KM al x.2) [])
  |none=>(2,([],[]),[])
 |none=>(2,([],[]),[])
def w5(ops:Array Oper)(Us:List (List Nat)):List (List Nat×Nat) :=
 Us.flatMap fun U=>(U.filter fun i=>(ix ops i).all fun e => !(U.contains e)).map fun i=>(U,i)
def F4(ops:Array Oper)(s:St):List Nat:=s.env.map (·.1)++ops.toList.filterMap (·.dst)
def F5(ops:Array Oper)(s:St):List Nat:=s.sto.map (·.1)++(ops.toList.filterMap (·.dst)++[999999])
def KN{α β:Type}(f:α→β):List α→List β
 |[]=>[]
 |x::l=>f x::KN f l
theorem F6{α β:Type}(f:α→β):∀l:List α,KN f l=l.map f
 |[]=>rfl
 |x::l=>by rw[KN,F6 f l,List.map_cons]
def LS(P:Program)(T:ja)(n:Nat)(ops:Array Oper)(hs:List Hint)(al:List Nat)(s:St):List (List Prop) :=
 match xP P T n ops hs [] al s with
 |some (_,can)=>can
 |none=>[]
def uX(P:Program)(T:ja)(n:Nat)(ops:Array Oper)(al:List Nat)(Us:List (List Nat))(hs:List Hint)(s:St):List (Nat×NF×List Prop) :=
 (w5 ops Us).map (F2 P T n ops hs al (F4 ops s) (F5 ops s) s)
def uY(P:Program)(T:ja)(n:Nat)(ops:Array Oper)(al:List Nat)(Us:List (List Nat))(hs:List Hint)(s:St):List (Nat×NF×List Prop) :=
 KN (F3 P T n ops hs al (F4 ops s) (F5 ops s) s (LS P T n ops hs al s)) (w5 ops Us)
def lvl(ops:Array Oper)(l:List (List Nat)):List (List Nat) :=
 (l.flatMap fun U=>(U.filter fun i=>(ix ops i).all fun e => !(U.contains e)).map (Di U)).eraseDups
def lvls(ops:Array Oper):Nat→List (List Nat)→List (List Nat)
 |0,l=>l
 |n+1,l=>l++lvls ops n (lvl ops l)
def lL(ops:Array Oper)(fl:List Nat):List Nat:=(List.range ops.size).filter fun i => !(fl.contains i)
def jo(ops:Array Oper)(fl:List Nat):List (List Nat):=lvls ops ops.size [lL ops fl]
def Ar(T:ja)(n:Nat)(ops:Array Oper)(fl:List Nat)(s:St):St:=(wo T n ops fl (Array.replicate ops.size false) s).getD s
def BW(P:Program)(T:ja)(n:Nat)(ops:Array Oper)(fl:List Nat)(al:List Nat)(Us:List (List Nat))(hs:List Hint)(s:St):Option (St×List Prop) :=
 bif Us.contains al&&(w5 ops Us).all (fun x=>Us.contains (Di x.1 x.2))&&fwd ops [] (List.range ops.size)&&Region.noSelect ops&&(List.range ops.size).all (fun i=>(ix ops i).all fun e=>Nat.blt e ops.size)&&wk fl&&fl.all (fun i=>Nat.blt i ops.size) then
  match wo T n ops fl (Array.replicate ops.size false) s with
  |some s0=>match xP P T n ops hs [] al s0 with
   |some (s',can)=>some (s',can.flatten++[uX P T n ops al Us hs s0=uY P T n ops al Us hs s0])
   |none=>none
  |none=>none
 else none
section
variable {P:Program} {T:ja} {Γ:Ctx} {s s':St} {a:Act} {w:World} {ops:Array Oper} {Q:Exit→Act→World→Prop}
theorem F7:∀(can:List (List Prop)) (i:Nat),cW can.flatten→cW (can.getD i [])
 |[],i,_=>by simp[cW]
 |c::can,0,h=>by
  rw[List.flatten_cons] at h
  exact(cW.app h).1
 |c::can,i+1,h=>by
  rw[List.flatten_cons] at h
  have:=F7 can i (cW.app h).2
  simpa using this
theorem Env.BX:∀{env:Env} {t:Nat} {e:EV},env.get t=some e→∃x∈env,x.1=t
 |[],t,e,h=>by simp[Env.get] at h
 |(t',e')::r,t,e,h=>by
  simp only[Env.get] at h
  cases hb:Nat.beq t' t with
  |true=>exact⟨(t',e'),by simp,Nat.eq_of_beq_eq_true hb⟩
  |false =>
   simp only[hb,cond_false] at h
   obtain⟨x,hx,R3⟩:=Env.BX h
   exact⟨x,by simp[hx],R3⟩
theorem aG.zt:∀{sto:aG} {t:Nat} {e:SC},sto.cp t=some e→∃x∈sto,x.1=t
 |[],t,e,h=>by simp[aG.cp] at h
 |(t',e')::r,t,e,h=>by
  simp only[aG.cp] at h
  cases hb:Nat.beq t' t with
  |true=>exact⟨(t',e'),by simp,Nat.eq_of_beq_eq_true hb⟩
  |false =>
   simp only[hb,cond_false] at h
   obtain⟨x,hx,R3⟩:=aG.zt h
   exact⟨x,by simp[hx],R3⟩
theorem BY{α β:Type}{f g:α→β} : ∀{l:List α},l.map f=l.map g→∀x∈l,f x=g x
 |[],_,x,hx=>by cases hx
 |y::l,h,x,hx=>by
  rw[List.map_cons,List.map_cons] at h
  injection h with h1 h2
  rcases List.mem_cons.1 hx with rfl|hx
  ·exact h1
  ·exact BY h2 x hx
theorem F8{ts rs:List Nat}{s:St}{y:NF}(h:nf ts rs s=some y):(∀x∈s.env,x.1∈ts)∧(∀x∈s.sto,x.1∈rs)∧y=(ts.map s.env.get,rs.map s.sto.cp):=by
 unfold nf at h
 cases hb:(s.env.all (fun x=>ts.contains x.1)&&s.sto.all (fun x=>rs.contains x.1)) with
 |false=>rw[hb] at h;cases h
 |true =>
  simp only[hb,cond_true] at h
  injection h with h
  rw[Bool.and_eq_true,List.all_eq_true,List.all_eq_true] at hb
  exact⟨fun x hx=>by simpa using hb.1 x hx,fun x hx=>by simpa using hb.2 x hx,h.symm⟩
theorem KO{ts rs:List Nat}{s1 s2:St}{y:NF}(h1:nf ts rs s1=some y)(h2:nf ts rs s2=some y):Kv s1 s2:=by
 obtain⟨a1,b1,e1⟩:=F8 h1
 obtain⟨a2,b2,e2⟩:=F8 h2
 rw[e1] at e2
 injection e2 with q1 q2
 refine⟨fun t => ?_,fun r => ?_⟩
 ·by_cases ht:t∈ts
  ·exact(BY q1 t ht).symm
  ·cases g1:s1.env.get t with
   |some e=>obtain⟨x,hx,rfl⟩:=Env.BX g1;exact absurd (a1 x hx) ht
   |none =>
    cases g2:s2.env.get t with
    |some e=>obtain⟨x,hx,rfl⟩:=Env.BX g2;exact absurd (a2 x hx) ht
    |none=>rfl
 ·have key:∀r,s2.sto.cp r=s1.sto.cp r:=fun r=>by
   by_cases ht:r∈rs
   ·exact(BY q2 r ht).symm
   ·cases g1:s1.sto.cp r with
    |some e=>obtain⟨x,hx,rfl⟩:=aG.zt g1;exact absurd (b1 x hx) ht
    |none =>
     cases g2:s2.sto.cp r with
     |some e=>obtain⟨x,hx,rfl⟩:=aG.zt g2;exact absurd (b2 x hx) ht
     |none=>rfl
  unfold aG.get aG.hp
  rw[key,key]
theorem G6{n:Nat}{hs:List Hint}{al ts rs:List Nat}{can:List (List Prop)}{U:List Nat}{i:Nat}(h:F2 P T n ops hs al ts rs s (U,i)=F3 P T n ops hs al ts rs s can (U,i))
  {sU:St} {oU:List (List Prop)} (hU:xP P T n ops hs U al s=some (sU,oU)) :
  ∃o s1 s2 o2,ops[i]? = some o∧stepG P T n ops o (hs.getD i .none) sU=some (s1,can.getD (KM al i) [])∧xP P T n ops hs (Di U i) al s=some (s2,o2)∧Kv s1 s2:=by
 unfold F2 F3 at h
 simp only[hU] at h
 have hr:∀(ob:List Prop) (y:NF),((0:Nat),(([],[]):NF),([]:List Prop))≠(1,y,ob):=fun ob y e=>by injection e with e;cases e
 cases h2:xP P T n ops hs (Di U i) al s with
 |none =>
  simp only[h2] at h
  exfalso
  split at h
  ·split at h
   ·split at h
    ·injection h with e;cases e
    ·injection h with e;cases e
   ·injection h with e;cases e
  ·injection h with e;cases e
 |some p =>
  obtain⟨s2,o2⟩:=p
  simp only[h2] at h
  cases h3:nf ts rs s2 with
  |none =>
   simp only[h3] at h
   exfalso
   split at h
   ·split at h
    ·split at h
     ·injection h with e;cases e
     ·injection h with e;cases e
    ·injection h with e;cases e
   ·injection h with e;cases e
  |some y2 =>
   simp only[h3] at h
   split at h
   ·rename_i o ho
    split at h
    ·rename_i s1 ob aD
     split at h
     ·rename_i y hy
      injection h with _ h;injection h with e1 e2
      subst e1;subst e2
      exact⟨o,s1,s2,o2,ho,aD,rfl,KO hy h3⟩
     ·injection h with e;cases e
    ·injection h with e;cases e
   ·injection h with e;cases e
theorem ID{fl:List Nat}{i:Nat} : i∈lL ops fl↔i<ops.size∧i ∉ fl:=by
 unfold lL
 rw[List.mem_filter,List.mem_range]
 simp
theorem AJ(hm:P.follows .mixedOrders=true)(hT:lH P T)(hs:∀r,aS Γ.sin r→Γ.n≤r)(hQ:∀c a w d v,Q (.panic c) (Act.put a d v) w→Q (.panic c) a w){id:Nat}{fl:List Nat}{Us:List (List Nat)}{hints:List Hint}{ob:List Prop}(hr:Rel Γ s a w)
  (aD:BW P T Γ.n ops fl (lL ops fl) Us hints s=some (s',ob)) (bK:cW ob) (hk:∀a' w',Rel Γ s' a' w'→Q .normal a' w'):(Code.region id ops true).wp P Q a w:=by
 refine wp_region_any hm ?_
 unfold BW at aD
 generalize KP:lL ops fl=al at aD
 cases rf:(Us.contains al&&(w5 ops Us).all (fun x=>Us.contains (Di x.1 x.2))&&fwd ops [] (List.range ops.size)&&Region.noSelect ops&&(List.range ops.size).all (fun i=>(ix ops i).all fun e=>Nat.blt e ops.size)&&wk fl&&fl.all (fun i=>Nat.blt i ops.size)) with
 |false=>rw[rf] at aD;cases aD
 |true =>
  simp only[rf,cond_true] at aD
  split at aD
  ·rename_i s0 FO
   split at aD
   ·rename_i s1 can PA
    injection aD with aD;injection aD with e1 e2
    subst e1;subst e2
    obtain⟨g1,g2⟩:=bK.app
    have g2:uX P T Γ.n ops al Us hints s0=uY P T Γ.n ops al Us hints s0:=g2
    unfold uX uY LS at g2
    rw[PA,F6] at g2
    have g2:(w5 ops Us).map (F2 P T Γ.n ops hints al (F4 ops s0) (F5 ops s0) s0)=(w5 ops Us).map (F3 P T Γ.n ops hints al (F4 ops s0) (F5 ops s0) s0 can):=g2
    simp only[Bool.and_eq_true,List.all_eq_true] at rf
    obtain⟨⟨⟨⟨⟨⟨c1,c2⟩,c3⟩,c4⟩,c5⟩,c6⟩,c7⟩:=rf
    have PB:al∈Us:=by simpa using c1
    have wq:∀i,i∈al↔i<ops.size∧i ∉ fl:=fun i=>by rw[←KP];exact ID
    have A9:∀i,i<ops.size→∀e∈ix ops i,e<ops.size:=fun i hi e he=>Nat.le_of_ble_eq_true (c5 i (by simpa using hi) e he)
    have main:∀(fuel:Nat) (U:List Nat) (bQ:Array Bool) (a:Act) (w:World) (sU:St) (oU:List (List Prop)),U.length=fuel→U∈Us→U.Nodup→(∀i∈U,i<ops.size)→Iu ops bQ U →
      xP P T Γ.n ops hints U al s0=some (sU,oU)→Rel Γ sU a w→wpAny P .any ops Q fuel bQ a w:=by
     intro fuel
     induction fuel with
     |zero =>
      intro U bQ a w sU oU hlen _ _ _ hl hU gY
      have:U=[]:=List.eq_nil_of_length_eq_zero hlen
      subst this
      rw[PA] at hU
      injection hU with hU;injection hU with e1 _
      subst e1
      refine⟨?_,hk a w gY⟩
      apply List.eq_nil_iff_forall_not_mem.2
      intro i hi
      have cQ:i<ops.size:=by
       rw[mem_ready] at hi
       obtain⟨_,o,ho,_⟩:=hi
       exact(Array.getElem?_eq_some_iff.1 ho).1
      have:=(jI hl (A9 i cQ)).1 hi
      simp at this
     |succ fuel ih =>
      intro U bQ a w sU oU hlen VL hn cQ hl hU gY
      refine⟨fun BG => ?_,fun i hi => ?_⟩
      ·have iO:∃i,i∈List.range ops.size∧i∈U:=by
        cases U with
        |nil=>cases hlen
        |cons j U=>exact⟨j,by simpa using cQ j (by simp),by simp⟩
       obtain⟨j,_,xE,R2⟩:=wj ops U (List.range ops.size) [] c3 (fun e he=>by cases he) iO
       have:j∈Region.ready .any ops bQ:=(jI hl (A9 j (cQ j xE))).2 ⟨cQ j xE,xE,R2⟩
       rw[BG] at this;cases this
      ·have IE:i<ops.size:=by
        have Kh:=hi
        rw[mem_ready] at Kh
        obtain⟨_,o,ho,_⟩:=Kh
        exact(Array.getElem?_eq_some_iff.1 ho).1
       obtain⟨_,Hx,lI⟩:=(jI hl (A9 i IE)).1 hi
       have wq:(U,i)∈w5 ops Us:=by
        unfold w5
        refine List.mem_flatMap.2 ⟨U,VL,List.mem_map.2 ⟨i,List.mem_filter.2 ⟨Hx,?_⟩,rfl⟩⟩
        rw[List.all_eq_true]
        intro e he
        simpa using lI e he
       obtain⟨o,Xd,s2,o2,ho,F9,PC,IB⟩:=G6 (BY g2 (U,i) wq) hU
       unfold wpOp
       rw[ho]
       refine rS hT hs gY F9 (F7 can (KM al i) g1) (fun a' w' dy => ?_)
       have VM:Di U i∈Us:=by simpa using c2 (U,i) wq
       exact ih (Di U i) _ a' w' s2 o2 (by have:=FY hn Hx;omega) VM (List.Pairwise.filter _ hn) (fun j hj=>cQ j (np.1 hj).1) (hl.set IE) PC (Rel.HY IB dy)
    have dy:Rel Γ s a w.drew:=by
     obtain⟨β,I,hr⟩:=hr
     exact⟨β,I,hr.grow ((ur.refl _ _).drew) (fun b h=>h) (fun b h => .inl h)⟩
    have h0:∀(l:List Nat) (U:List Nat),(∀i∈l,i∈U)→xP P T Γ.n ops hints U l s0=some (s0,[]):=by
     intro l
     induction l with
     |nil=>intro U _;rfl
     |cons i l ih =>
      intro U h
      unfold xP
      have:U.contains i=true:=by simpa using h i (by simp)
      rw[this]
      exact ih U (fun j hj=>h j (by simp[hj]))
    have T3:fl.Nodup:=rW c6
    have T4:al.Nodup:=by rw[←KP];exact List.Pairwise.filter _ List.nodup_range
    have T5:∀i∈fl,i<ops.size:=fun i hi=>Nat.le_of_ble_eq_true (c7 i hi)
    have IC:∀i∈fl,i ∉ al:=fun i hi h=>((wq i).1 h).2 hi
    have hlen:fl.length+al.length=ops.size:=by
     have RU:(fl++al).Nodup:=List.nodup_append.2 ⟨T3,T4,fun i hi j hj e=>IC i hi (e ▸ hj)⟩
     have h1:=List.Nodup.length_le_of_subset (l₁:=fl++al) (l₂:=List.range ops.size) RU (fun j hj=>by
      rw[List.mem_range]
      rcases List.mem_append.1 hj with h|h
      ·exact T5 j h
      ·exact((wq j).1 h).1)
     have h2:=List.Nodup.length_le_of_subset (l₁:=List.range ops.size) (l₂:=fl++al) List.nodup_range (fun j hj=>by
      rw[List.mem_range] at hj
      rw[List.mem_append]
      by_cases h:j∈fl
      ·exact .inl h
      ·exact .inr ((wq j).2 ⟨hj,h⟩))
     rw[List.length_append,List.length_range] at h1 h2
     omega
    have key:=tS (Q:=Q) (s0:=s0) (rest:=al.length) hT c4 hQ al (fun bQ a w hl gY =>
     main al.length al bQ a w s0 [] rfl PB T4 (fun i hi=>((wq i).1 hi).1) hl (h0 _ _ (fun i hi=>hi)) gY)
     fl (fl++al) (Array.replicate ops.size false) s a w.drew (fun j=>by rw[List.mem_append];exact Or.comm) IC T3 T5
     ⟨by simp,fun j hj=>by
      constructor
      ·intro h
       have hf:(Array.replicate ops.size false).getD j false=false:=by simp[Array.getD_eq_getD_getElem?,hj]
       rw[hf] at h;cases h
      ·intro h
       refine absurd ?_ h
       rw[List.mem_append]
       by_cases hf:j∈fl
       ·exact .inl hf
       ·exact .inr ((wq j).2 ⟨hj,hf⟩)⟩ dy FO
    rw[hlen] at key
    exact key
   ·cases aD
  ·cases aD
end
end Go.Proofs.YtfjfekodeplcoaaGreat.Sym
