/- Bezout and Accepts of the program answer as the reference does. -/
import Derived.Test.YtboilcfohmmpbaaGreatDoorYSymT
namespace Go.Proofs.YtboilcfohmmpbaaGreatDoor.Sym
open Go Go.RowKit
def runD(P:Program)(T:Tab)(n:Nat)(ops:Array Oper)(hs:List Hint)(U:List Nat):List Nat→St→Option (St×List (List Prop))
 |[],s=>some (s,[])
 |i::l,s=>bif U.contains i then runD P T n ops hs U l s else match ops[i]? with
  |some o=>match stepG P T n ops o (hs.getD i .none) s with
   |some (s1,ob)=>match runD P T n ops hs U l s1 with
    |some (s2,obs)=>some (s2,ob::obs)
    |none=>none
   |none=>none
  |none=>none
abbrev NF:=List (Option EV)×List (Option SC)
def nf(ts rs:List Nat)(s:St):Option NF :=
 bif s.env.all (fun x=>ts.contains x.1)&&s.sto.all (fun x=>rs.contains x.1) then some (ts.map s.env.get,rs.map s.sto.get0) else none
def posF:List Nat→Nat→Nat
 |[],_=>0
 |x::r,i=>bif Nat.beq x i then 0 else posF r i+1
def edgeL(P:Program)(T:Tab)(n:Nat)(ops:Array Oper)(hs:List Hint)(al ts rs:List Nat)(s:St)(x:List Nat×Nat):Nat×NF×List Prop :=
 match runD P T n ops hs x.1 al s with
 |some (sU,_)=>match ops[x.2]? with
  |some o=>match stepG P T n ops o (hs.getD x.2 .none) sU with
   |some (s',ob)=>match nf ts rs s' with
    |some y=>(1,y,ob)
    |none=>(0,([],[]),[])
   |none=>(0,([],[]),[])
  |none=>(0,([],[]),[])
 |none=>(0,([],[]),[])
def edgeR(P:Program)(T:Tab)(n:Nat)(ops:Array Oper)(hs:List Hint)(al ts rs:List Nat)(s:St)(can:List (List Prop))(x:List Nat×Nat):Nat×NF×List Prop :=
 match runD P T n ops hs (ErU x.1 x.2) al s with
 |some (s'',_)=>match nf ts rs s'' with
  |some y=>(1,y,can.getD (posF al x.2) [])
  |none=>(2,([],[]),[])
 |none=>(2,([],[]),[])
def edges(ops:Array Oper)(Us:List (List Nat)):List (List Nat×Nat) :=
 Us.flatMap fun U=>(U.filter fun i=>(dirOf ops i).all fun e => !(U.contains e)).map fun i=>(U,i)
def keysT(ops:Array Oper)(s:St):List Nat:=s.env.map (·.1)++ops.toList.filterMap (·.dst)
def keysR(ops:Array Oper)(s:St):List Nat:=s.sto.map (·.1)++(ops.toList.filterMap (·.dst)++[999999])
def mapR{α β:Type}(f:α→β):List α→List β
 |[]=>[]
 |x::l=>f x::mapR f l
theorem mapR_eq{α β:Type}(f:α→β):∀l:List α,mapR f l=l.map f
 |[]=>rfl
 |x::l=>by rw[mapR,mapR_eq f l,List.map_cons]
def canOf(P:Program)(T:Tab)(n:Nat)(ops:Array Oper)(hs:List Hint)(al:List Nat)(s:St):List (List Prop) :=
 match runD P T n ops hs [] al s with
 |some (_,can)=>can
 |none=>[]
def anyL(P:Program)(T:Tab)(n:Nat)(ops:Array Oper)(al:List Nat)(Us:List (List Nat))(hs:List Hint)(s:St):List (Nat×NF×List Prop) :=
 (edges ops Us).map (edgeL P T n ops hs al (keysT ops s) (keysR ops s) s)
def anyR(P:Program)(T:Tab)(n:Nat)(ops:Array Oper)(al:List Nat)(Us:List (List Nat))(hs:List Hint)(s:St):List (Nat×NF×List Prop) :=
 mapR (edgeR P T n ops hs al (keysT ops s) (keysR ops s) s (canOf P T n ops hs al s)) (edges ops Us)
def lvl(ops:Array Oper)(l:List (List Nat)):List (List Nat) :=
 (l.flatMap fun U=>(U.filter fun i=>(dirOf ops i).all fun e => !(U.contains e)).map (ErU U)).eraseDups
def lvls(ops:Array Oper):Nat→List (List Nat)→List (List Nat)
 |0,l=>l
 |n+1,l=>l++lvls ops n (lvl ops l)
def allF(ops:Array Oper)(fl:List Nat):List Nat:=(List.range ops.size).filter fun i => !(fl.contains i)
def downs(ops:Array Oper)(fl:List Nat):List (List Nat):=lvls ops ops.size [allF ops fl]
def flS(T:Tab)(n:Nat)(ops:Array Oper)(fl:List Nat)(s:St):St:=(floats T n ops fl (Array.replicate ops.size false) s).getD s
def anyStep(P:Program)(T:Tab)(n:Nat)(ops:Array Oper)(fl:List Nat)(al:List Nat)(Us:List (List Nat))(hs:List Hint)(s:St):Option (St×List Prop) :=
 bif Us.contains al&&(edges ops Us).all (fun x=>Us.contains (ErU x.1 x.2))&&fwd ops [] (List.range ops.size)&&Region.noSelect ops&&(List.range ops.size).all (fun i=>(dirOf ops i).all fun e=>Nat.blt e ops.size)&&nodupB fl&&fl.all (fun i=>Nat.blt i ops.size) then
  match floats T n ops fl (Array.replicate ops.size false) s with
  |some s0=>match runD P T n ops hs [] al s0 with
   |some (s',can)=>some (s',can.flatten++[anyL P T n ops al Us hs s0=anyR P T n ops al Us hs s0])
   |none=>none
  |none=>none
 else none
section
variable {P:Program} {T:Tab} {Γ:Ctx} {s s':St} {a:Act} {w:World} {ops:Array Oper} {Q:Exit→Act→World→Prop}
theorem alls_at:∀(can:List (List Prop)) (i:Nat),Alls can.flatten→Alls (can.getD i [])
 |[],i,_=>by simp[Alls]
 |c::can,0,h=>by
  rw[List.flatten_cons] at h
  exact(Alls.app h).1
 |c::can,i+1,h=>by
  rw[List.flatten_cons] at h
  have:=alls_at can i (Alls.app h).2
  simpa using this
theorem Env.get_key:∀{env:Env} {t:Nat} {e:EV},env.get t=some e→∃x∈env,x.1=t
 |[],t,e,h=>by simp[Env.get] at h
 |(t',e')::r,t,e,h=>by
  simp only[Env.get] at h
  cases hb:Nat.beq t' t with
  |true=>exact⟨(t',e'),by simp,Nat.eq_of_beq_eq_true hb⟩
  |false =>
   simp only[hb,cond_false] at h
   obtain⟨x,hx,hxt⟩:=Env.get_key h
   exact⟨x,by simp[hx],hxt⟩
theorem Sto.get0_key:∀{sto:Sto} {t:Nat} {e:SC},sto.get0 t=some e→∃x∈sto,x.1=t
 |[],t,e,h=>by simp[Sto.get0] at h
 |(t',e')::r,t,e,h=>by
  simp only[Sto.get0] at h
  cases hb:Nat.beq t' t with
  |true=>exact⟨(t',e'),by simp,Nat.eq_of_beq_eq_true hb⟩
  |false =>
   simp only[hb,cond_false] at h
   obtain⟨x,hx,hxt⟩:=Sto.get0_key h
   exact⟨x,by simp[hx],hxt⟩
theorem map_at{α β:Type}{f g:α→β} : ∀{l:List α},l.map f=l.map g→∀x∈l,f x=g x
 |[],_,x,hx=>by cases hx
 |y::l,h,x,hx=>by
  rw[List.map_cons,List.map_cons] at h
  injection h with h1 h2
  rcases List.mem_cons.1 hx with rfl|hx
  ·exact h1
  ·exact map_at h2 x hx
theorem nf_some{ts rs:List Nat}{s:St}{y:NF}(h:nf ts rs s=some y):(∀x∈s.env,x.1∈ts)∧(∀x∈s.sto,x.1∈rs)∧y=(ts.map s.env.get,rs.map s.sto.get0):=by
 unfold nf at h
 cases hb:(s.env.all (fun x=>ts.contains x.1)&&s.sto.all (fun x=>rs.contains x.1)) with
 |false=>rw[hb] at h;cases h
 |true =>
  simp only[hb,cond_true] at h
  injection h with h
  rw[Bool.and_eq_true,List.all_eq_true,List.all_eq_true] at hb
  exact⟨fun x hx=>by simpa using hb.1 x hx,fun x hx=>by simpa using hb.2 x hx,h.symm⟩
theorem nf_like{ts rs:List Nat}{s1 s2:St}{y:NF}(h1:nf ts rs s1=some y)(h2:nf ts rs s2=some y):Like s1 s2:=by
 obtain⟨a1,b1,e1⟩:=nf_some h1
 obtain⟨a2,b2,e2⟩:=nf_some h2
 rw[e1] at e2
 injection e2 with q1 q2
 refine⟨fun t => ?_,fun r => ?_⟩
 ·by_cases ht:t∈ts
  ·exact(map_at q1 t ht).symm
  ·cases g1:s1.env.get t with
   |some e=>obtain⟨x,hx,rfl⟩:=Env.get_key g1;exact absurd (a1 x hx) ht
   |none =>
    cases g2:s2.env.get t with
    |some e=>obtain⟨x,hx,rfl⟩:=Env.get_key g2;exact absurd (a2 x hx) ht
    |none=>rfl
 ·have key:∀r,s2.sto.get0 r=s1.sto.get0 r:=fun r=>by
   by_cases ht:r∈rs
   ·exact(map_at q2 r ht).symm
   ·cases g1:s1.sto.get0 r with
    |some e=>obtain⟨x,hx,rfl⟩:=Sto.get0_key g1;exact absurd (b1 x hx) ht
    |none =>
     cases g2:s2.sto.get0 r with
     |some e=>obtain⟨x,hx,rfl⟩:=Sto.get0_key g2;exact absurd (b2 x hx) ht
     |none=>rfl
  unfold Sto.get Sto.hp
  rw[key,key]
theorem edge_some{n:Nat}{hs:List Hint}{al ts rs:List Nat}{can:List (List Prop)}{U:List Nat}{i:Nat}(h:edgeL P T n ops hs al ts rs s (U,i)=edgeR P T n ops hs al ts rs s can (U,i))
  {sU:St} {oU:List (List Prop)} (hU:runD P T n ops hs U al s=some (sU,oU)) :
  ∃o s1 s2 o2,ops[i]? = some o∧stepG P T n ops o (hs.getD i .none) sU=some (s1,can.getD (posF al i) [])∧runD P T n ops hs (ErU U i) al s=some (s2,o2)∧Like s1 s2:=by
 unfold edgeL edgeR at h
 simp only[hU] at h
 have hr:∀(ob:List Prop) (y:NF),((0:Nat),(([],[]):NF),([]:List Prop))≠(1,y,ob):=fun ob y e=>by injection e with e;cases e
 cases h2:runD P T n ops hs (ErU U i) al s with
 |none =>
  simp only[h2] at h
  exfalso
  split at h
  ·split at h
   ·split at h
    ·injection h with e;cases e
    ·injection h with e;cases e
   ·injection h with e;cases e
  ·injection h with e;cases e
 |some p =>
  obtain⟨s2,o2⟩:=p
  simp only[h2] at h
  cases h3:nf ts rs s2 with
  |none =>
   simp only[h3] at h
   exfalso
   split at h
   ·split at h
    ·split at h
     ·injection h with e;cases e
     ·injection h with e;cases e
    ·injection h with e;cases e
   ·injection h with e;cases e
  |some y2 =>
   simp only[h3] at h
   split at h
   ·rename_i o ho
    split at h
    ·rename_i s1 ob hst
     split at h
     ·rename_i y hy
      injection h with _ h;injection h with e1 e2
      subst e1;subst e2
      exact⟨o,s1,s2,o2,ho,hst,rfl,nf_like hy h3⟩
     ·injection h with e;cases e
    ·injection h with e;cases e
   ·injection h with e;cases e
theorem mem_allF{fl:List Nat}{i:Nat} : i∈allF ops fl↔i<ops.size∧i ∉ fl:=by
 unfold allF
 rw[List.mem_filter,List.mem_range]
 simp
theorem region_anyset(hm:P.follows .mixedOrders=true)(hT:TOk P T)(hs:∀r,dom Γ.sin r→Γ.n≤r)(hQ:∀c a w d v,Q (.panic c) (Act.put a d v) w→Q (.panic c) a w){id:Nat}{fl:List Nat}{Us:List (List Nat)}{hints:List Hint}{ob:List Prop}(hr:Rel Γ s a w)
  (hst:anyStep P T Γ.n ops fl (allF ops fl) Us hints s=some (s',ob)) (hob:Alls ob) (hk:∀a' w',Rel Γ s' a' w'→Q .normal a' w'):(Code.region id ops true).wp P Q a w:=by
 refine wp_region_any hm ?_
 unfold anyStep at hst
 generalize hal:allF ops fl=al at hst
 cases hd1:(Us.contains al&&(edges ops Us).all (fun x=>Us.contains (ErU x.1 x.2))&&fwd ops [] (List.range ops.size)&&Region.noSelect ops&&(List.range ops.size).all (fun i=>(dirOf ops i).all fun e=>Nat.blt e ops.size)&&nodupB fl&&fl.all (fun i=>Nat.blt i ops.size)) with
 |false=>rw[hd1] at hst;cases hst
 |true =>
  simp only[hd1,cond_true] at hst
  split at hst
  ·rename_i s0 hfl
   split at hst
   ·rename_i s1 can hcan
    injection hst with hst;injection hst with e1 e2
    subst e1;subst e2
    obtain⟨g1,g2⟩:=hob.app
    have g2:anyL P T Γ.n ops al Us hints s0=anyR P T Γ.n ops al Us hints s0:=g2
    unfold anyL anyR canOf at g2
    rw[hcan,mapR_eq] at g2
    have g2:(edges ops Us).map (edgeL P T Γ.n ops hints al (keysT ops s0) (keysR ops s0) s0)=(edges ops Us).map (edgeR P T Γ.n ops hints al (keysT ops s0) (keysR ops s0) s0 can):=g2
    simp only[Bool.and_eq_true,List.all_eq_true] at hd1
    obtain⟨⟨⟨⟨⟨⟨c1,c2⟩,c3⟩,c4⟩,c5⟩,c6⟩,c7⟩:=hd1
    have hfull:al∈Us:=by simpa using c1
    have hmem:∀i,i∈al↔i<ops.size∧i ∉ fl:=fun i=>by rw[←hal];exact mem_allF
    have hfw:∀i,i<ops.size→∀e∈dirOf ops i,e<ops.size:=fun i hi e he=>Nat.le_of_ble_eq_true (c5 i (by simpa using hi) e he)
    have main:∀(fuel:Nat) (U:List Nat) (listed:Array Bool) (a:Act) (w:World) (sU:St) (oU:List (List Prop)),U.length=fuel→U∈Us→U.Nodup→(∀i∈U,i<ops.size)→Lst ops listed U →
      runD P T Γ.n ops hints U al s0=some (sU,oU)→Rel Γ sU a w→wpAny P .any ops Q fuel listed a w:=by
     intro fuel
     induction fuel with
     |zero =>
      intro U listed a w sU oU hlen _ _ _ hl hU hrel
      have:U=[]:=List.eq_nil_of_length_eq_zero hlen
      subst this
      rw[hcan] at hU
      injection hU with hU;injection hU with e1 _
      subst e1
      refine⟨?_,hk a w hrel⟩
      apply List.eq_nil_iff_forall_not_mem.2
      intro i hi
      have hlt:i<ops.size:=by
       rw[mem_ready] at hi
       obtain⟨_,o,ho,_⟩:=hi
       exact(Array.getElem?_eq_some_iff.1 ho).1
      have:=(ready_iff hl (hfw i hlt)).1 hi
      simp at this
     |succ fuel ih =>
      intro U listed a w sU oU hlen hUs hn hlt hl hU hrel
      refine⟨fun hnil => ?_,fun i hi => ?_⟩
      ·have hne:∃i,i∈List.range ops.size∧i∈U:=by
        cases U with
        |nil=>cases hlen
        |cons j U=>exact⟨j,by simpa using hlt j (by simp),by simp⟩
       obtain⟨j,_,hj2,hj3⟩:=fwd_first ops U (List.range ops.size) [] c3 (fun e he=>by cases he) hne
       have:j∈Region.ready .any ops listed:=(ready_iff hl (hfw j (hlt j hj2))).2 ⟨hlt j hj2,hj2,hj3⟩
       rw[hnil] at this;cases this
      ·have hil:i<ops.size:=by
        have hi':=hi
        rw[mem_ready] at hi'
        obtain⟨_,o,ho,_⟩:=hi'
        exact(Array.getElem?_eq_some_iff.1 ho).1
       obtain⟨_,hiU,hde⟩:=(ready_iff hl (hfw i hil)).1 hi
       have hmem:(U,i)∈edges ops Us:=by
        unfold edges
        refine List.mem_flatMap.2 ⟨U,hUs,List.mem_map.2 ⟨i,List.mem_filter.2 ⟨hiU,?_⟩,rfl⟩⟩
        rw[List.all_eq_true]
        intro e he
        simpa using hde e he
       obtain⟨o,s1',s2,o2,ho,hstep,hrun2,hlike⟩:=edge_some (map_at g2 (U,i) hmem) hU
       unfold wpOp
       rw[ho]
       refine stepG_sound hT hs hrel hstep (alls_at can (posF al i) g1) (fun a' w' hr' => ?_)
       have hEU:ErU U i∈Us:=by simpa using c2 (U,i) hmem
       exact ih (ErU U i) _ a' w' s2 o2 (by have:=ErU_len hn hiU;omega) hEU (List.Pairwise.filter _ hn) (fun j hj=>hlt j (mem_ErU.1 hj).1) (hl.set hil) hrun2 (Rel.like hlike hr')
    have hr':Rel Γ s a w.drew:=by
     obtain⟨β,I,hr⟩:=hr
     exact⟨β,I,hr.grow ((Bel.refl _ _).drew) (fun b h=>h) (fun b h => .inl h)⟩
    have h0:∀(l:List Nat) (U:List Nat),(∀i∈l,i∈U)→runD P T Γ.n ops hints U l s0=some (s0,[]):=by
     intro l
     induction l with
     |nil=>intro U _;rfl
     |cons i l ih =>
      intro U h
      unfold runD
      have:U.contains i=true:=by simpa using h i (by simp)
      rw[this]
      exact ih U (fun j hj=>h j (by simp[hj]))
    have hnf:fl.Nodup:=nodupB_spec c6
    have hna:al.Nodup:=by rw[←hal];exact List.Pairwise.filter _ List.nodup_range
    have hlf:∀i∈fl,i<ops.size:=fun i hi=>Nat.le_of_ble_eq_true (c7 i hi)
    have hdis:∀i∈fl,i ∉ al:=fun i hi h=>((hmem i).1 h).2 hi
    have hlen:fl.length+al.length=ops.size:=by
     have hnn:(fl++al).Nodup:=List.nodup_append.2 ⟨hnf,hna,fun i hi j hj e=>hdis i hi (e ▸ hj)⟩
     have h1:=List.Nodup.length_le_of_subset (l₁:=fl++al) (l₂:=List.range ops.size) hnn (fun j hj=>by
      rw[List.mem_range]
      rcases List.mem_append.1 hj with h|h
      ·exact hlf j h
      ·exact((hmem j).1 h).1)
     have h2:=List.Nodup.length_le_of_subset (l₁:=List.range ops.size) (l₂:=fl++al) List.nodup_range (fun j hj=>by
      rw[List.mem_range] at hj
      rw[List.mem_append]
      by_cases h:j∈fl
      ·exact .inl h
      ·exact .inr ((hmem j).2 ⟨hj,h⟩))
     rw[List.length_append,List.length_range] at h1 h2
     omega
    have key:=floats_any (Q:=Q) (s0:=s0) (rest:=al.length) hT c4 hQ al (fun listed a w hl hrel =>
     main al.length al listed a w s0 [] rfl hfull hna (fun i hi=>((hmem i).1 hi).1) hl (h0 _ _ (fun i hi=>hi)) hrel)
     fl (fl++al) (Array.replicate ops.size false) s a w.drew (fun j=>by rw[List.mem_append];exact Or.comm) hdis hnf hlf
     ⟨by simp,fun j hj=>by
      constructor
      ·intro h
       have hf:(Array.replicate ops.size false).getD j false=false:=by simp[Array.getD_eq_getD_getElem?,hj]
       rw[hf] at h;cases h
      ·intro h
       refine absurd ?_ h
       rw[List.mem_append]
       by_cases hf:j∈fl
       ·exact .inl hf
       ·exact .inr ((hmem j).2 ⟨hj,hf⟩)⟩ hr' hfl
    rw[hlen] at key
    exact key
   ·cases hst
  ·cases hst
end
end Go.Proofs.YtboilcfohmmpbaaGreatDoor.Sym
