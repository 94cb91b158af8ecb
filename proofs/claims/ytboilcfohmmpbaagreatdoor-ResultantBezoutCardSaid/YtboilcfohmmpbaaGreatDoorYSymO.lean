/- Bezout and Accepts of the program answer as the reference does. -/
import Derived.Test.YtboilcfohmmpbaaGreatDoorYSymN
namespace Go.Proofs.YtboilcfohmmpbaaGreatDoor.Sym
open Go Go.RowKit
inductive TE where
 |reg (hs:List Hint)
 |drw (fl hd:List Nat) (tl:List Nat) (hs:List Hint)
 |any (fl:List Nat) (hs:List Hint)
 |dec (d:Bool)
 |auto
 |keep (ts:List Nat)
 |drop (rs:List Nat)
 |frzT (t:Nat) (xs:List (List PV))
 |frzC (q j:Nat) (xs:List (List PV))
 |adopt (t d sz:Nat)
 |adoptC (q j d sz:Nat)
 |cut (r k:Nat) (ps:List PV)
 |ren (r r':Nat)
 |ord (rs:List Nat)
 |rel (t j:Nat) (xs:List (Option (List PV)))
 |newheap
 |dropH
 |adoptM (t d sz:Nat)
def keepEnv(env:Env):List Nat→Env
 |[]=>[]
 |t::ts=>match env.get t with
  |some e=>(t,e)::keepEnv env ts
  |none=>keepEnv env ts
theorem keepEnv_get{env:Env}{t:Nat}{e:EV} : ∀(ts:List Nat),(keepEnv env ts).get t=some e→env.get t=some e
 |[],h=>by simp[keepEnv,Env.get] at h
 |t'::ts,h=>by
  unfold keepEnv at h
  split at h
  ·rename_i e' he'
   simp only[Env.get] at h
   cases hb:Nat.beq t' t with
   |true =>
    have:t'=t:=Nat.eq_of_beq_eq_true hb
    subst this
    simp only[hb,cond_true] at h
    rw[he'];exact h
   |false =>
    simp only[hb,cond_false] at h
    exact keepEnv_get ts h
  ·exact keepEnv_get ts h
def setAt:List EV→Nat→EV→List EV
 |[],_,_=>[]
 |_::r,0,e=>e::r
 |x::r,n+1,e=>x::setAt r n e
theorem setAt_get:∀(l:List EV) (n:Nat) (e:EV) (j:Nat),(setAt l n e)[j]? = if j=n then (l[j]?).map (fun _=>e) else l[j]?
 |[],n,e,j=>by simp[setAt]
 |x::r,0,e,j=>by
  cases j with
  |zero=>simp[setAt]
  |succ j=>simp[setAt]
 |x::r,n+1,e,j=>by
  cases j with
  |zero=>simp[setAt]
  |succ j=>simp[setAt,setAt_get r n e j]
def renN(r r' x:Nat):Nat:=bif Nat.beq x r then r' else x
def renEV(r r':Nat):EV→EV
 |.ptr x o => .ptr (renN r r' x) o
 |.row x o l z => .row (renN r r' x) o l z
 |.rowT x o l z ps => .rowT (renN r r' x) o l z ps
 |.clo f x => .clo f (renN r r' x)
 |e=>e
def renSC(r r':Nat):SC→SC
 |.lit cs => .lit (cs.map (renEV r r'))
 |sc=>sc
def renEnv(r r':Nat):Env→Env
 |[]=>[]
 |(t,e)::env=>(t,renEV r r' e)::renEnv r r' env
def renSto(r r':Nat):Sto→Sto
 |[]=>[]
 |(x,sc)::sto=>(renN r r' x,renSC r r' sc)::renSto r r' sto
def pickSto(sto:Sto):List Nat→Sto
 |[]=>[]
 |r::rs=>match sto.get0 r with
  |some sc=>(r,sc)::pickSto sto rs
  |none=>pickSto sto rs
theorem pickSto_get0(sto:Sto):∀(rs:List Nat) (r:Nat),(pickSto sto rs).get0 r=if r∈rs then sto.get0 r else none
 |[],r=>by simp[pickSto,Sto.get0]
 |q::rs,r=>by
  simp only[pickSto]
  cases hq:sto.get0 q with
  |none =>
   simp only[pickSto_get0 sto rs r]
   by_cases h:r=q
   ·subst h;simp[hq]
   ·simp[h]
  |some sc =>
   simp only[Sto.get0]
   cases hb:Nat.beq q r with
   |true =>
    have:q=r:=Nat.eq_of_beq_eq_true hb
    subst this
    simp[hq]
   |false =>
    have h:r≠q:=by intro e;subst e;simp at hb
    simp[pickSto_get0 sto rs r,h]
def stepTE(n:Nat)(s:St):TE→Option (St×List Prop)
 |.keep ts=>some (⟨keepEnv s.env ts,s.sto⟩,[])
 |.drop rs=>some (killAll rs s,[])
 |.ord rs=>bif s.sto.all (fun x=>rs.contains x.1) then some (⟨s.env,pickSto s.sto rs⟩,[]) else none
 |.frzT t xs=>stepFrz n t xs s
 |.rel t j xs=>stepRel n t j xs s
 |.newheap=>match s.sto.get0 999999 with
  |none=>some (⟨s.env,(999999,.heap [])::s.sto⟩,[])
  |some _=>none
 |.dropH=>bif s.env.all (fun x=>smallB x.2)&&s.sto.all (fun x=>smallSC x.2) then some (killH s,[]) else none
 |.adoptM t d sz=>match s.env.get t,s.sto.get d with
  |some (.pv .nilS),none=>bif Nat.blt d n then some (⟨(t,.row d 0 0 1)::s.env,(d,.mats [] sz)::s.sto⟩,[]) else none
  |_,_=>none
 |.ren r r'=>match s.sto.get r',s.sto.get r with
  |none,some _=>bif ((Nat.blt r n||gvB r)&&Nat.blt r 999999)&&Nat.blt r' n then some (⟨renEnv r r' s.env,renSto r r' s.sto⟩,[]) else none
  |_,_=>none
 |.cut r k ps'=>match s.sto.get r with
  |some (.pure ps)=>some (⟨s.env,Sto.set s.sto r (.pure ps')⟩,[ps.take k=ps'])
  |_=>none
 |.frzC q j xs=>match s.sto.get q with
  |some (.lit cells)=>match cells[j]? with
   |some (.row r 0 len sz)=>match s.sto.get r,(kill r s).sto.get q with
    |some (.pure ps),some (.lit cells')=>bif Nat.blt r n then
      some (⟨(kill r s).env,Sto.set (kill r s).sto q (.lit (setAt cells' j (.pv (.list xs))))⟩,[len=xs.length,ps=xs.flatten,∀row∈xs,row.length=sz]) else none
    |_,_=>none
   |_=>none
  |_=>none
 |.adopt t d sz=>match s.env.get t,s.sto.get d with
  |some (.pv .nilS),none=>bif Nat.blt d n&&Nat.blt t n then some (⟨(t,.row d 0 0 sz)::s.env,(d,.pure [])::s.sto⟩,[]) else none
  |_,_=>none
 |.adoptC q j d sz=>match s.sto.get q,s.sto.get d with
  |some (.lit cells),none=>match cells[j]? with
   |some (.pv .nilS)=>bif Nat.blt d n then some (⟨s.env,(d,.pure [])::Sto.set s.sto q (.lit (setAt cells j (.row d 0 0 sz)))⟩,[]) else none
   |_=>none
  |_,_=>none
 |_=>none
section
variable {P:Program} {T:Tab} {Γ:Ctx} {s s':St} {a:Act} {w:World} {β:Nat→Option Nat} {I:Nat→Prop} {ob:List Prop}
theorem renEnv_get(r r':Nat):∀(env:Env) (t:Nat),(renEnv r r' env).get t=(env.get t).map (renEV r r')
 |[],t=>rfl
 |(t',e)::env,t=>by
  simp only[renEnv,Env.get]
  cases Nat.beq t' t with
  |true=>rfl
  |false=>exact renEnv_get r r' env t
theorem beq_self(n:Nat):Nat.beq n n=true:=Nat.beq_refl n
theorem renN_eq{r r':Nat} : renN r r' r=r':=by unfold renN;rw[beq_self];rfl
theorem renN_ne{r r' x:Nat}(h:x≠r):renN r r' x=x:=by unfold renN;rw[beq_ne h];rfl
theorem renSto_get0(r r':Nat):∀(sto:Sto),sto.get0 r'=none→(∀x sc,sto.get0 x=some sc→(renSto r r' sto).get0 (renN r r' x)=some (renSC r r' sc))∧(∀y sc',(renSto r r' sto).get0 y=some sc'→∃x sc,sto.get0 x=some sc∧y=renN r r' x∧sc'=renSC r r' sc)
 |[],_=>⟨fun x sc h=>by simp[Sto.get0] at h,fun y sc' h=>by simp[renSto,Sto.get0] at h⟩
 |(x0,sc0)::sto,hn=>by
  have hx0:x0≠r':=fun e=>by subst e;simp[Sto.get0] at hn
  have hn':Sto.get0 sto r'=none:=by simpa[Sto.get0,beq_ne hx0] using hn
  obtain⟨ih1,ih2⟩:=renSto_get0 r r' sto hn'
  have inj:∀x,x≠r'→renN r r' x0=renN r r' x→x0=x:=by
   intro x hx h
   by_cases h1:x0=r
   ·by_cases h2:x=r
    ·rw[h1,h2]
    ·rw[h1,renN_eq,renN_ne h2] at h;exact absurd h.symm hx
   ·by_cases h2:x=r
    ·rw[h2,renN_eq,renN_ne h1] at h;exact absurd h hx0
    ·rw[renN_ne h1,renN_ne h2] at h;exact h
  refine⟨fun x sc h => ?_,fun y sc' h => ?_⟩
  ·have hxr:x≠r':=fun e=>by subst e;rw[hn] at h;cases h
   simp only[Sto.get0] at h
   simp only[renSto,Sto.get0]
   by_cases hxx:x0=x
   ·subst hxx
    rw[beq_self] at h ⊢
    injection h with h;subst h;rfl
   ·rw[beq_ne hxx] at h
    rw[beq_ne (fun e=>hxx (inj x hxr e))]
    exact ih1 x sc h
  ·simp only[renSto,Sto.get0] at h
   by_cases hy:renN r r' x0=y
   ·subst hy
    rw[beq_self] at h
    injection h with h
    exact⟨x0,sc0,by simp[Sto.get0],rfl,h.symm⟩
   ·rw[beq_ne hy] at h
    obtain⟨x,sc,h1,h2,h3⟩:=ih2 y sc' h
    have hxx:x0≠x:=fun e=>by subst e;exact hy h2.symm
    exact⟨x,sc,by simp only[Sto.get0];rw[beq_ne hxx];exact h1,h2,h3⟩
theorem renSto_hp{r r':Nat}(hr:r<999999)(hr':r'<999999):∀(sto:Sto),(renSto r r' sto).get0 999999=(sto.get0 999999).map (renSC r r')
 |[]=>rfl
 |(x0,sc0)::sto=>by
  simp only[renSto,Sto.get0,renSto_hp hr hr' sto]
  by_cases h:x0=r
  ·subst h;rw[renN_eq,beq_ne (by omega),beq_ne (by omega)];rfl
  ·rw[renN_ne h];cases Nat.beq x0 999999<;>rfl
theorem renSto_get(r r':Nat)(hr:r<999999)(hr':r'<999999)(sto:Sto)(hn:sto.get r'=none):(∀x sc,sto.get x=some sc→(renSto r r' sto).get (renN r r' x)=some (renSC r r' sc))∧(∀y sc',(renSto r r' sto).get y=some sc'→∃x sc,sto.get x=some sc∧y=renN r r' x∧sc'=renSC r r' sc):=by
 rw[Sto.get_lt hr'] at hn
 obtain⟨g1,g2⟩:=renSto_get0 r r' sto hn
 have hhp:(renSto r r' sto).hp=sto.hp:=by
  unfold Sto.hp
  rw[renSto_hp hr hr' sto]
  cases sto.get0 999999 with
  |none=>rfl
  |some sc=>cases sc<;>rfl
 have hren:∀x,x<999999→renN r r' x<999999:=fun x hx=>by
  by_cases h:x=r
  ·subst h;rw[renN_eq];exact hr'
  ·rw[renN_ne h];exact hx
 have hrc:∀j,renN r r' (hc j)=hc j:=fun j=>renN_ne (by unfold hc;omega)
 refine⟨fun x sc h => ?_,fun y sc' h => ?_⟩
 ·rcases num3 x with hx|rfl|⟨j,rfl⟩
  ·rw[Sto.get_lt hx] at h
   rw[Sto.get_lt (hren x hx)]
   exact g1 x sc h
  ·rw[Sto.get_mid] at h;cases h
  ·rw[Sto.get_hc] at h
   rw[hrc,Sto.get_hc,hhp,h]
   unfold heapAt at h
   split at h
   ·injection h with h;subst h;rfl
   ·cases h
 ·rcases num3 y with hy|rfl|⟨j,rfl⟩
  ·rw[Sto.get_lt hy] at h
   obtain⟨x,sc,h1,h2,h3⟩:=g2 y sc' h
   have hx:x<999999:=by
    by_cases hx:x=r
    ·rw[hx];exact hr
    ·rw[renN_ne hx] at h2;omega
   exact⟨x,sc,by rw[Sto.get_lt hx];exact h1,h2,h3⟩
  ·rw[Sto.get_mid] at h;cases h
  ·rw[Sto.get_hc,hhp] at h
   refine⟨hc j,sc',by rw[Sto.get_hc];exact h,(hrc j).symm,?_⟩
   unfold heapAt at h
   split at h
   ·injection h with h;subst h;rfl
   ·cases h
theorem RelB.ren{r r':Nat}(hr9:r<999999)(hr9':r'<999999)(hr:RelB Γ s a w β I)(hn:s.sto.get r'=none)(hrn:dom Γ.sin r→gv r)(hrn':¬dom Γ.sin r') :
  RelB Γ ⟨renEnv r r' s.env,renSto r r' s.sto⟩ a w (fun x=>if x=r' then β r else β x) I:=by
 obtain⟨g1,g2⟩:=renSto_get r r' hr9 hr9' s.sto hn
 have hd:∀x,dom s.sto x→dom (renSto r r' s.sto) (renN r r' x):=fun x hx=>by
  obtain⟨sc,hsc⟩:=Option.isSome_iff_exists.1 hx
  unfold dom;rw[g1 x sc hsc];rfl
 have hβ:∀x,dom s.sto x→(fun x=>if x=r' then β r else β x) (renN r r' x)=β x:=fun x hx=>by
  by_cases h1:x=r
  ·subst h1;rw[renN_eq];simp
  ·have h2:x≠r':=fun e=>by subst e;unfold dom at hx;rw[hn] at hx;cases hx
   rw[renN_ne h1];simp[h2]
 have hre:∀e v,RE β (dom s.sto) I w e v→RE (fun x=>if x=r' then β r else β x) (dom (renSto r r' s.sto)) I w (renEV r r' e) v:=by
  intro e v h
  cases e with
  |pv p=>exact h
  |ptr x off=>exact⟨hd x h.1,by rw[hβ x h.1];exact h.2⟩
  |row x off len sz=>exact⟨hd x h.1,by rw[hβ x h.1];exact h.2⟩
  |clo f x=>exact⟨hd x h.1,by rw[hβ x h.1];exact h.2⟩
  |rowT x off len sz ps =>
   obtain⟨us,g1,g2,⟨u,g3,g4,g4'⟩,g5⟩:=h
   exact⟨us,g1,g2,⟨u,g3,hd x g4,by rw[hβ x g4];exact g4'⟩,g5⟩
  |cptr c=>exact h
  |dead=>exact h
  |mrow j len sz =>
   have hj:renN r r' (hc j)=hc j:=renN_ne (by unfold hc;omega)
   have h1:=hd (hc j) h.1
   have h2:=hβ (hc j) h.1
   rw[hj] at h1 h2
   exact⟨h1,by rw[h2];exact h.2⟩
  |mptr j off =>
   have hj:renN r r' (hc j)=hc j:=renN_ne (by unfold hc;omega)
   have h1:=hd (hc j) h.1
   have h2:=hβ (hc j) h.1
   rw[hj] at h1 h2
   exact⟨h1,by rw[h2];exact h.2⟩
 have hsc:∀sc:SC,(renSC r r' sc).evs=sc.evs.map (renEV r r'):=fun sc=>by
  cases sc with
  |lit cs=>rfl
  |pure ps=>show ps.map EV.pv=(ps.map EV.pv).map (renEV r r');rw[List.map_map];rfl
  |heap xs=>rfl
  |mats hs sz=>simp[renSC,SC.evs,renEV]
 have back:∀y,dom (renSto r r' s.sto) y→∃x,dom s.sto x∧y=renN r r' x:=fun y hy=>by
  obtain⟨sc',hsc'⟩:=Option.isSome_iff_exists.1 hy
  obtain⟨x,sc,h1,h2,_⟩:=g2 y sc' hsc'
  exact⟨x,by unfold dom;rw[h1];rfl,h2⟩
 refine⟨fun t e he => ?_,⟨fun y sc' hy => ?_,fun y y' b hy hy' h1 h2 => ?_⟩,fun y hy hin hng => ?_,fun y b hy hin hb => ?_,hr.ib,hr.ii,hr.keep,hr.size,hr.defers⟩
 ·have he:(renEnv r r' s.env).get t=some e:=he
  rw[renEnv_get] at he
  cases h0:s.env.get t with
  |none=>rw[h0] at he;cases he
  |some e0 =>
   rw[h0] at he
   injection he with he;subst he
   exact hre e0 _ (hr.env t e0 h0)
 ·obtain⟨x,sc,h1,h2,h3⟩:=g2 y sc' hy
  subst h2;subst h3
  have hdx:dom s.sto x:=by unfold dom;rw[h1];rfl
  obtain⟨k1,k2⟩:=hr.sto.1 x sc h1
  refine⟨?_,fun b hb=>k2 b (by rw[←hβ x hdx];exact hb)⟩
  rw[hsc]
  rcases k1 with ⟨c1,c2⟩|⟨b,arr,el,c1,c2,c3⟩
  ·exact .inl ⟨by rw[hβ x hdx];exact c1,by rw[c2];rfl⟩
  ·refine .inr ⟨b,arr,el,by rw[hβ x hdx];exact c1,c2,fun j e he => ?_⟩
   rw[List.getElem?_map] at he
   cases h0:sc.evs[j]? with
   |none=>rw[h0] at he;cases he
   |some e0 =>
    rw[h0] at he
    injection he with he;subst he
    obtain⟨u,d1,d2,d3⟩:=c3 j e0 h0
    exact⟨u,d1,d2,hre e0 u d3⟩
 ·obtain⟨x,hx,rfl⟩:=back y hy
  obtain⟨x',hx',rfl⟩:=back y' hy'
  rw[hβ x hx] at h1
  rw[hβ x' hx'] at h2
  rw[hr.sto.2 x x' b hx hx' h1 h2]
 ·obtain⟨x,hx,rfl⟩:=back y hy
  refine(hβ x hx).trans ?_
  by_cases h1:x=r
  ·subst h1;rw[renN_eq] at hin;exact absurd hin hrn'
  ·rw[renN_ne h1] at hin hng ⊢;exact hr.par x hx hin hng
 ·obtain⟨x,hx,rfl⟩:=back y hy
  have hb2:β x=some b:=(hβ x hx).symm.trans hb
  by_cases h1:x=r
  ·subst h1
   by_cases hd:dom Γ.sin x
   ·exact hr.new x b hx (.inr (hrn hd)) hb2
   ·exact hr.new x b hx (.inl hd) hb2
  ·rw[renN_ne h1] at hin;exact hr.new x b hx hin hb2
theorem stepTE_sound(hs:∀r,dom Γ.sin r→Γ.n≤r){te:TE}(hr:Rel Γ s a w)(hst:stepTE Γ.n s te=some (s',ob))(hob:Alls ob):Rel Γ s' a w:=by
 obtain⟨β,I,hr⟩:=hr
 cases te with
 |reg _=>cases hst
 |drw _ _ _ _=>cases hst
 |any _ _=>cases hst
 |dec _=>cases hst
 |auto=>cases hst
 |keep ts =>
  injection hst with hst;injection hst with h1 h2
  subst h1
  exact⟨β,I,fun t e he=>hr.env t e (keepEnv_get ts he),hr.sto,hr.par,hr.new,hr.ib,hr.ii,hr.keep,hr.size,hr.defers⟩
 |drop rs =>
  injection hst with hst;injection hst with h1 h2
  subst h1
  exact⟨β,I,RelB.killAll rs hr⟩
 |frzT t xs=>exact stepFrz_sound hs ⟨β,I,hr⟩ hst hob
 |rel t j xs=>exact stepRel_sound hs ⟨β,I,hr⟩ hst hob
 |newheap =>
  simp only[stepTE] at hst
  split at hst
  ·rename_i hn
   injection hst with hst;injection hst with h1 h2
   subst h1
   exact Rel.newheap ⟨β,I,hr⟩ hn
  ·cases hst
 |dropH =>
  simp only[stepTE] at hst
  cases hb:(s.env.all (fun x=>smallB x.2)&&s.sto.all (fun x=>smallSC x.2)) with
  |false=>simp[hb] at hst
  |true =>
   simp only[hb,cond_true] at hst
   rw[Bool.and_eq_true] at hb
   injection hst with hst;injection hst with h1 h2
   subst h1
   exact⟨β,I,hr.killH hb.1 hb.2⟩
 |adoptM t d sz =>
  simp only[stepTE] at hst
  split at hst
  ·rename_i he hd
   cases hb:Nat.blt d Γ.n with
   |false=>simp[hb] at hst
   |true =>
    simp only[hb,cond_true] at hst
    injection hst with hst;injection hst with h1 h2
    subst h1
    exact hr.adoptM hs he hd (Nat.le_of_ble_eq_true hb)
  ·cases hst
 |ord rs =>
  simp only[stepTE] at hst
  cases hb:s.sto.all (fun x=>rs.contains x.1) with
  |false=>rw[hb] at hst;cases hst
  |true =>
   rw[hb] at hst
   injection hst with hst;injection hst with h1 h2
   subst h1
   refine Rel.like (s:=s) ⟨fun _=>rfl,fun r => ?_⟩ ⟨β,I,hr⟩
   show(pickSto s.sto rs).get r=s.sto.get r
   have key:∀r,(pickSto s.sto rs).get0 r=s.sto.get0 r:=fun r=>by
    rw[pickSto_get0]
    split
    ·rfl
    ·rename_i hn
     cases hg:s.sto.get0 r with
     |none=>rfl
     |some sc =>
      rw[List.all_eq_true] at hb
      have:=hb _ (Sto.get0_mem hg)
      exact absurd (by simpa using this) hn
   unfold Sto.get Sto.hp
   rw[key,key]
 |ren r r' =>
  simp only[stepTE] at hst
  split at hst
  ·rename_i hn _
   cases hb:(((Nat.blt r Γ.n||gvB r)&&Nat.blt r 999999)&&Nat.blt r' Γ.n) with
   |false=>rw[hb] at hst;cases hst
   |true =>
    rw[hb] at hst
    injection hst with hst;injection hst with h1 h2
    subst h1
    rw[Bool.and_eq_true,Bool.and_eq_true,Bool.or_eq_true] at hb
    have hb9:=hb.1.2
    replace hb:=And.intro hb.1.1 hb.2
    exact⟨_,I,hr.ren (Nat.le_of_ble_eq_true hb9) (Nat.lt_of_lt_of_le (Nat.le_of_ble_eq_true hb.2) Γ.small) hn (fun h=>hb.1.elim (fun hb=>absurd (hs r h) (Nat.not_le_of_lt (Nat.le_of_ble_eq_true hb))) (fun hb=>Nat.le_of_ble_eq_true hb)) (fun h=>absurd (hs r' h) (Nat.not_le_of_lt (Nat.le_of_ble_eq_true hb.2)))⟩
  ·cases hst
 |cut r k ps' =>
  simp only[stepTE] at hst
  split at hst
  ·rename_i ps hps
   injection hst with hst;injection hst with h1 h2
   subst h1;subst h2
   have hob:ps.take k=ps':=hob
   subst hob
   have hL:∀x,dom s.sto x→dom (Sto.set s.sto r (.pure (ps.take k))) x:=fun x hx=>dom_set.2 hx
   refine⟨β,I,fun t e he=>(hr.env t e he).mono (fun _ _=>rfl) hL (fun _ h=>h) (fun _ _ _=>rfl) (fun _ _ _ _=>rfl),⟨fun x sc hx => ?_,fun x y b hx hy=>hr.sto.2 x y b (dom_set.1 hx) (dom_set.1 hy)⟩,
    fun x hx=>hr.par x (dom_set.1 hx),fun x b hx=>hr.new x b (dom_set.1 hx),hr.ib,hr.ii,hr.keep,hr.size,hr.defers⟩
   have hx:(Sto.set s.sto r (.pure (ps.take k))).get x=some sc:=hx
   rw[Sto.get_set] at hx
   by_cases hxr:x=r∧r<999999
   ·obtain⟨rfl,hr9⟩:=hxr
    rw[if_pos ⟨rfl,hr9⟩,hps] at hx
    simp only[Option.map_some,Option.some.injEq] at hx
    subst hx
    obtain⟨k1,k2⟩:=hr.sto.1 x _ hps
    refine⟨?_,k2⟩
    rcases k1 with ⟨c1,c2⟩|⟨b,arr,el,c1,c2,c3⟩
    ·have c2:ps.map EV.pv=[]:=c2
     exact .inl ⟨c1,by show(ps.take k).map EV.pv=[];rw[List.map_take,c2];simp⟩
    ·refine .inr ⟨b,arr,el,c1,c2,fun i e he => ?_⟩
     have he:((ps.take k).map EV.pv)[i]? = some e:=he
     rw[List.map_take] at he
     have hlt:=(List.getElem?_eq_some_iff.1 he).1
     rw[List.length_take] at hlt
     rw[List.getElem?_take_of_lt (by omega)] at he
     obtain⟨u,d1,d2,d3⟩:=c3 i e he
     exact⟨u,d1,d2,d3.mono (fun _ _=>rfl) hL (fun _ h=>h) (fun _ _ _=>rfl) (fun _ _ _ _=>rfl)⟩
   ·rw[if_neg hxr] at hx
    obtain⟨k1,k2⟩:=hr.sto.1 x sc hx
    exact⟨k1.mono rfl (fun _ _=>rfl) (fun _ _=>rfl) hL (fun _ h=>h) (fun _ _ _=>rfl) (fun _ _ _ _=>rfl),k2⟩
  ·cases hst
 |frzC q j xs =>
  simp only[stepTE] at hst
  split at hst
  ·rename_i cells hq
   split at hst
   ·rename_i r len sz hj
    split at hst
    ·rename_i ps cells' hps hq'
     cases hb:Nat.blt r Γ.n with
     |false=>simp[hb] at hst
     |true =>
      simp only[hb,cond_true] at hst
      have hrn:r<Γ.n:=Nat.le_of_ble_eq_true hb
      injection hst with hst;injection hst with h1 h2
      subst h1;subst h2
      obtain⟨g1,hob⟩:=hob.cons
      obtain⟨g2,g3⟩:=hob.cons
      have hrb:=(hr.sto.1 r _ hps).1
      have hdr:dom s.sto r:=by unfold dom;rw[hps];rfl
      have hns:¬dom Γ.sin r:=fun h=>absurd (hs r h) (Nat.not_le_of_lt hrn)
      have fin:∀I',(∀b,I b→I' b)→(∀b,β r=some b→I' b)→RelB Γ (kill r s) a w β I'→Rel Γ ⟨(kill r s).env,Sto.set (kill r s).sto q (.lit (setAt cells' j (.pv (.list xs))))⟩ a w:=by
       intro I' hI hI' hk
       have hL:∀x,dom (kill r s).sto x→dom (Sto.set (kill r s).sto q (.lit (setAt cells' j (.pv (.list xs))))) x:=fun x hx=>dom_set.2 hx
       refine⟨β,I',fun t e he=>(hk.env t e he).mono (fun _ _=>rfl) hL (fun _ h=>h) (fun _ _ _=>rfl) (fun _ _ _ _=>rfl),⟨fun x sc hx => ?_,fun x y b hx hy=>hk.sto.2 x y b (dom_set.1 hx) (dom_set.1 hy)⟩,
        fun x hx=>hk.par x (dom_set.1 hx),fun x b hx=>hk.new x b (dom_set.1 hx),hk.ib,hk.ii,hk.keep,hk.size,hk.defers⟩
       have hx:(Sto.set (kill r s).sto q (.lit (setAt cells' j (.pv (.list xs))))).get x=some sc:=hx
       rw[Sto.get_set] at hx
       by_cases hxq:x=q∧q<999999
       ·obtain⟨rfl,hq9⟩:=hxq
        rw[if_pos ⟨rfl,hq9⟩,hq'] at hx
        simp only[Option.map_some,Option.some.injEq] at hx
        subst hx
        obtain⟨k1,k2⟩:=hk.sto.1 x _ hq'
        refine⟨?_,k2⟩
        rcases k1 with ⟨c1,c2⟩|⟨b,arr,el,c1,c2,c3⟩
        ·have c2:cells'=[]:=c2
         exact .inl ⟨c1,by subst c2;rfl⟩
        ·refine .inr ⟨b,arr,el,c1,c2,fun i e he => ?_⟩
         have he:(setAt cells' j (.pv (.list xs)))[i]? = some e:=he
         rw[setAt_get] at he
         by_cases hij:i=j
         ·subst hij
          rw[if_pos rfl] at he
          cases hc:cells'[i]? with
          |none=>simp[hc] at he
          |some e' =>
           simp[hc] at he
           subst he
           obtain⟨u,d1,d2,_⟩:=c3 i e' hc
           obtain⟨o1,o2⟩:=hr.sto.1 x _ hq
           obtain⟨arr',el',p1,_,p3⟩:=o1.block c1
           rw[c2] at p1
           injection p1 with p1;injection p1 with p1 _
           subst p1
           obtain⟨u',q1,_,q3⟩:=p3 i _ hj
           have:u'=u:=by rw[d1] at q1;injection q1 with q1;exact q1.symm
           subst this
           exact⟨u',d1,d2,row_list q3 hrb g1 g2 g3 hI hI'⟩
         ·rw[if_neg hij] at he
          obtain⟨u,d1,d2,d3⟩:=c3 i e he
          exact⟨u,d1,d2,d3.mono (fun _ _=>rfl) hL (fun _ h=>h) (fun _ _ _=>rfl) (fun _ _ _ _=>rfl)⟩
       ·rw[if_neg hxq] at hx
        obtain⟨k1,k2⟩:=hk.sto.1 x sc hx
        exact⟨k1.mono rfl (fun _ _=>rfl) (fun _ _=>rfl) hL (fun _ h=>h) (fun _ _ _=>rfl) (fun _ _ _ _=>rfl),k2⟩
      cases hbr:β r with
      |none=>exact fin I (fun _ h=>h) (fun b hb'=>by rw[hbr] at hb';cases hb') (hr.kill r)
      |some b =>
       exact fin _ (fun _ h => .inl h) (fun b' hb'=>by rw[hbr] at hb';injection hb' with hb';exact .inr hb'.symm)
        ((hr.kill r).addI (b:=b) ((hr.sto.1 r _ hps).2 b hbr).1 (hr.new r b hdr (.inl hns) hbr) (fun x hx e=>(dom_kill.1 hx).2 (hr.sto.2 x r b (dom_kill.1 hx).1 hdr e hbr)))
    ·cases hst
   ·cases hst
  ·cases hst
 |adopt t d sz =>
  simp only[stepTE] at hst
  split at hst
  ·rename_i he hd
   cases hb:(Nat.blt d Γ.n&&Nat.blt t Γ.n) with
   |false=>simp[hb] at hst
   |true =>
    simp only[hb,cond_true] at hst
    simp only[Bool.and_eq_true] at hb
    have hdn:d<Γ.n:=Nat.le_of_ble_eq_true hb.1
    injection hst with hst;injection hst with h1 h2
    subst h1
    have hnd:¬dom s.sto d:=by unfold dom;rw[hd];simp
    have hns:¬dom Γ.sin d:=fun h=>absurd (hs d h) (Nat.not_le_of_lt hdn)
    have hv:Rd I w .nilS (a.tmps.getD t undef):=hr.env t _ he
    have hd9:d<999999:=Nat.lt_of_lt_of_le hdn Γ.small
    have h2:=hr.site (d:=d) (sc := .pure []) hd9 hnd hns (β':=fun x=>if x=d then none else β x) (fun x hx=>if_neg hx) (fun b hb'=>by simp at hb') (.inl ⟨by simp,rfl⟩)
    refine⟨_,_,h2.setE ⟨(dom_cons hd9).2 (.inl rfl),.inl ⟨by simp,rfl,?_⟩⟩⟩
    generalize a.tmps.getD t undef=v at hv
    cases hv;rfl
  ·cases hst
 |adoptC q j d sz =>
  simp only[stepTE] at hst
  split at hst
  ·rename_i cells hq hd
   split at hst
   ·rename_i hj
    cases hb:Nat.blt d Γ.n with
    |false=>simp[hb] at hst
    |true =>
     simp only[hb,cond_true] at hst
     have hdn:d<Γ.n:=Nat.le_of_ble_eq_true hb
     injection hst with hst;injection hst with h1 h2
     subst h1
     have hnd:¬dom s.sto d:=by unfold dom;rw[hd];simp
     have hns:¬dom Γ.sin d:=fun h=>absurd (hs d h) (Nat.not_le_of_lt hdn)
     have hd9:d<999999:=Nat.lt_of_lt_of_le hdn Γ.small
     have hk:=hr.site (d:=d) (sc := .pure []) hd9 hnd hns (β':=fun x=>if x=d then none else β x) (fun x hx=>if_neg hx) (fun b hb'=>by simp at hb') (.inl ⟨by simp,rfl⟩)
     have hdq:q≠d:=fun e=>by subst e;rw[hq] at hd;cases hd
     have hL:∀x,dom ((d,SC.pure [])::s.sto) x→dom ((d,SC.pure [])::Sto.set s.sto q (.lit (setAt cells j (.row d 0 0 sz)))) x:=fun x hx=>by
      rcases(dom_cons hd9).1 hx with hx|hx
      ·exact(dom_cons hd9).2 (.inl hx)
      ·exact(dom_cons hd9).2 (.inr (dom_set.2 hx))
     have hL':∀x,dom ((d,SC.pure [])::Sto.set s.sto q (.lit (setAt cells j (.row d 0 0 sz)))) x→dom ((d,SC.pure [])::s.sto) x:=fun x hx=>by
      rcases(dom_cons hd9).1 hx with hx|hx
      ·exact(dom_cons hd9).2 (.inl hx)
      ·exact(dom_cons hd9).2 (.inr (dom_set.1 hx))
     refine⟨_,I,fun t e he=>(hk.env t e he).mono (fun _ _=>rfl) hL (fun _ h=>h) (fun _ _ _=>rfl) (fun _ _ _ _=>rfl),⟨fun x sc hx => ?_,fun x y b hx hy=>hk.sto.2 x y b (hL' x hx) (hL' y hy)⟩,
      fun x hx=>hk.par x (hL' x hx),fun x b hx=>hk.new x b (hL' x hx),hk.ib,hk.ii,hk.keep,hk.size,hk.defers⟩
     by_cases hxq:x=q∧q<999999
     ·obtain⟨rfl,hq9⟩:=hxq
      have hx:Sto.get ((d,SC.pure [])::Sto.set s.sto x (.lit (setAt cells j (.row d 0 0 sz)))) x=some sc:=hx
      rw[Sto.get_cons hd9,beq_ne (Ne.symm hdq),cond_false,Sto.get_set,if_pos ⟨rfl,hq9⟩,hq] at hx
      simp only[Option.map_some,Option.some.injEq] at hx
      subst hx
      obtain⟨k1,k2⟩:=hk.sto.1 x (.lit cells) (by show Sto.get ((d,SC.pure [])::s.sto) x=_;rw[Sto.get_cons hd9,beq_ne (Ne.symm hdq),cond_false];exact hq)
      refine⟨?_,k2⟩
      rcases k1 with ⟨c1,c2⟩|⟨b,arr,el,c1,c2,c3⟩
      ·have c2:cells=[]:=c2
       exact .inl ⟨c1,by subst c2;rfl⟩
      ·refine .inr ⟨b,arr,el,c1,c2,fun i e he => ?_⟩
       have he:(setAt cells j (.row d 0 0 sz))[i]? = some e:=he
       rw[setAt_get] at he
       by_cases hij:i=j
       ·subst hij
        rw[if_pos rfl,hj] at he
        simp only[Option.map_some,Option.some.injEq] at he
        subst he
        obtain⟨u,d1,d2,d3⟩:=c3 i _ hj
        have d3:Rd I w .nilS u:=d3
        refine⟨u,d1,d2,hL _ ((dom_cons hd9).2 (.inl rfl)),.inl ⟨by simp,rfl,?_⟩⟩
        cases d3;rfl
       ·rw[if_neg hij] at he
        obtain⟨u,d1,d2,d3⟩:=c3 i e he
        exact⟨u,d1,d2,d3.mono (fun _ _=>rfl) hL (fun _ h=>h) (fun _ _ _=>rfl) (fun _ _ _ _=>rfl)⟩
     ·have hx2:Sto.get ((d,SC.pure [])::s.sto) x=some sc:=by
       have hx:Sto.get ((d,SC.pure [])::Sto.set s.sto q (.lit (setAt cells j (.row d 0 0 sz)))) x=some sc:=hx
       rw[Sto.get_cons hd9] at hx ⊢
       cases hbx:Nat.beq d x with
       |true=>simpa[hbx] using hx
       |false =>
        simp only[hbx,cond_false] at hx ⊢
        rw[Sto.get_set,if_neg hxq] at hx
        exact hx
      obtain⟨k1,k2⟩:=hk.sto.1 x sc hx2
      exact⟨k1.mono rfl (fun _ _=>rfl) (fun _ _=>rfl) hL (fun _ h=>h) (fun _ _ _=>rfl) (fun _ _ _ _=>rfl),k2⟩
   ·cases hst
  ·cases hst
end
end Go.Proofs.YtboilcfohmmpbaaGreatDoor.Sym
