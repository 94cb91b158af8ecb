/- The comparison of algebraic numbers is a total order that agrees with the comparison with fractions. The law AlgebraicOrder returns true for every input, with the tables of numerals of the Go library that the row lists as they are laid. -/
import Derived.Test.YtllmkadmohkbfaaGreatDoorYSymN
namespace Go.Proofs.YtllmkadmohkbfaaGreatDoor.Sym
open Go Go.RowKit
inductive TE where
 |aV (hs:List Hint)
 |TQ (fl hd:List Nat) (tl:List Nat) (hs:List Hint)
 |any (fl:List Nat) (hs:List Hint)
 |dec (d:Bool)
 |auto
 |aH (ts:List Nat)
 |drop (rs:List Nat)
 |fo (t:Nat) (xs:List (List PV))
 |OZ (q j:Nat) (xs:List (List PV))
 |jM (t d sz:Nat)
 |F9 (q j d sz:Nat)
 |cut (r k:Nat) (ps:List PV)
 |ra (r r':Nat)
 |ord (rs:List Nat)
 |rel (t j:Nat) (xs:List (Option (List PV)))
 |He
 |NW
 |JT (t d sz:Nat)
def sr(env:Env):List Nat→Env
 |[]=>[]
 |t::ts=>match env.get t with
  |some e=>(t,e)::sr env ts
  |none=>sr env ts
theorem ry{env:Env}{t:Nat}{e:EV} : ∀(ts:List Nat),(sr env ts).get t=some e→env.get t=some e
 |[],h=>by simp[sr,Env.get] at h
 |t'::ts,h=>by
  unfold sr at h
  split at h
  ·rename_i e' gn
   simp only[Env.get] at h
   cases hb:Nat.beq t' t with
   |true =>
    have:t'=t:=Nat.eq_of_beq_eq_true hb
    subst this
    simp only[hb,cond_true] at h
    rw[gn];exact h
   |false =>
    simp only[hb,cond_false] at h
    exact ry ts h
  ·exact ry ts h
def setAt:List EV→Nat→EV→List EV
 |[],_,_=>[]
 |_::r,0,e=>e::r
 |x::r,n+1,e=>x::setAt r n e
theorem wk:∀(l:List EV) (n:Nat) (e:EV) (j:Nat),(setAt l n e)[j]? = if j=n then (l[j]?).map (fun _=>e) else l[j]?
 |[],n,e,j=>by simp[setAt]
 |x::r,0,e,j=>by
  cases j with
  |zero=>simp[setAt]
  |succ j=>simp[setAt]
 |x::r,n+1,e,j=>by
  cases j with
  |zero=>simp[setAt]
  |succ j=>simp[setAt,wk r n e j]
def nu(r r' x:Nat):Nat:=bif Nat.beq x r then r' else x
def zm(r r':Nat):EV→EV
 |.ptr x o => .ptr (nu r r' x) o
 |.row x o l z => .row (nu r r' x) o l z
 |.n7 x o l z ps => .n7 (nu r r' x) o l z ps
 |.AT f x => .AT f (nu r r' x)
 |e=>e
def xh(r r':Nat):SC→SC
 |.lit cs => .lit (cs.map (zm r r'))
 |sc=>sc
def wo(r r':Nat):Env→Env
 |[]=>[]
 |(t,e)::env=>(t,zm r r' e)::wo r r' env
def jE(r r':Nat):aS→aS
 |[]=>[]
 |(x,sc)::aG=>(nu r r' x,xh r r' sc)::jE r r' aG
def oe(aG:aS):List Nat→aS
 |[]=>[]
 |r::rs=>match aG.dR r with
  |some sc=>(r,sc)::oe aG rs
  |none=>oe aG rs
theorem qd(aG:aS):∀(rs:List Nat) (r:Nat),(oe aG rs).dR r=if r∈rs then aG.dR r else none
 |[],r=>by simp[oe,aS.dR]
 |q::rs,r=>by
  simp only[oe]
  cases hq:aG.dR q with
  |none =>
   simp only[qd aG rs r]
   by_cases h:r=q
   ·subst h;simp[hq]
   ·simp[h]
  |some sc =>
   simp only[aS.dR]
   cases hb:Nat.beq q r with
   |true =>
    have:q=r:=Nat.eq_of_beq_eq_true hb
    subst this
    simp[hq]
   |false =>
    have h:r≠q:=by intro e;subst e;simp at hb
    simp[qd aG rs r,h]
def mI(n:Nat)(s:St):TE→Option (St×List Prop)
 |.aH ts=>some (⟨sr s.env ts,s.aG⟩,[])
 |.drop rs=>some (eO rs s,[])
 |.ord rs=>bif s.aG.all (fun x=>rs.contains x.1) then some (⟨s.env,oe s.aG rs⟩,[]) else none
 |.fo t xs=>yf n t xs s
 |.ra r r'=>match s.aG.get r',s.aG.get r with
  |none,some _=>bif ((Nat.blt r n||uC r)&&Nat.blt r 999999)&&Nat.blt r' n then some (⟨wo r r' s.env,jE r r' s.aG⟩,[]) else none
  |_,_=>none
 |.cut r k ps'=>match s.aG.get r with
  |some (.pure ps)=>some (⟨s.env,aS.set s.aG r (.pure ps')⟩,[ps.take k=ps'])
  |_=>none
 |.OZ q j xs=>match s.aG.get q with
  |some (.lit cells)=>match cells[j]? with
   |some (.row r 0 len sz)=>match s.aG.get r,(kill r s).aG.get q with
    |some (.pure ps),some (.lit rz)=>bif Nat.blt r n then
      some (⟨(kill r s).env,aS.set (kill r s).aG q (.lit (setAt rz j (.pv (.list xs))))⟩,[len=xs.length,ps=xs.flatten,∀row∈xs,row.length=sz]) else none
    |_,_=>none
   |_=>none
  |_=>none
 |.jM t d sz=>match s.env.get t,s.aG.get d with
  |some (.pv .dF),none=>bif Nat.blt d n&&Nat.blt t n then some (⟨(t,.row d 0 0 sz)::s.env,(d,.pure [])::s.aG⟩,[]) else none
  |_,_=>none
 |.F9 q j d sz=>match s.aG.get q,s.aG.get d with
  |some (.lit cells),none=>match cells[j]? with
   |some (.pv .dF)=>bif Nat.blt d n then some (⟨s.env,(d,.pure [])::aS.set s.aG q (.lit (setAt cells j (.row d 0 0 sz)))⟩,[]) else none
   |_=>none
  |_,_=>none
 |_=>none
section
variable {P:Program} {T:j0} {Γ:Ctx} {s s':St} {a:Act} {w:World} {β:Nat→Option Nat} {I:Nat→Prop} {ob:List Prop}
theorem zn(r r':Nat):∀(env:Env) (t:Nat),(wo r r' env).get t=(env.get t).map (zm r r')
 |[],t=>rfl
 |(t',e)::env,t=>by
  simp only[wo,Env.get]
  cases Nat.beq t' t with
  |true=>rfl
  |false=>exact zn r r' env t
theorem zt(n:Nat):Nat.beq n n=true:=Nat.beq_refl n
theorem ss{r r':Nat} : nu r r' r=r':=by unfold nu;rw[zt];rfl
theorem jg{r r' x:Nat}(h:x≠r):nu r r' x=x:=by unfold nu;rw[gz h];rfl
theorem xi(r r':Nat):∀(aG:aS),aG.dR r'=none→(∀x sc,aG.dR x=some sc→(jE r r' aG).dR (nu r r' x)=some (xh r r' sc))∧(∀y sc',(jE r r' aG).dR y=some sc'→∃x sc,aG.dR x=some sc∧y=nu r r' x∧sc'=xh r r' sc)
 |[],_=>⟨fun x sc h=>by simp[aS.dR] at h,fun y sc' h=>by simp[jE,aS.dR] at h⟩
 |(x0,Hb)::aG,hn=>by
  have NX:x0≠r':=fun e=>by subst e;simp[aS.dR] at hn
  have Rk:aS.dR aG r'=none:=by simpa[aS.dR,gz NX] using hn
  obtain⟨Xq,TR⟩:=xi r r' aG Rk
  have inj:∀x,x≠r'→nu r r' x0=nu r r' x→x0=x:=by
   intro x hx h
   by_cases h1:x0=r
   ·by_cases h2:x=r
    ·rw[h1,h2]
    ·rw[h1,ss,jg h2] at h;exact absurd h.symm hx
   ·by_cases h2:x=r
    ·rw[h2,ss,jg h1] at h;exact absurd h NX
    ·rw[jg h1,jg h2] at h;exact h
  refine⟨fun x sc h => ?_,fun y sc' h => ?_⟩
  ·have A2:x≠r':=fun e=>by subst e;rw[hn] at h;cases h
   simp only[aS.dR] at h
   simp only[jE,aS.dR]
   by_cases NY:x0=x
   ·subst NY
    rw[zt] at h ⊢
    injection h with h;subst h;rfl
   ·rw[gz NY] at h
    rw[gz (fun e=>NY (inj x A2 e))]
    exact Xq x sc h
  ·simp only[jE,aS.dR] at h
   by_cases hy:nu r r' x0=y
   ·subst hy
    rw[zt] at h
    injection h with h
    exact⟨x0,Hb,by simp[aS.dR],rfl,h.symm⟩
   ·rw[gz hy] at h
    obtain⟨x,sc,h1,h2,h3⟩:=TR y sc' h
    have NY:x0≠x:=fun e=>by subst e;exact hy h2.symm
    exact⟨x,sc,by simp only[aS.dR];rw[gz NY];exact h1,h2,h3⟩
theorem BB{r r':Nat}(hr:r<999999)(dG:r'<999999):∀(aG:aS),(jE r r' aG).dR 999999=(aG.dR 999999).map (xh r r')
 |[]=>rfl
 |(x0,Hb)::aG=>by
  simp only[jE,aS.dR,BB hr dG aG]
  by_cases h:x0=r
  ·subst h;rw[ss,gz (by omega),gz (by omega)];rfl
  ·rw[jg h];cases Nat.beq x0 999999<;>rfl
theorem Ga(r r':Nat)(hr:r<999999)(dG:r'<999999)(aG:aS)(hn:aG.get r'=none):(∀x sc,aG.get x=some sc→(jE r r' aG).get (nu r r' x)=some (xh r r' sc))∧(∀y sc',(jE r r' aG).get y=some sc'→∃x sc,aG.get x=some sc∧y=nu r r' x∧sc'=xh r r' sc):=by
 rw[aS.ke dG] at hn
 obtain⟨g1,g2⟩:=xi r r' aG hn
 have VZ:(jE r r' aG).hp=aG.hp:=by
  unfold aS.hp
  rw[BB hr dG aG]
  cases aG.dR 999999 with
  |none=>rfl
  |some sc=>cases sc<;>rfl
 have TS:∀x,x<999999→nu r r' x<999999:=fun x hx=>by
  by_cases h:x=r
  ·subst h;rw[ss];exact dG
  ·rw[jg h];exact hx
 have O0:∀j,nu r r' (hc j)=hc j:=fun j=>jg (by unfold hc;omega)
 refine⟨fun x sc h => ?_,fun y sc' h => ?_⟩
 ·rcases DT x with hx|rfl|⟨j,rfl⟩
  ·rw[aS.ke hx] at h
   rw[aS.ke (TS x hx)]
   exact g1 x sc h
  ·rw[aS.gr] at h;cases h
  ·rw[aS.kK] at h
   rw[O0,aS.kK,VZ,h]
   unfold pV at h
   split at h
   ·injection h with h;subst h;rfl
   ·cases h
 ·rcases DT y with hy|rfl|⟨j,rfl⟩
  ·rw[aS.ke hy] at h
   obtain⟨x,sc,h1,h2,h3⟩:=g2 y sc' h
   have hx:x<999999:=by
    by_cases hx:x=r
    ·rw[hx];exact hr
    ·rw[jg hx] at h2;omega
   exact⟨x,sc,by rw[aS.ke hx];exact h1,h2,h3⟩
  ·rw[aS.gr] at h;cases h
  ·rw[aS.kK,VZ] at h
   refine⟨hc j,sc',by rw[aS.kK];exact h,(O0 j).symm,?_⟩
   unfold pV at h
   split at h
   ·injection h with h;subst h;rfl
   ·cases h
theorem dh.ra{r r':Nat}(JC:r<999999)(TT:r'<999999)(hr:dh Γ s a w β I)(hn:s.aG.get r'=none)(My:bM Γ.sin r→gv r)(TU:¬bM Γ.sin r') :
  dh Γ ⟨wo r r' s.env,jE r r' s.aG⟩ a w (fun x=>if x=r' then β r else β x) I:=by
 obtain⟨g1,g2⟩:=Ga r r' JC TT s.aG hn
 have hd:∀x,bM s.aG x→bM (jE r r' s.aG) (nu r r' x):=fun x hx=>by
  obtain⟨sc,nY⟩:=Option.isSome_iff_exists.1 hx
  unfold bM;rw[g1 x sc nY];rfl
 have hβ:∀x,bM s.aG x→(fun x=>if x=r' then β r else β x) (nu r r' x)=β x:=fun x hx=>by
  by_cases h1:x=r
  ·subst h1;rw[ss];simp
  ·have h2:x≠r':=fun e=>by subst e;unfold bM at hx;rw[hn] at hx;cases hx
   rw[jg h1];simp[h2]
 have NQ:∀e v,RE β (bM s.aG) I w e v→RE (fun x=>if x=r' then β r else β x) (bM (jE r r' s.aG)) I w (zm r r' e) v:=by
  intro e v h
  cases e with
  |pv p=>exact h
  |ptr x off=>exact⟨hd x h.1,by rw[hβ x h.1];exact h.2⟩
  |row x off len sz=>exact⟨hd x h.1,by rw[hβ x h.1];exact h.2⟩
  |AT f x=>exact⟨hd x h.1,by rw[hβ x h.1];exact h.2⟩
  |n7 x off len sz ps =>
   obtain⟨us,g1,g2,⟨u,g3,g4,SL⟩,g5⟩:=h
   exact⟨us,g1,g2,⟨u,g3,hd x g4,by rw[hβ x g4];exact SL⟩,g5⟩
  |n6 c=>exact h
  |dead=>exact h
  |pg j len sz =>
   have hj:nu r r' (hc j)=hc j:=jg (by unfold hc;omega)
   have h1:=hd (hc j) h.1
   have h2:=hβ (hc j) h.1
   rw[hj] at h1 h2
   exact⟨h1,by rw[h2];exact h.2⟩
  |nj j off =>
   have hj:nu r r' (hc j)=hc j:=jg (by unfold hc;omega)
   have h1:=hd (hc j) h.1
   have h2:=hβ (hc j) h.1
   rw[hj] at h1 h2
   exact⟨h1,by rw[h2];exact h.2⟩
 have nY:∀sc:SC,(xh r r' sc).qR=sc.qR.map (zm r r'):=fun sc=>by
  cases sc with
  |lit cs=>rfl
  |pure ps=>show ps.map EV.pv=(ps.map EV.pv).map (zm r r');rw[List.map_map];rfl
  |heap xs=>rfl
  |FL hs sz=>simp[xh,SC.qR,zm]
 have back:∀y,bM (jE r r' s.aG) y→∃x,bM s.aG x∧y=nu r r' x:=fun y hy=>by
  obtain⟨sc',Iy⟩:=Option.isSome_iff_exists.1 hy
  obtain⟨x,sc,h1,h2,_⟩:=g2 y sc' Iy
  exact⟨x,by unfold bM;rw[h1];rfl,h2⟩
 refine⟨fun t e he => ?_,⟨fun y sc' hy => ?_,fun y y' b hy Je h1 h2 => ?_⟩,fun y hy yO Jd => ?_,fun y b hy yO hb => ?_,hr.ib,hr.ii,hr.aH,hr.size,hr.defers⟩
 ·have he:(wo r r' s.env).get t=some e:=he
  rw[zn] at he
  cases h0:s.env.get t with
  |none=>rw[h0] at he;cases he
  |some e0 =>
   rw[h0] at he
   injection he with he;subst he
   exact NQ e0 _ (hr.env t e0 h0)
 ·obtain⟨x,sc,h1,h2,h3⟩:=g2 y sc' hy
  subst h2;subst h3
  have Fu:bM s.aG x:=by unfold bM;rw[h1];rfl
  obtain⟨k1,k2⟩:=hr.aG.1 x sc h1
  refine⟨?_,fun b hb=>k2 b (by rw[←hβ x Fu];exact hb)⟩
  rw[nY]
  rcases k1 with ⟨c1,c2⟩|⟨b,arr,el,c1,c2,c3⟩
  ·exact .inl ⟨by rw[hβ x Fu];exact c1,by rw[c2];rfl⟩
  ·refine .inr ⟨b,arr,el,by rw[hβ x Fu];exact c1,c2,fun j e he => ?_⟩
   rw[List.getElem?_map] at he
   cases h0:sc.qR[j]? with
   |none=>rw[h0] at he;cases he
   |some e0 =>
    rw[h0] at he
    injection he with he;subst he
    obtain⟨u,d1,d2,d3⟩:=c3 j e0 h0
    exact⟨u,d1,d2,NQ e0 u d3⟩
 ·obtain⟨x,hx,rfl⟩:=back y hy
  obtain⟨x',CB,rfl⟩:=back y' Je
  rw[hβ x hx] at h1
  rw[hβ x' CB] at h2
  rw[hr.aG.2 x x' b hx CB h1 h2]
 ·obtain⟨x,hx,rfl⟩:=back y hy
  refine(hβ x hx).trans ?_
  by_cases h1:x=r
  ·subst h1;rw[ss] at yO;exact absurd yO TU
  ·rw[jg h1] at yO Jd ⊢;exact hr.par x hx yO Jd
 ·obtain⟨x,hx,rfl⟩:=back y hy
  have sk:β x=some b:=(hβ x hx).symm.trans hb
  by_cases h1:x=r
  ·subst h1
   by_cases hd:bM Γ.sin x
   ·exact hr.new x b hx (.inr (My hd)) sk
   ·exact hr.new x b hx (.inl hd) sk
  ·rw[jg h1] at yO;exact hr.new x b hx yO sk
theorem CC(hs:∀r,bM Γ.sin r→Γ.n≤r){te:TE}(hr:Rel Γ s a w)(aI:mI Γ.n s te=some (s',ob))(cb:dA ob):Rel Γ s' a w:=by
 obtain⟨β,I,hr⟩:=hr
 cases te with
 |aV _=>cases aI
 |TQ _ _ _ _=>cases aI
 |any _ _=>cases aI
 |dec _=>cases aI
 |auto=>cases aI
 |aH ts =>
  injection aI with aI;injection aI with h1 h2
  subst h1
  exact⟨β,I,fun t e he=>hr.env t e (ry ts he),hr.aG,hr.par,hr.new,hr.ib,hr.ii,hr.aH,hr.size,hr.defers⟩
 |drop rs =>
  injection aI with aI;injection aI with h1 h2
  subst h1
  exact⟨β,I,dh.eO rs hr⟩
 |fo t xs=>exact tm hs ⟨β,I,hr⟩ aI cb
 |rel t j xs=>simp[mI] at aI
 |He=>simp[mI] at aI
 |NW=>simp[mI] at aI
 |JT t d sz=>simp[mI] at aI
 |ord rs =>
  simp only[mI] at aI
  cases hb:s.aG.all (fun x=>rs.contains x.1) with
  |false=>rw[hb] at aI;cases aI
  |true =>
   rw[hb] at aI
   injection aI with aI;injection aI with h1 h2
   subst h1
   refine Rel.Mx (s:=s) ⟨fun _=>rfl,fun r => ?_⟩ ⟨β,I,hr⟩
   show(oe s.aG rs).get r=s.aG.get r
   have key:∀r,(oe s.aG rs).dR r=s.aG.dR r:=fun r=>by
    rw[qd]
    split
    ·rfl
    ·rename_i hn
     cases hg:s.aG.dR r with
     |none=>rfl
     |some sc =>
      rw[List.all_eq_true] at hb
      have:=hb _ (aS.uR hg)
      exact absurd (by simpa using this) hn
   unfold aS.get aS.hp
   rw[key,key]
 |ra r r' =>
  simp only[mI] at aI
  split at aI
  ·rename_i hn _
   cases hb:(((Nat.blt r Γ.n||uC r)&&Nat.blt r 999999)&&Nat.blt r' Γ.n) with
   |false=>rw[hb] at aI;cases aI
   |true =>
    rw[hb] at aI
    injection aI with aI;injection aI with h1 h2
    subst h1
    rw[Bool.and_eq_true,Bool.and_eq_true,Bool.or_eq_true] at hb
    have Xr:=hb.1.2
    replace hb:=And.intro hb.1.1 hb.2
    exact⟨_,I,hr.ra (Nat.le_of_ble_eq_true Xr) (Nat.lt_of_lt_of_le (Nat.le_of_ble_eq_true hb.2) Γ.small) hn (fun h=>hb.1.elim (fun hb=>absurd (hs r h) (Nat.not_le_of_lt (Nat.le_of_ble_eq_true hb))) (fun hb=>Nat.le_of_ble_eq_true hb)) (fun h=>absurd (hs r' h) (Nat.not_le_of_lt (Nat.le_of_ble_eq_true hb.2)))⟩
  ·cases aI
 |cut r k ps' =>
  simp only[mI] at aI
  split at aI
  ·rename_i ps na
   injection aI with aI;injection aI with h1 h2
   subst h1;subst h2
   have cb:ps.take k=ps':=cb
   subst cb
   have hL:∀x,bM s.aG x→bM (aS.set s.aG r (.pure (ps.take k))) x:=fun x hx=>fT.2 hx
   refine⟨β,I,fun t e he=>(hr.env t e he).mono (fun _ _=>rfl) hL (fun _ h=>h) (fun _ _ _=>rfl) (fun _ _ _ _=>rfl),⟨fun x sc hx => ?_,fun x y b hx hy=>hr.aG.2 x y b (fT.1 hx) (fT.1 hy)⟩,
    fun x hx=>hr.par x (fT.1 hx),fun x b hx=>hr.new x b (fT.1 hx),hr.ib,hr.ii,hr.aH,hr.size,hr.defers⟩
   have hx:(aS.set s.aG r (.pure (ps.take k))).get x=some sc:=hx
   rw[aS.kM] at hx
   by_cases A2:x=r∧r<999999
   ·obtain⟨rfl,JC⟩:=A2
    rw[if_pos ⟨rfl,JC⟩,na] at hx
    simp only[Option.map_some,Option.some.injEq] at hx
    subst hx
    obtain⟨k1,k2⟩:=hr.aG.1 x _ na
    refine⟨?_,k2⟩
    rcases k1 with ⟨c1,c2⟩|⟨b,arr,el,c1,c2,c3⟩
    ·have c2:ps.map EV.pv=[]:=c2
     exact .inl ⟨c1,by show(ps.take k).map EV.pv=[];rw[List.map_take,c2];simp⟩
    ·refine .inr ⟨b,arr,el,c1,c2,fun i e he => ?_⟩
     have he:((ps.take k).map EV.pv)[i]? = some e:=he
     rw[List.map_take] at he
     have bh:=(List.getElem?_eq_some_iff.1 he).1
     rw[List.length_take] at bh
     rw[List.getElem?_take_of_lt (by omega)] at he
     obtain⟨u,d1,d2,d3⟩:=c3 i e he
     exact⟨u,d1,d2,d3.mono (fun _ _=>rfl) hL (fun _ h=>h) (fun _ _ _=>rfl) (fun _ _ _ _=>rfl)⟩
   ·rw[if_neg A2] at hx
    obtain⟨k1,k2⟩:=hr.aG.1 x sc hx
    exact⟨k1.mono rfl (fun _ _=>rfl) (fun _ _=>rfl) hL (fun _ h=>h) (fun _ _ _=>rfl) (fun _ _ _ _=>rfl),k2⟩
  ·cases aI
 |OZ q j xs =>
  simp only[mI] at aI
  split at aI
  ·rename_i cells hq
   split at aI
   ·rename_i r len sz hj
    split at aI
    ·rename_i ps rz na su
     cases hb:Nat.blt r Γ.n with
     |false=>simp[hb] at aI
     |true =>
      simp only[hb,cond_true] at aI
      have My:r<Γ.n:=Nat.le_of_ble_eq_true hb
      injection aI with aI;injection aI with h1 h2
      subst h1;subst h2
      obtain⟨g1,cb⟩:=cb.cons
      obtain⟨g2,g3⟩:=cb.cons
      have G7:=(hr.aG.1 r _ na).1
      have vY:bM s.aG r:=by unfold bM;rw[na];rfl
      have D6:¬bM Γ.sin r:=fun h=>absurd (hs r h) (Nat.not_le_of_lt My)
      have fin:∀I',(∀b,I b→I' b)→(∀b,β r=some b→I' b)→dh Γ (kill r s) a w β I'→Rel Γ ⟨(kill r s).env,aS.set (kill r s).aG q (.lit (setAt rz j (.pv (.list xs))))⟩ a w:=by
       intro I' hI TF hk
       have hL:∀x,bM (kill r s).aG x→bM (aS.set (kill r s).aG q (.lit (setAt rz j (.pv (.list xs))))) x:=fun x hx=>fT.2 hx
       refine⟨β,I',fun t e he=>(hk.env t e he).mono (fun _ _=>rfl) hL (fun _ h=>h) (fun _ _ _=>rfl) (fun _ _ _ _=>rfl),⟨fun x sc hx => ?_,fun x y b hx hy=>hk.aG.2 x y b (fT.1 hx) (fT.1 hy)⟩,
        fun x hx=>hk.par x (fT.1 hx),fun x b hx=>hk.new x b (fT.1 hx),hk.ib,hk.ii,hk.aH,hk.size,hk.defers⟩
       have hx:(aS.set (kill r s).aG q (.lit (setAt rz j (.pv (.list xs))))).get x=some sc:=hx
       rw[aS.kM] at hx
       by_cases hxq:x=q∧q<999999
       ·obtain⟨rfl,TV⟩:=hxq
        rw[if_pos ⟨rfl,TV⟩,su] at hx
        simp only[Option.map_some,Option.some.injEq] at hx
        subst hx
        obtain⟨k1,k2⟩:=hk.aG.1 x _ su
        refine⟨?_,k2⟩
        rcases k1 with ⟨c1,c2⟩|⟨b,arr,el,c1,c2,c3⟩
        ·have c2:rz=[]:=c2
         exact .inl ⟨c1,by subst c2;rfl⟩
        ·refine .inr ⟨b,arr,el,c1,c2,fun i e he => ?_⟩
         have he:(setAt rz j (.pv (.list xs)))[i]? = some e:=he
         rw[wk] at he
         by_cases wq:i=j
         ·subst wq
          rw[if_pos rfl] at he
          cases hc:rz[i]? with
          |none=>simp[hc] at he
          |some e' =>
           simp[hc] at he
           subst he
           obtain⟨u,d1,d2,_⟩:=c3 i e' hc
           obtain⟨o1,o2⟩:=hr.aG.1 x _ hq
           obtain⟨ri,YM,p1,_,p3⟩:=o1.block c1
           rw[c2] at p1
           injection p1 with p1;injection p1 with p1 _
           subst p1
           obtain⟨u',q1,_,q3⟩:=p3 i _ hj
           have:u'=u:=by rw[d1] at q1;injection q1 with q1;exact q1.symm
           subst this
           exact⟨u',d1,d2,y0 q3 G7 g1 g2 g3 hI TF⟩
         ·rw[if_neg wq] at he
          obtain⟨u,d1,d2,d3⟩:=c3 i e he
          exact⟨u,d1,d2,d3.mono (fun _ _=>rfl) hL (fun _ h=>h) (fun _ _ _=>rfl) (fun _ _ _ _=>rfl)⟩
       ·rw[if_neg hxq] at hx
        obtain⟨k1,k2⟩:=hk.aG.1 x sc hx
        exact⟨k1.mono rfl (fun _ _=>rfl) (fun _ _=>rfl) hL (fun _ h=>h) (fun _ _ _=>rfl) (fun _ _ _ _=>rfl),k2⟩
      cases mS:β r with
      |none=>exact fin I (fun _ h=>h) (fun b eN=>by rw[mS] at eN;cases eN) (hr.kill r)
      |some b =>
       exact fin _ (fun _ h => .inl h) (fun b' eN=>by rw[mS] at eN;injection eN with eN;exact .inr eN.symm)
        ((hr.kill r).Re (b:=b) ((hr.aG.1 r _ na).2 b mS).1 (hr.new r b vY (.inl D6) mS) (fun x hx e=>(ei.1 hx).2 (hr.aG.2 x r b (ei.1 hx).1 vY e mS)))
    ·cases aI
   ·cases aI
  ·cases aI
 |jM t d sz =>
  simp only[mI] at aI
  split at aI
  ·rename_i he hd
   cases hb:(Nat.blt d Γ.n&&Nat.blt t Γ.n) with
   |false=>simp[hb] at aI
   |true =>
    simp only[hb,cond_true] at aI
    simp only[Bool.and_eq_true] at hb
    have ti:d<Γ.n:=Nat.le_of_ble_eq_true hb.1
    injection aI with aI;injection aI with h1 h2
    subst h1
    have ye:¬bM s.aG d:=by unfold bM;rw[hd];simp
    have D6:¬bM Γ.sin d:=fun h=>absurd (hs d h) (Nat.not_le_of_lt ti)
    have hv:Rd I w .dF (a.tmps.getD t undef):=hr.env t _ he
    have q7:d<999999:=Nat.lt_of_lt_of_le ti Γ.small
    have h2:=hr.site (d:=d) (sc := .pure []) q7 ye D6 (β':=fun x=>if x=d then none else β x) (fun x hx=>if_neg hx) (fun b eN=>by simp at eN) (.inl ⟨by simp,rfl⟩)
    refine⟨_,_,h2.OW ⟨(dB q7).2 (.inl rfl),.inl ⟨by simp,rfl,?_⟩⟩⟩
    generalize a.tmps.getD t undef=v at hv
    cases hv;rfl
  ·cases aI
 |F9 q j d sz =>
  simp only[mI] at aI
  split at aI
  ·rename_i cells hq hd
   split at aI
   ·rename_i hj
    cases hb:Nat.blt d Γ.n with
    |false=>simp[hb] at aI
    |true =>
     simp only[hb,cond_true] at aI
     have ti:d<Γ.n:=Nat.le_of_ble_eq_true hb
     injection aI with aI;injection aI with h1 h2
     subst h1
     have ye:¬bM s.aG d:=by unfold bM;rw[hd];simp
     have D6:¬bM Γ.sin d:=fun h=>absurd (hs d h) (Nat.not_le_of_lt ti)
     have q7:d<999999:=Nat.lt_of_lt_of_le ti Γ.small
     have hk:=hr.site (d:=d) (sc := .pure []) q7 ye D6 (β':=fun x=>if x=d then none else β x) (fun x hx=>if_neg hx) (fun b eN=>by simp at eN) (.inl ⟨by simp,rfl⟩)
     have V2:q≠d:=fun e=>by subst e;rw[hq] at hd;cases hd
     have hL:∀x,bM ((d,SC.pure [])::s.aG) x→bM ((d,SC.pure [])::aS.set s.aG q (.lit (setAt cells j (.row d 0 0 sz)))) x:=fun x hx=>by
      rcases(dB q7).1 hx with hx|hx
      ·exact(dB q7).2 (.inl hx)
      ·exact(dB q7).2 (.inr (fT.2 hx))
     have SW:∀x,bM ((d,SC.pure [])::aS.set s.aG q (.lit (setAt cells j (.row d 0 0 sz)))) x→bM ((d,SC.pure [])::s.aG) x:=fun x hx=>by
      rcases(dB q7).1 hx with hx|hx
      ·exact(dB q7).2 (.inl hx)
      ·exact(dB q7).2 (.inr (fT.1 hx))
     refine⟨_,I,fun t e he=>(hk.env t e he).mono (fun _ _=>rfl) hL (fun _ h=>h) (fun _ _ _=>rfl) (fun _ _ _ _=>rfl),⟨fun x sc hx => ?_,fun x y b hx hy=>hk.aG.2 x y b (SW x hx) (SW y hy)⟩,
      fun x hx=>hk.par x (SW x hx),fun x b hx=>hk.new x b (SW x hx),hk.ib,hk.ii,hk.aH,hk.size,hk.defers⟩
     by_cases hxq:x=q∧q<999999
     ·obtain⟨rfl,TV⟩:=hxq
      have hx:aS.get ((d,SC.pure [])::aS.set s.aG x (.lit (setAt cells j (.row d 0 0 sz)))) x=some sc:=hx
      rw[aS.jL q7,gz (Ne.symm V2),cond_false,aS.kM,if_pos ⟨rfl,TV⟩,hq] at hx
      simp only[Option.map_some,Option.some.injEq] at hx
      subst hx
      obtain⟨k1,k2⟩:=hk.aG.1 x (.lit cells) (by show aS.get ((d,SC.pure [])::s.aG) x=_;rw[aS.jL q7,gz (Ne.symm V2),cond_false];exact hq)
      refine⟨?_,k2⟩
      rcases k1 with ⟨c1,c2⟩|⟨b,arr,el,c1,c2,c3⟩
      ·have c2:cells=[]:=c2
       exact .inl ⟨c1,by subst c2;rfl⟩
      ·refine .inr ⟨b,arr,el,c1,c2,fun i e he => ?_⟩
       have he:(setAt cells j (.row d 0 0 sz))[i]? = some e:=he
       rw[wk] at he
       by_cases wq:i=j
       ·subst wq
        rw[if_pos rfl,hj] at he
        simp only[Option.map_some,Option.some.injEq] at he
        subst he
        obtain⟨u,d1,d2,d3⟩:=c3 i _ hj
        have d3:Rd I w .dF u:=d3
        refine⟨u,d1,d2,hL _ ((dB q7).2 (.inl rfl)),.inl ⟨by simp,rfl,?_⟩⟩
        cases d3;rfl
       ·rw[if_neg wq] at he
        obtain⟨u,d1,d2,d3⟩:=c3 i e he
        exact⟨u,d1,d2,d3.mono (fun _ _=>rfl) hL (fun _ h=>h) (fun _ _ _=>rfl) (fun _ _ _ _=>rfl)⟩
     ·have JU:aS.get ((d,SC.pure [])::s.aG) x=some sc:=by
       have hx:aS.get ((d,SC.pure [])::aS.set s.aG q (.lit (setAt cells j (.row d 0 0 sz)))) x=some sc:=hx
       rw[aS.jL q7] at hx ⊢
       cases hbx:Nat.beq d x with
       |true=>simpa[hbx] using hx
       |false =>
        simp only[hbx,cond_false] at hx ⊢
        rw[aS.kM,if_neg hxq] at hx
        exact hx
      obtain⟨k1,k2⟩:=hk.aG.1 x sc JU
      exact⟨k1.mono rfl (fun _ _=>rfl) (fun _ _=>rfl) hL (fun _ h=>h) (fun _ _ _=>rfl) (fun _ _ _ _=>rfl),k2⟩
   ·cases aI
  ·cases aI
end
end Go.Proofs.YtllmkadmohkbfaaGreatDoor.Sym
