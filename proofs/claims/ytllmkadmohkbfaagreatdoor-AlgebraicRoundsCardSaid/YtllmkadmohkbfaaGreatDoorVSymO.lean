/- Lemmas for the statements of this seat. -/
import Derived.Test.YtllmkadmohkbfaaGreatDoorVSymN
namespace Go.Proofs.YtllmkadmohkbfaaGreatDoor.Sym
open Go Go.RowKit
inductive TE where
 |aR (hs:List Hint)
 |VY (fl hd:List Nat) (tl:List Nat) (hs:List Hint)
 |any (fl:List Nat) (hs:List Hint)
 |dec (d:Bool)
 |auto
 |aF (ts:List Nat)
 |drop (rs:List Nat)
 |fW (t:Nat) (xs:List (List PV))
 |Q3 (q j:Nat) (xs:List (List PV))
 |kx (t d sz:Nat)
 |HW (q j d sz:Nat)
 |cut (r k:Nat) (ps:List PV)
 |sV (r r':Nat)
 |ord (rs:List Nat)
 |rel (t j:Nat) (xs:List (Option (List PV)))
 |Jd
 |PS
 |LV (t d sz:Nat)
def tX(env:Env):List Nat→Env
 |[]=>[]
 |t::ts=>match env.get t with
  |some e=>(t,e)::tX env ts
  |none=>tX env ts
theorem th{env:Env}{t:Nat}{e:EV} : ∀(ts:List Nat),(tX env ts).get t=some e→env.get t=some e
 |[],h=>by simp[tX,Env.get] at h
 |t'::ts,h=>by
  unfold tX at h
  split at h
  ·rename_i e' hO
   simp only[Env.get] at h
   cases hb:Nat.beq t' t with
   |true =>
    have:t'=t:=Nat.eq_of_beq_eq_true hb
    subst this
    simp only[hb,cond_true] at h
    rw[hO];exact h
   |false =>
    simp only[hb,cond_false] at h
    exact th ts h
  ·exact th ts h
def setAt:List EV→Nat→EV→List EV
 |[],_,_=>[]
 |_::r,0,e=>e::r
 |x::r,n+1,e=>x::setAt r n e
theorem xS:∀(l:List EV) (n:Nat) (e:EV) (j:Nat),(setAt l n e)[j]? = if j=n then (l[j]?).map (fun _=>e) else l[j]?
 |[],n,e,j=>by simp[setAt]
 |x::r,0,e,j=>by
  cases j with
  |zero=>simp[setAt]
  |succ j=>simp[setAt]
 |x::r,n+1,e,j=>by
  cases j with
  |zero=>simp[setAt]
  |succ j=>simp[setAt,xS r n e j]
def oH(r r' x:Nat):Nat:=bif Nat.beq x r then r' else x
def A8(r r':Nat):EV→EV
 |.ptr x o => .ptr (oH r r' x) o
 |.row x o l z => .row (oH r r' x) o l z
 |.pA x o l z ps => .pA (oH r r' x) o l z ps
 |.Cu f x => .Cu f (oH r r' x)
 |e=>e
def yL(r r':Nat):SC→SC
 |.lit cs => .lit (cs.map (A8 r r'))
 |sc=>sc
def xT(r r':Nat):Env→Env
 |[]=>[]
 |(t,e)::env=>(t,A8 r r' e)::xT r r' env
def km(r r':Nat):aS→aS
 |[]=>[]
 |(x,sc)::aG=>(oH r r' x,yL r r' sc)::km r r' aG
def pH(aG:aS):List Nat→aS
 |[]=>[]
 |r::rs=>match aG.eE r with
  |some sc=>(r,sc)::pH aG rs
  |none=>pH aG rs
theorem rK(aG:aS):∀(rs:List Nat) (r:Nat),(pH aG rs).eE r=if r∈rs then aG.eE r else none
 |[],r=>by simp[pH,aS.eE]
 |q::rs,r=>by
  simp only[pH]
  cases hq:aG.eE q with
  |none =>
   simp only[rK aG rs r]
   by_cases h:r=q
   ·subst h;simp[hq]
   ·simp[h]
  |some sc =>
   simp only[aS.eE]
   cases hb:Nat.beq q r with
   |true =>
    have:q=r:=Nat.eq_of_beq_eq_true hb
    subst this
    simp[hq]
   |false =>
    have h:r≠q:=by intro e;subst e;simp at hb
    simp[rK aG rs r,h]
def nR(n:Nat)(s:St):TE→Option (St×List Prop)
 |.aF ts=>some (⟨tX s.env ts,s.aG⟩,[])
 |.drop rs=>some (fC rs s,[])
 |.ord rs=>bif s.aG.all (fun x=>rs.contains x.1) then some (⟨s.env,pH s.aG rs⟩,[]) else none
 |.fW t xs=>z6 n t xs s
 |.sV r r'=>match s.aG.get r',s.aG.get r with
  |none,some _=>bif ((Nat.blt r n||v7 r)&&Nat.blt r 999999)&&Nat.blt r' n then some (⟨xT r r' s.env,km r r' s.aG⟩,[]) else none
  |_,_=>none
 |.cut r k ps'=>match s.aG.get r with
  |some (.pure ps)=>some (⟨s.env,aS.set s.aG r (.pure ps')⟩,[ps.take k=ps'])
  |_=>none
 |.Q3 q j xs=>match s.aG.get q with
  |some (.lit cells)=>match cells[j]? with
   |some (.row r 0 len sz)=>match s.aG.get r,(kill r s).aG.get q with
    |some (.pure ps),some (.lit ti)=>bif Nat.blt r n then
      some (⟨(kill r s).env,aS.set (kill r s).aG q (.lit (setAt ti j (.pv (.list xs))))⟩,[len=xs.length,ps=xs.flatten,∀row∈xs,row.length=sz]) else none
    |_,_=>none
   |_=>none
  |_=>none
 |.kx t d sz=>match s.env.get t,s.aG.get d with
  |some (.pv .dZ),none=>bif Nat.blt d n&&Nat.blt t n then some (⟨(t,.row d 0 0 sz)::s.env,(d,.pure [])::s.aG⟩,[]) else none
  |_,_=>none
 |.HW q j d sz=>match s.aG.get q,s.aG.get d with
  |some (.lit cells),none=>match cells[j]? with
   |some (.pv .dZ)=>bif Nat.blt d n then some (⟨s.env,(d,.pure [])::aS.set s.aG q (.lit (setAt cells j (.row d 0 0 sz)))⟩,[]) else none
   |_=>none
  |_,_=>none
 |_=>none
section
variable {P:Program} {T:kL} {Γ:Ctx} {s s':St} {a:Act} {w:World} {β:Nat→Option Nat} {I:Nat→Prop} {ob:List Prop}
theorem A9(r r':Nat):∀(env:Env) (t:Nat),(xT r r' env).get t=(env.get t).map (A8 r r')
 |[],t=>rfl
 |(t',e)::env,t=>by
  simp only[xT,Env.get]
  cases Nat.beq t' t with
  |true=>rfl
  |false=>exact A9 r r' env t
theorem Ba(n:Nat):Nat.beq n n=true:=Nat.beq_refl n
theorem tY{r r':Nat} : oH r r' r=r':=by unfold oH;rw[Ba];rfl
theorem jU{r r' x:Nat}(h:x≠r):oH r r' x=x:=by unfold oH;rw[ij h];rfl
theorem yM(r r':Nat):∀(aG:aS),aG.eE r'=none→(∀x sc,aG.eE x=some sc→(km r r' aG).eE (oH r r' x)=some (yL r r' sc))∧(∀y sc',(km r r' aG).eE y=some sc'→∃x sc,aG.eE x=some sc∧y=oH r r' x∧sc'=yL r r' sc)
 |[],_=>⟨fun x sc h=>by simp[aS.eE] at h,fun y sc' h=>by simp[km,aS.eE] at h⟩
 |(x0,I9)::aG,hn=>by
  have PT:x0≠r':=fun e=>by subst e;simp[aS.eE] at hn
  have Tp:aS.eE aG r'=none:=by simpa[aS.eE,ij PT] using hn
  obtain⟨ZB,VZ⟩:=yM r r' aG Tp
  have inj:∀x,x≠r'→oH r r' x0=oH r r' x→x0=x:=by
   intro x hx h
   by_cases h1:x0=r
   ·by_cases h2:x=r
    ·rw[h1,h2]
    ·rw[h1,tY,jU h2] at h;exact absurd h.symm hx
   ·by_cases h2:x=r
    ·rw[h2,tY,jU h1] at h;exact absurd h PT
    ·rw[jU h1,jU h2] at h;exact h
  refine⟨fun x sc h => ?_,fun y sc' h => ?_⟩
  ·have CB:x≠r':=fun e=>by subst e;rw[hn] at h;cases h
   simp only[aS.eE] at h
   simp only[km,aS.eE]
   by_cases PU:x0=x
   ·subst PU
    rw[Ba] at h ⊢
    injection h with h;subst h;rfl
   ·rw[ij PU] at h
    rw[ij (fun e=>PU (inj x CB e))]
    exact ZB x sc h
  ·simp only[km,aS.eE] at h
   by_cases hy:oH r r' x0=y
   ·subst hy
    rw[Ba] at h
    injection h with h
    exact⟨x0,I9,by simp[aS.eE],rfl,h.symm⟩
   ·rw[ij hy] at h
    obtain⟨x,sc,h1,h2,h3⟩:=VZ y sc' h
    have PU:x0≠x:=fun e=>by subst e;exact hy h2.symm
    exact⟨x,sc,by simp only[aS.eE];rw[ij PU];exact h1,h2,h3⟩
theorem C9{r r':Nat}(hr:r<999999)(eb:r'<999999):∀(aG:aS),(km r r' aG).eE 999999=(aG.eE 999999).map (yL r r')
 |[]=>rfl
 |(x0,I9)::aG=>by
  simp only[km,aS.eE,C9 hr eb aG]
  by_cases h:x0=r
  ·subst h;rw[tY,ij (by omega),ij (by omega)];rfl
  ·rw[jU h];cases Nat.beq x0 999999<;>rfl
theorem HX(r r':Nat)(hr:r<999999)(eb:r'<999999)(aG:aS)(hn:aG.get r'=none):(∀x sc,aG.get x=some sc→(km r r' aG).get (oH r r' x)=some (yL r r' sc))∧(∀y sc',(km r r' aG).get y=some sc'→∃x sc,aG.get x=some sc∧y=oH r r' x∧sc'=yL r r' sc):=by
 rw[aS.kR eb] at hn
 obtain⟨g1,g2⟩:=yM r r' aG hn
 have Yc:(km r r' aG).hp=aG.hp:=by
  unfold aS.hp
  rw[C9 hr eb aG]
  cases aG.eE 999999 with
  |none=>rfl
  |some sc=>cases sc<;>rfl
 have V2:∀x,x<999999→oH r r' x<999999:=fun x hx=>by
  by_cases h:x=r
  ·subst h;rw[tY];exact eb
  ·rw[jU h];exact hx
 have Q4:∀j,oH r r' (hc j)=hc j:=fun j=>jU (by unfold hc;omega)
 refine⟨fun x sc h => ?_,fun y sc' h => ?_⟩
 ·rcases Fq x with hx|rfl|⟨j,rfl⟩
  ·rw[aS.kR hx] at h
   rw[aS.kR (V2 x hx)]
   exact g1 x sc h
  ·rw[aS.hX] at h;cases h
  ·rw[aS.lN] at h
   rw[Q4,aS.lN,Yc,h]
   unfold rB at h
   split at h
   ·injection h with h;subst h;rfl
   ·cases h
 ·rcases Fq y with hy|rfl|⟨j,rfl⟩
  ·rw[aS.kR hy] at h
   obtain⟨x,sc,h1,h2,h3⟩:=g2 y sc' h
   have hx:x<999999:=by
    by_cases hx:x=r
    ·rw[hx];exact hr
    ·rw[jU hx] at h2;omega
   exact⟨x,sc,by rw[aS.kR hx];exact h1,h2,h3⟩
  ·rw[aS.hX] at h;cases h
  ·rw[aS.lN,Yc] at h
   refine⟨hc j,sc',by rw[aS.lN];exact h,(Q4 j).symm,?_⟩
   unfold rB at h
   split at h
   ·injection h with h;subst h;rfl
   ·cases h
theorem dD.sV{r r':Nat}(LC:r<999999)(V3:r'<999999)(hr:dD Γ s a w β I)(hn:s.aG.get r'=none)(Oy:bS Γ.sin r→gv r)(V4:¬bS Γ.sin r') :
  dD Γ ⟨xT r r' s.env,km r r' s.aG⟩ a w (fun x=>if x=r' then β r else β x) I:=by
 obtain⟨g1,g2⟩:=HX r r' LC V3 s.aG hn
 have hd:∀x,bS s.aG x→bS (km r r' s.aG) (oH r r' x):=fun x hx=>by
  obtain⟨sc,pr⟩:=Option.isSome_iff_exists.1 hx
  unfold bS;rw[g1 x sc pr];rfl
 have hβ:∀x,bS s.aG x→(fun x=>if x=r' then β r else β x) (oH r r' x)=β x:=fun x hx=>by
  by_cases h1:x=r
  ·subst h1;rw[tY];simp
  ·have h2:x≠r':=fun e=>by subst e;unfold bS at hx;rw[hn] at hx;cases hx
   rw[jU h1];simp[h2]
 have PK:∀e v,RE β (bS s.aG) I w e v→RE (fun x=>if x=r' then β r else β x) (bS (km r r' s.aG)) I w (A8 r r' e) v:=by
  intro e v h
  cases e with
  |pv p=>exact h
  |ptr x off=>exact⟨hd x h.1,by rw[hβ x h.1];exact h.2⟩
  |row x off len sz=>exact⟨hd x h.1,by rw[hβ x h.1];exact h.2⟩
  |Cu f x=>exact⟨hd x h.1,by rw[hβ x h.1];exact h.2⟩
  |pA x off len sz ps =>
   obtain⟨us,g1,g2,⟨u,g3,g4,UR⟩,g5⟩:=h
   exact⟨us,g1,g2,⟨u,g3,hd x g4,by rw[hβ x g4];exact UR⟩,g5⟩
  |pz c=>exact h
  |dead=>exact h
  |qM j len sz =>
   have hj:oH r r' (hc j)=hc j:=jU (by unfold hc;omega)
   have h1:=hd (hc j) h.1
   have h2:=hβ (hc j) h.1
   rw[hj] at h1 h2
   exact⟨h1,by rw[h2];exact h.2⟩
  |oA j off =>
   have hj:oH r r' (hc j)=hc j:=jU (by unfold hc;omega)
   have h1:=hd (hc j) h.1
   have h2:=hβ (hc j) h.1
   rw[hj] at h1 h2
   exact⟨h1,by rw[h2];exact h.2⟩
 have pr:∀sc:SC,(yL r r' sc).sE=sc.sE.map (A8 r r'):=fun sc=>by
  cases sc with
  |lit cs=>rfl
  |pure ps=>show ps.map EV.pv=(ps.map EV.pv).map (A8 r r');rw[List.map_map];rfl
  |heap xs=>rfl
  |Hz hs sz=>simp[yL,SC.sE,A8]
 have back:∀y,bS (km r r' s.aG) y→∃x,bS s.aG x∧y=oH r r' x:=fun y hy=>by
  obtain⟨sc',Kv⟩:=Option.isSome_iff_exists.1 hy
  obtain⟨x,sc,h1,h2,_⟩:=g2 y sc' Kv
  exact⟨x,by unfold bS;rw[h1];rfl,h2⟩
 refine⟨fun t e he => ?_,⟨fun y sc' hy => ?_,fun y y' b hy Lg h1 h2 => ?_⟩,fun y hy AL Lf => ?_,fun y b hy AL hb => ?_,hr.ib,hr.ii,hr.aF,hr.size,hr.defers⟩
 ·have he:(xT r r' s.env).get t=some e:=he
  rw[A9] at he
  cases h0:s.env.get t with
  |none=>rw[h0] at he;cases he
  |some e0 =>
   rw[h0] at he
   injection he with he;subst he
   exact PK e0 _ (hr.env t e0 h0)
 ·obtain⟨x,sc,h1,h2,h3⟩:=g2 y sc' hy
  subst h2;subst h3
  have Hk:bS s.aG x:=by unfold bS;rw[h1];rfl
  obtain⟨k1,k2⟩:=hr.aG.1 x sc h1
  refine⟨?_,fun b hb=>k2 b (by rw[←hβ x Hk];exact hb)⟩
  rw[pr]
  rcases k1 with ⟨c1,c2⟩|⟨b,arr,el,c1,c2,c3⟩
  ·exact .inl ⟨by rw[hβ x Hk];exact c1,by rw[c2];rfl⟩
  ·refine .inr ⟨b,arr,el,by rw[hβ x Hk];exact c1,c2,fun j e he => ?_⟩
   rw[List.getElem?_map] at he
   cases h0:sc.sE[j]? with
   |none=>rw[h0] at he;cases he
   |some e0 =>
    rw[h0] at he
    injection he with he;subst he
    obtain⟨u,d1,d2,d3⟩:=c3 j e0 h0
    exact⟨u,d1,d2,PK e0 u d3⟩
 ·obtain⟨x,hx,rfl⟩:=back y hy
  obtain⟨x',D8,rfl⟩:=back y' Lg
  rw[hβ x hx] at h1
  rw[hβ x' D8] at h2
  rw[hr.aG.2 x x' b hx D8 h1 h2]
 ·obtain⟨x,hx,rfl⟩:=back y hy
  refine(hβ x hx).trans ?_
  by_cases h1:x=r
  ·subst h1;rw[tY] at AL;exact absurd AL V4
  ·rw[jU h1] at AL Lf ⊢;exact hr.par x hx AL Lf
 ·obtain⟨x,hx,rfl⟩:=back y hy
  have tU:β x=some b:=(hβ x hx).symm.trans hb
  by_cases h1:x=r
  ·subst h1
   by_cases hd:bS Γ.sin x
   ·exact hr.new x b hx (.inr (Oy hd)) tU
   ·exact hr.new x b hx (.inl hd) tU
  ·rw[jU h1] at AL;exact hr.new x b hx AL tU
theorem D9(hs:∀r,bS Γ.sin r→Γ.n≤r){te:TE}(hr:Rel Γ s a w)(aI:nR Γ.n s te=some (s',ob))(cr:dP ob):Rel Γ s' a w:=by
 obtain⟨β,I,hr⟩:=hr
 cases te with
 |aR _=>cases aI
 |VY _ _ _ _=>cases aI
 |any _ _=>cases aI
 |dec _=>cases aI
 |auto=>cases aI
 |aF ts =>
  injection aI with aI;injection aI with h1 h2
  subst h1
  exact⟨β,I,fun t e he=>hr.env t e (th ts he),hr.aG,hr.par,hr.new,hr.ib,hr.ii,hr.aF,hr.size,hr.defers⟩
 |drop rs =>
  injection aI with aI;injection aI with h1 h2
  subst h1
  exact⟨β,I,dD.fC rs hr⟩
 |fW t xs=>exact uT hs ⟨β,I,hr⟩ aI cr
 |rel t j xs=>simp[nR] at aI
 |Jd=>simp[nR] at aI
 |PS=>simp[nR] at aI
 |LV t d sz=>simp[nR] at aI
 |ord rs =>
  simp only[nR] at aI
  cases hb:s.aG.all (fun x=>rs.contains x.1) with
  |false=>rw[hb] at aI;cases aI
  |true =>
   rw[hb] at aI
   injection aI with aI;injection aI with h1 h2
   subst h1
   refine Rel.Ox (s:=s) ⟨fun _=>rfl,fun r => ?_⟩ ⟨β,I,hr⟩
   show(pH s.aG rs).get r=s.aG.get r
   have key:∀r,(pH s.aG rs).eE r=s.aG.eE r:=fun r=>by
    rw[rK]
    split
    ·rfl
    ·rename_i hn
     cases hg:s.aG.eE r with
     |none=>rfl
     |some sc =>
      rw[List.all_eq_true] at hb
      have:=hb _ (aS.wA hg)
      exact absurd (by simpa using this) hn
   unfold aS.get aS.hp
   rw[key,key]
 |sV r r' =>
  simp only[nR] at aI
  split at aI
  ·rename_i hn _
   cases hb:(((Nat.blt r Γ.n||v7 r)&&Nat.blt r 999999)&&Nat.blt r' Γ.n) with
   |false=>rw[hb] at aI;cases aI
   |true =>
    rw[hb] at aI
    injection aI with aI;injection aI with h1 h2
    subst h1
    rw[Bool.and_eq_true,Bool.and_eq_true,Bool.or_eq_true] at hb
    have ZC:=hb.1.2
    replace hb:=And.intro hb.1.1 hb.2
    exact⟨_,I,hr.sV (Nat.le_of_ble_eq_true ZC) (Nat.lt_of_lt_of_le (Nat.le_of_ble_eq_true hb.2) Γ.small) hn (fun h=>hb.1.elim (fun hb=>absurd (hs r h) (Nat.not_le_of_lt (Nat.le_of_ble_eq_true hb))) (fun hb=>Nat.le_of_ble_eq_true hb)) (fun h=>absurd (hs r' h) (Nat.not_le_of_lt (Nat.le_of_ble_eq_true hb.2)))⟩
  ·cases aI
 |cut r k ps' =>
  simp only[nR] at aI
  split at aI
  ·rename_i ps ov
   injection aI with aI;injection aI with h1 h2
   subst h1;subst h2
   have cr:ps.take k=ps':=cr
   subst cr
   have hL:∀x,bS s.aG x→bS (aS.set s.aG r (.pure (ps.take k))) x:=fun x hx=>gK.2 hx
   refine⟨β,I,fun t e he=>(hr.env t e he).mono (fun _ _=>rfl) hL (fun _ h=>h) (fun _ _ _=>rfl) (fun _ _ _ _=>rfl),⟨fun x sc hx => ?_,fun x y b hx hy=>hr.aG.2 x y b (gK.1 hx) (gK.1 hy)⟩,
    fun x hx=>hr.par x (gK.1 hx),fun x b hx=>hr.new x b (gK.1 hx),hr.ib,hr.ii,hr.aF,hr.size,hr.defers⟩
   have hx:(aS.set s.aG r (.pure (ps.take k))).get x=some sc:=hx
   rw[aS.lP] at hx
   by_cases CB:x=r∧r<999999
   ·obtain⟨rfl,LC⟩:=CB
    rw[if_pos ⟨rfl,LC⟩,ov] at hx
    simp only[Option.map_some,Option.some.injEq] at hx
    subst hx
    obtain⟨k1,k2⟩:=hr.aG.1 x _ ov
    refine⟨?_,k2⟩
    rcases k1 with ⟨c1,c2⟩|⟨b,arr,el,c1,c2,c3⟩
    ·have c2:ps.map EV.pv=[]:=c2
     exact .inl ⟨c1,by show(ps.take k).map EV.pv=[];rw[List.map_take,c2];simp⟩
    ·refine .inr ⟨b,arr,el,c1,c2,fun i e he => ?_⟩
     have he:((ps.take k).map EV.pv)[i]? = some e:=he
     rw[List.map_take] at he
     have ba:=(List.getElem?_eq_some_iff.1 he).1
     rw[List.length_take] at ba
     rw[List.getElem?_take_of_lt (by omega)] at he
     obtain⟨u,d1,d2,d3⟩:=c3 i e he
     exact⟨u,d1,d2,d3.mono (fun _ _=>rfl) hL (fun _ h=>h) (fun _ _ _=>rfl) (fun _ _ _ _=>rfl)⟩
   ·rw[if_neg CB] at hx
    obtain⟨k1,k2⟩:=hr.aG.1 x sc hx
    exact⟨k1.mono rfl (fun _ _=>rfl) (fun _ _=>rfl) hL (fun _ h=>h) (fun _ _ _=>rfl) (fun _ _ _ _=>rfl),k2⟩
  ·cases aI
 |Q3 q j xs =>
  simp only[nR] at aI
  split at aI
  ·rename_i cells hq
   split at aI
   ·rename_i r len sz hj
    split at aI
    ·rename_i ps ti ov tZ
     cases hb:Nat.blt r Γ.n with
     |false=>simp[hb] at aI
     |true =>
      simp only[hb,cond_true] at aI
      have Oy:r<Γ.n:=Nat.le_of_ble_eq_true hb
      injection aI with aI;injection aI with h1 h2
      subst h1;subst h2
      obtain⟨g1,cr⟩:=cr.cons
      obtain⟨g2,g3⟩:=cr.cons
      have I5:=(hr.aG.1 r _ ov).1
      have xG:bS s.aG r:=by unfold bS;rw[ov];rfl
      have FF:¬bS Γ.sin r:=fun h=>absurd (hs r h) (Nat.not_le_of_lt Oy)
      have fin:∀I',(∀b,I b→I' b)→(∀b,β r=some b→I' b)→dD Γ (kill r s) a w β I'→Rel Γ ⟨(kill r s).env,aS.set (kill r s).aG q (.lit (setAt ti j (.pv (.list xs))))⟩ a w:=by
       intro I' hI VO hk
       have hL:∀x,bS (kill r s).aG x→bS (aS.set (kill r s).aG q (.lit (setAt ti j (.pv (.list xs))))) x:=fun x hx=>gK.2 hx
       refine⟨β,I',fun t e he=>(hk.env t e he).mono (fun _ _=>rfl) hL (fun _ h=>h) (fun _ _ _=>rfl) (fun _ _ _ _=>rfl),⟨fun x sc hx => ?_,fun x y b hx hy=>hk.aG.2 x y b (gK.1 hx) (gK.1 hy)⟩,
        fun x hx=>hk.par x (gK.1 hx),fun x b hx=>hk.new x b (gK.1 hx),hk.ib,hk.ii,hk.aF,hk.size,hk.defers⟩
       have hx:(aS.set (kill r s).aG q (.lit (setAt ti j (.pv (.list xs))))).get x=some sc:=hx
       rw[aS.lP] at hx
       by_cases hxq:x=q∧q<999999
       ·obtain⟨rfl,V5⟩:=hxq
        rw[if_pos ⟨rfl,V5⟩,tZ] at hx
        simp only[Option.map_some,Option.some.injEq] at hx
        subst hx
        obtain⟨k1,k2⟩:=hk.aG.1 x _ tZ
        refine⟨?_,k2⟩
        rcases k1 with ⟨c1,c2⟩|⟨b,arr,el,c1,c2,c3⟩
        ·have c2:ti=[]:=c2
         exact .inl ⟨c1,by subst c2;rfl⟩
        ·refine .inr ⟨b,arr,el,c1,c2,fun i e he => ?_⟩
         have he:(setAt ti j (.pv (.list xs)))[i]? = some e:=he
         rw[xS] at he
         by_cases xU:i=j
         ·subst xU
          rw[if_pos rfl] at he
          cases hc:ti[i]? with
          |none=>simp[hc] at he
          |some e' =>
           simp[hc] at he
           subst he
           obtain⟨u,d1,d2,_⟩:=c3 i e' hc
           obtain⟨o1,o2⟩:=hr.aG.1 x _ hq
           obtain⟨sZ,el',p1,_,p3⟩:=o1.block c1
           rw[c2] at p1
           injection p1 with p1;injection p1 with p1 _
           subst p1
           obtain⟨u',q1,_,q3⟩:=p3 i _ hj
           have:u'=u:=by rw[d1] at q1;injection q1 with q1;exact q1.symm
           subst this
           exact⟨u',d1,d2,AX q3 I5 g1 g2 g3 hI VO⟩
         ·rw[if_neg xU] at he
          obtain⟨u,d1,d2,d3⟩:=c3 i e he
          exact⟨u,d1,d2,d3.mono (fun _ _=>rfl) hL (fun _ h=>h) (fun _ _ _=>rfl) (fun _ _ _ _=>rfl)⟩
       ·rw[if_neg hxq] at hx
        obtain⟨k1,k2⟩:=hk.aG.1 x sc hx
        exact⟨k1.mono rfl (fun _ _=>rfl) (fun _ _=>rfl) hL (fun _ h=>h) (fun _ _ _=>rfl) (fun _ _ _ _=>rfl),k2⟩
      cases oe:β r with
      |none=>exact fin I (fun _ h=>h) (fun b fz=>by rw[oe] at fz;cases fz) (hr.kill r)
      |some b =>
       exact fin _ (fun _ h => .inl h) (fun b' fz=>by rw[oe] at fz;injection fz with fz;exact .inr fz.symm)
        ((hr.kill r).Tj (b:=b) ((hr.aG.1 r _ ov).2 b oe).1 (hr.new r b xG (.inl FF) oe) (fun x hx e=>(eR.1 hx).2 (hr.aG.2 x r b (eR.1 hx).1 xG e oe)))
    ·cases aI
   ·cases aI
  ·cases aI
 |kx t d sz =>
  simp only[nR] at aI
  split at aI
  ·rename_i he hd
   cases hb:(Nat.blt d Γ.n&&Nat.blt t Γ.n) with
   |false=>simp[hb] at aI
   |true =>
    simp only[hb,cond_true] at aI
    simp only[Bool.and_eq_true] at hb
    have uR:d<Γ.n:=Nat.le_of_ble_eq_true hb.1
    injection aI with aI;injection aI with h1 h2
    subst h1
    have zZ:¬bS s.aG d:=by unfold bS;rw[hd];simp
    have FF:¬bS Γ.sin d:=fun h=>absurd (hs d h) (Nat.not_le_of_lt uR)
    have hv:Rd I w .dZ (a.tmps.getD t undef):=hr.env t _ he
    have sP:d<999999:=Nat.lt_of_lt_of_le uR Γ.small
    have h2:=hr.site (d:=d) (sc := .pure []) sP zZ FF (β':=fun x=>if x=d then none else β x) (fun x hx=>if_neg hx) (fun b fz=>by simp at fz) (.inl ⟨by simp,rfl⟩)
    refine⟨_,_,h2.Q0 ⟨(dQ sP).2 (.inl rfl),.inl ⟨by simp,rfl,?_⟩⟩⟩
    generalize a.tmps.getD t undef=v at hv
    cases hv;rfl
  ·cases aI
 |HW q j d sz =>
  simp only[nR] at aI
  split at aI
  ·rename_i cells hq hd
   split at aI
   ·rename_i hj
    cases hb:Nat.blt d Γ.n with
    |false=>simp[hb] at aI
    |true =>
     simp only[hb,cond_true] at aI
     have uR:d<Γ.n:=Nat.le_of_ble_eq_true hb
     injection aI with aI;injection aI with h1 h2
     subst h1
     have zZ:¬bS s.aG d:=by unfold bS;rw[hd];simp
     have FF:¬bS Γ.sin d:=fun h=>absurd (hs d h) (Nat.not_le_of_lt uR)
     have sP:d<999999:=Nat.lt_of_lt_of_le uR Γ.small
     have hk:=hr.site (d:=d) (sc := .pure []) sP zZ FF (β':=fun x=>if x=d then none else β x) (fun x hx=>if_neg hx) (fun b fz=>by simp at fz) (.inl ⟨by simp,rfl⟩)
     have Yd:q≠d:=fun e=>by subst e;rw[hq] at hd;cases hd
     have hL:∀x,bS ((d,SC.pure [])::s.aG) x→bS ((d,SC.pure [])::aS.set s.aG q (.lit (setAt cells j (.row d 0 0 sz)))) x:=fun x hx=>by
      rcases(dQ sP).1 hx with hx|hx
      ·exact(dQ sP).2 (.inl hx)
      ·exact(dQ sP).2 (.inr (gK.2 hx))
     have U5:∀x,bS ((d,SC.pure [])::aS.set s.aG q (.lit (setAt cells j (.row d 0 0 sz)))) x→bS ((d,SC.pure [])::s.aG) x:=fun x hx=>by
      rcases(dQ sP).1 hx with hx|hx
      ·exact(dQ sP).2 (.inl hx)
      ·exact(dQ sP).2 (.inr (gK.1 hx))
     refine⟨_,I,fun t e he=>(hk.env t e he).mono (fun _ _=>rfl) hL (fun _ h=>h) (fun _ _ _=>rfl) (fun _ _ _ _=>rfl),⟨fun x sc hx => ?_,fun x y b hx hy=>hk.aG.2 x y b (U5 x hx) (U5 y hy)⟩,
      fun x hx=>hk.par x (U5 x hx),fun x b hx=>hk.new x b (U5 x hx),hk.ib,hk.ii,hk.aF,hk.size,hk.defers⟩
     by_cases hxq:x=q∧q<999999
     ·obtain⟨rfl,V5⟩:=hxq
      have hx:aS.get ((d,SC.pure [])::aS.set s.aG x (.lit (setAt cells j (.row d 0 0 sz)))) x=some sc:=hx
      rw[aS.kv sP,ij (Ne.symm Yd),cond_false,aS.lP,if_pos ⟨rfl,V5⟩,hq] at hx
      simp only[Option.map_some,Option.some.injEq] at hx
      subst hx
      obtain⟨k1,k2⟩:=hk.aG.1 x (.lit cells) (by show aS.get ((d,SC.pure [])::s.aG) x=_;rw[aS.kv sP,ij (Ne.symm Yd),cond_false];exact hq)
      refine⟨?_,k2⟩
      rcases k1 with ⟨c1,c2⟩|⟨b,arr,el,c1,c2,c3⟩
      ·have c2:cells=[]:=c2
       exact .inl ⟨c1,by subst c2;rfl⟩
      ·refine .inr ⟨b,arr,el,c1,c2,fun i e he => ?_⟩
       have he:(setAt cells j (.row d 0 0 sz))[i]? = some e:=he
       rw[xS] at he
       by_cases xU:i=j
       ·subst xU
        rw[if_pos rfl,hj] at he
        simp only[Option.map_some,Option.some.injEq] at he
        subst he
        obtain⟨u,d1,d2,d3⟩:=c3 i _ hj
        have d3:Rd I w .dZ u:=d3
        refine⟨u,d1,d2,hL _ ((dQ sP).2 (.inl rfl)),.inl ⟨by simp,rfl,?_⟩⟩
        cases d3;rfl
       ·rw[if_neg xU] at he
        obtain⟨u,d1,d2,d3⟩:=c3 i e he
        exact⟨u,d1,d2,d3.mono (fun _ _=>rfl) hL (fun _ h=>h) (fun _ _ _=>rfl) (fun _ _ _ _=>rfl)⟩
     ·have LW:aS.get ((d,SC.pure [])::s.aG) x=some sc:=by
       have hx:aS.get ((d,SC.pure [])::aS.set s.aG q (.lit (setAt cells j (.row d 0 0 sz)))) x=some sc:=hx
       rw[aS.kv sP] at hx ⊢
       cases hbx:Nat.beq d x with
       |true=>simpa[hbx] using hx
       |false =>
        simp only[hbx,cond_false] at hx ⊢
        rw[aS.lP,if_neg hxq] at hx
        exact hx
      obtain⟨k1,k2⟩:=hk.aG.1 x sc LW
      exact⟨k1.mono rfl (fun _ _=>rfl) (fun _ _=>rfl) hL (fun _ h=>h) (fun _ _ _=>rfl) (fun _ _ _ _=>rfl),k2⟩
   ·cases aI
  ·cases aI
end
end Go.Proofs.YtllmkadmohkbfaaGreatDoor.Sym
