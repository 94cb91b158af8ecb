/- Lemmas for the statements of this seat. -/
import Derived.Test.YtnjhplhbmapclaaGreatDoorWSymN
namespace Go.Proofs.YtnjhplhbmapclaaGreatDoor.Sym
open Go Go.RowKit
inductive TE where
 |aI (hs:List Hint)
 |KV (fl hd:List Nat) (tl:List Nat) (hs:List Hint)
 |any (fl:List Nat) (hs:List Hint)
 |dec (d:Bool)
 |auto
 |aB (ts:List Nat)
 |drop (rs:List Nat)
 |eQ (t:Nat) (xs:List (List PV))
 |G4 (q j:Nat) (xs:List (List PV))
 |mY (t d sz:Nat)
 |zk (q j d sz:Nat)
 |cut (r k:Nat) (ps:List PV)
 |uR (r r':Nat)
 |ord (rs:List Nat)
 |rel (t j:Nat) (xs:List (Option (List PV)))
 |AD
 |F4
 |CY (t d sz:Nat)
def nF(env:Env):List Nat→Env
 |[]=>[]
 |t::ts=>match env.get t with
  |some e=>(t,e)::nF env ts
  |none=>nF env ts
theorem mZ{env:Env}{t:Nat}{e:EV} : ∀(ts:List Nat),(nF env ts).get t=some e→env.get t=some e
 |[],h=>by simp[nF,Env.get] at h
 |t'::ts,h=>by
  unfold nF at h
  split at h
  ·rename_i e' dN
   simp only[Env.get] at h
   cases hb:Nat.beq t' t with
   |true =>
    have:t'=t:=Nat.eq_of_beq_eq_true hb
    subst this
    simp only[hb,cond_true] at h
    rw[dN];exact h
   |false =>
    simp only[hb,cond_false] at h
    exact mZ ts h
  ·exact mZ ts h
def setAt:List EV→Nat→EV→List EV
 |[],_,_=>[]
 |_::r,0,e=>e::r
 |x::r,n+1,e=>x::setAt r n e
theorem qK:∀(l:List EV) (n:Nat) (e:EV) (j:Nat),(setAt l n e)[j]? = if j=n then (l[j]?).map (fun _=>e) else l[j]?
 |[],n,e,j=>by simp[setAt]
 |x::r,0,e,j=>by
  cases j with
  |zero=>simp[setAt]
  |succ j=>simp[setAt]
 |x::r,n+1,e,j=>by
  cases j with
  |zero=>simp[setAt]
  |succ j=>simp[setAt,qK r n e j]
def jI(r r' x:Nat):Nat:=bif Nat.beq x r then r' else x
def FE.uR(r r':Nat):FE→FE
 |.pv p => .pv p
 |.row x o l z => .row (jI r r' x) o l z
def tv(r r':Nat):EV→EV
 |.jF fs => .jF (fs.map (FE.uR r r'))
 |.ptr x o => .ptr (jI r r' x) o
 |.row x o l z => .row (jI r r' x) o l z
 |.jE x o l z ps => .jE (jI r r' x) o l z ps
 |.sk f x => .sk f (jI r r' x)
 |e=>e
def rq(r r':Nat):SC→SC
 |.lit cs => .lit (cs.map (tv r r'))
 |sc=>sc
def qL(r r':Nat):Env→Env
 |[]=>[]
 |(t,e)::env=>(t,tv r r' e)::qL r r' env
def fS(r r':Nat):aD→aD
 |[]=>[]
 |(x,sc)::aw=>(jI r r' x,rq r r' sc)::fS r r' aw
def kB(aw:aD):List Nat→aD
 |[]=>[]
 |r::rs=>match aw.cp r with
  |some sc=>(r,sc)::kB aw rs
  |none=>kB aw rs
theorem lT(aw:aD):∀(rs:List Nat) (r:Nat),(kB aw rs).cp r=if r∈rs then aw.cp r else none
 |[],r=>by simp[kB,aD.cp]
 |q::rs,r=>by
  simp only[kB]
  cases hq:aw.cp q with
  |none =>
   simp only[lT aw rs r]
   by_cases h:r=q
   ·subst h;simp[hq]
   ·simp[h]
  |some sc =>
   simp only[aD.cp]
   cases hb:Nat.beq q r with
   |true =>
    have:q=r:=Nat.eq_of_beq_eq_true hb
    subst this
    simp[hq]
   |false =>
    have h:r≠q:=by intro e;subst e;simp at hb
    simp[lT aw rs r,h]
def jo(n:Nat)(s:St):TE→Option (St×List Prop)
 |.aB ts=>some (⟨nF s.env ts,s.aw⟩,[])
 |.drop rs=>some (cT rs s,[])
 |.ord rs=>bif s.aw.all (fun x=>rs.contains x.1) then some (⟨s.env,kB s.aw rs⟩,[]) else none
 |.eQ t xs=>su n t xs s
 |.uR r r'=>match s.aw.get r',s.aw.get r with
  |none,some _=>bif ((Nat.blt r n||o5 r)&&Nat.blt r 999999)&&Nat.blt r' n then some (⟨qL r r' s.env,fS r r' s.aw⟩,[]) else none
  |_,_=>none
 |.cut r k ps'=>match s.aw.get r with
  |some (.pure ps)=>some (⟨s.env,aD.set s.aw r (.pure ps')⟩,[ps.take k=ps'])
  |_=>none
 |.G4 q j xs=>match s.aw.get q with
  |some (.lit cells)=>match cells[j]? with
   |some (.row r 0 len sz)=>match s.aw.get r,(kill r s).aw.get q with
    |some (.pure ps),some (.lit nc)=>bif Nat.blt r n then
      some (⟨(kill r s).env,aD.set (kill r s).aw q (.lit (setAt nc j (.pv (.list xs))))⟩,[len=xs.length,ps=xs.flatten,∀row∈xs,row.length=sz]) else none
    |_,_=>none
   |_=>none
  |_=>none
 |.mY t d sz=>match s.env.get t,s.aw.get d with
  |some (.pv .fX),none=>bif Nat.blt d n&&Nat.blt t n then some (⟨(t,.row d 0 0 sz)::s.env,(d,.pure [])::s.aw⟩,[]) else none
  |_,_=>none
 |.zk q j d sz=>match s.aw.get q,s.aw.get d with
  |some (.lit cells),none=>match cells[j]? with
   |some (.pv .fX)=>bif Nat.blt d n then some (⟨s.env,(d,.pure [])::aD.set s.aw q (.lit (setAt cells j (.row d 0 0 sz)))⟩,[]) else none
   |_=>none
  |_,_=>none
 |_=>none
section
variable {P:Program} {T:gi} {Γ:Ctx} {s s':St} {a:Act} {w:World} {β:Nat→Option Nat} {I:Nat→Prop} {ob:List Prop}
theorem tx(r r':Nat):∀(env:Env) (t:Nat),(qL r r' env).get t=(env.get t).map (tv r r')
 |[],t=>rfl
 |(t',e)::env,t=>by
  simp only[qL,Env.get]
  cases Nat.beq t' t with
  |true=>rfl
  |false=>exact tx r r' env t
theorem tz(n:Nat):Nat.beq n n=true:=Nat.beq_refl n
theorem nG{r r':Nat} : jI r r' r=r':=by unfold jI;rw[tz];rfl
theorem fy{r r' x:Nat}(h:x≠r):jI r r' x=x:=by unfold jI;rw[dU h];rfl
theorem rr(r r':Nat):∀(aw:aD),aw.cp r'=none→(∀x sc,aw.cp x=some sc→(fS r r' aw).cp (jI r r' x)=some (rq r r' sc))∧(∀y sc',(fS r r' aw).cp y=some sc'→∃x sc,aw.cp x=some sc∧y=jI r r' x∧sc'=rq r r' sc)
 |[],_=>⟨fun x sc h=>by simp[aD.cp] at h,fun y sc' h=>by simp[fS,aD.cp] at h⟩
 |(x0,Az)::aw,hn=>by
  have F5:x0≠r':=fun e=>by subst e;simp[aD.cp] at hn
  have IZ:aD.cp aw r'=none:=by simpa[aD.cp,dU F5] using hn
  obtain⟨NZ,I1⟩:=rr r r' aw IZ
  have inj:∀x,x≠r'→jI r r' x0=jI r r' x→x0=x:=by
   intro x hx h
   by_cases h1:x0=r
   ·by_cases h2:x=r
    ·rw[h1,h2]
    ·rw[h1,nG,fy h2] at h;exact absurd h.symm hx
   ·by_cases h2:x=r
    ·rw[h2,nG,fy h1] at h;exact absurd h F5
    ·rw[fy h1,fy h2] at h;exact h
  refine⟨fun x sc h => ?_,fun y sc' h => ?_⟩
  ·have uK:x≠r':=fun e=>by subst e;rw[hn] at h;cases h
   simp only[aD.cp] at h
   simp only[fS,aD.cp]
   by_cases F6:x0=x
   ·subst F6
    rw[tz] at h ⊢
    injection h with h;subst h;rfl
   ·rw[dU F6] at h
    rw[dU (fun e=>F6 (inj x uK e))]
    exact NZ x sc h
  ·simp only[fS,aD.cp] at h
   by_cases hy:jI r r' x0=y
   ·subst hy
    rw[tz] at h
    injection h with h
    exact⟨x0,Az,by simp[aD.cp],rfl,h.symm⟩
   ·rw[dU hy] at h
    obtain⟨x,sc,h1,h2,h3⟩:=I1 y sc' h
    have F6:x0≠x:=fun e=>by subst e;exact hy h2.symm
    exact⟨x,sc,by simp only[aD.cp];rw[dU F6];exact h1,h2,h3⟩
theorem vh{r r':Nat}(hr:r<999999)(bU:r'<999999):∀(aw:aD),(fS r r' aw).cp 999999=(aw.cp 999999).map (rq r r')
 |[]=>rfl
 |(x0,Az)::aw=>by
  simp only[fS,aD.cp,vh hr bU aw]
  by_cases h:x0=r
  ·subst h;rw[nG,dU (by omega),dU (by omega)];rfl
  ·rw[fy h];cases Nat.beq x0 999999<;>rfl
theorem zl(r r':Nat)(hr:r<999999)(bU:r'<999999)(aw:aD)(hn:aw.get r'=none):(∀x sc,aw.get x=some sc→(fS r r' aw).get (jI r r' x)=some (rq r r' sc))∧(∀y sc',(fS r r' aw).get y=some sc'→∃x sc,aw.get x=some sc∧y=jI r r' x∧sc'=rq r r' sc):=by
 rw[aD.gm bU] at hn
 obtain⟨g1,g2⟩:=rr r r' aw hn
 have MB:(fS r r' aw).hp=aw.hp:=by
  unfold aD.hp
  rw[vh hr bU aw]
  cases aw.cp 999999 with
  |none=>rfl
  |some sc=>cases sc<;>rfl
 have KW:∀x,x<999999→jI r r' x<999999:=fun x hx=>by
  by_cases h:x=r
  ·subst h;rw[nG];exact bU
  ·rw[fy h];exact hx
 have I2:∀j,jI r r' (hc j)=hc j:=fun j=>fy (by unfold hc;omega)
 refine⟨fun x sc h => ?_,fun y sc' h => ?_⟩
 ·rcases xi x with hx|rfl|⟨j,rfl⟩
  ·rw[aD.gm hx] at h
   rw[aD.gm (KW x hx)]
   exact g1 x sc h
  ·rw[aD.dP] at h;cases h
  ·rw[aD.gQ] at h
   rw[I2,aD.gQ,MB,h]
   unfold lL at h
   split at h
   ·injection h with h;subst h;rfl
   ·cases h
 ·rcases xi y with hy|rfl|⟨j,rfl⟩
  ·rw[aD.gm hy] at h
   obtain⟨x,sc,h1,h2,h3⟩:=g2 y sc' h
   have hx:x<999999:=by
    by_cases hx:x=r
    ·rw[hx];exact hr
    ·rw[fy hx] at h2;omega
   exact⟨x,sc,by rw[aD.gm hx];exact h1,h2,h3⟩
  ·rw[aD.dP] at h;cases h
  ·rw[aD.gQ,MB] at h
   refine⟨hc j,sc',by rw[aD.gQ];exact h,(I2 j).symm,?_⟩
   unfold lL at h
   split at h
   ·injection h with h;subst h;rfl
   ·cases h
theorem bK.uR{r r':Nat}(CG:r<999999)(KX:r'<999999)(hr:bK Γ s a w β I)(hn:s.aw.get r'=none)(ES:aT Γ.sin r→gv r)(KY:¬aT Γ.sin r') :
  bK Γ ⟨qL r r' s.env,fS r r' s.aw⟩ a w (fun x=>if x=r' then β r else β x) I:=by
 obtain⟨g1,g2⟩:=zl r r' CG KX s.aw hn
 have hd:∀x,aT s.aw x→aT (fS r r' s.aw) (jI r r' x):=fun x hx=>by
  obtain⟨sc,jP⟩:=Option.isSome_iff_exists.1 hx
  unfold aT;rw[g1 x sc jP];rfl
 have hβ:∀x,aT s.aw x→(fun x=>if x=r' then β r else β x) (jI r r' x)=β x:=fun x hx=>by
  by_cases h1:x=r
  ·subst h1;rw[nG];simp
  ·have h2:x≠r':=fun e=>by subst e;unfold aT at hx;rw[hn] at hx;cases hx
   rw[fy h1];simp[h2]
 have FY:∀e v,RE β (aT s.aw) I w e v→RE (fun x=>if x=r' then β r else β x) (aT (fS r r' s.aw)) I w (tv r r' e) v:=by
  intro e v h
  cases e with
  |pv p=>exact h
  |ptr x off=>exact⟨hd x h.1,by rw[hβ x h.1];exact h.2⟩
  |row x off len sz=>exact⟨hd x h.1,by rw[hβ x h.1];exact h.2⟩
  |sk f x=>exact⟨hd x h.1,by rw[hβ x h.1];exact h.2⟩
  |jE x off len sz ps =>
   obtain⟨us,g1,g2,⟨u,g3,g4,JX⟩,g5⟩:=h
   exact⟨us,g1,g2,⟨u,g3,hd x g4,by rw[hβ x g4];exact JX⟩,g5⟩
  |jF fs =>
   obtain⟨us,g1,g2,g3⟩:=h
   refine⟨us,g1,by rw[List.length_map];exact g2,fun j f u h1 h2 => ?_⟩
   rw[List.getElem?_map] at h1
   obtain⟨f0,N0,rfl⟩:=Option.map_eq_some_iff.1 h1
   have h3:=g3 j f0 u N0 h2
   cases f0 with
   |pv p=>exact h3
   |row x off len sz=>exact⟨hd x h3.1,by rw[hβ x h3.1];exact h3.2⟩
  |jD c=>exact h
  |dead=>exact h
  |km j len sz =>
   have hj:jI r r' (hc j)=hc j:=fy (by unfold hc;omega)
   have h1:=hd (hc j) h.1
   have h2:=hβ (hc j) h.1
   rw[hj] at h1 h2
   exact⟨h1,by rw[h2];exact h.2⟩
  |jg j off =>
   have hj:jI r r' (hc j)=hc j:=fy (by unfold hc;omega)
   have h1:=hd (hc j) h.1
   have h2:=hβ (hc j) h.1
   rw[hj] at h1 h2
   exact⟨h1,by rw[h2];exact h.2⟩
 have jP:∀sc:SC,(rq r r' sc).mw=sc.mw.map (tv r r'):=fun sc=>by
  cases sc with
  |lit cs=>rfl
  |pure ps=>show ps.map EV.pv=(ps.map EV.pv).map (tv r r');rw[List.map_map];rfl
  |heap xs=>rfl
  |yO hs sz=>simp[rq,SC.mw,tv]
 have back:∀y,aT (fS r r' s.aw) y→∃x,aT s.aw x∧y=jI r r' x:=fun y hy=>by
  obtain⟨sc',Bv⟩:=Option.isSome_iff_exists.1 hy
  obtain⟨x,sc,h1,h2,_⟩:=g2 y sc' Bv
  exact⟨x,by unfold aT;rw[h1];rfl,h2⟩
 refine⟨fun t e he => ?_,⟨fun y sc' hy => ?_,fun y y' b hy Cd h1 h2 => ?_⟩,fun y hy sZ F1 => ?_,fun y b hy sZ hb => ?_,hr.ib,hr.ii,hr.aB,hr.size,hr.defers⟩
 ·have he:(qL r r' s.env).get t=some e:=he
  rw[tx] at he
  cases h0:s.env.get t with
  |none=>rw[h0] at he;cases he
  |some e0 =>
   rw[h0] at he
   injection he with he;subst he
   exact FY e0 _ (hr.env t e0 h0)
 ·obtain⟨x,sc,h1,h2,h3⟩:=g2 y sc' hy
  subst h2;subst h3
  have yE:aT s.aw x:=by unfold aT;rw[h1];rfl
  obtain⟨k1,k2⟩:=hr.aw.1 x sc h1
  refine⟨?_,fun b hb=>k2 b (by rw[←hβ x yE];exact hb)⟩
  rw[jP]
  rcases k1 with ⟨c1,c2⟩|⟨b,arr,el,c1,c2,c3⟩
  ·exact .inl ⟨by rw[hβ x yE];exact c1,by rw[c2];rfl⟩
  ·refine .inr ⟨b,arr,el,by rw[hβ x yE];exact c1,c2,fun j e he => ?_⟩
   rw[List.getElem?_map] at he
   cases h0:sc.mw[j]? with
   |none=>rw[h0] at he;cases he
   |some e0 =>
    rw[h0] at he
    injection he with he;subst he
    obtain⟨u,d1,d2,d3⟩:=c3 j e0 h0
    exact⟨u,d1,d2,FY e0 u d3⟩
 ·obtain⟨x,hx,rfl⟩:=back y hy
  obtain⟨x',uP,rfl⟩:=back y' Cd
  rw[hβ x hx] at h1
  rw[hβ x' uP] at h2
  rw[hr.aw.2 x x' b hx uP h1 h2]
 ·obtain⟨x,hx,rfl⟩:=back y hy
  refine(hβ x hx).trans ?_
  by_cases h1:x=r
  ·subst h1;rw[nG] at sZ;exact absurd sZ KY
  ·rw[fy h1] at sZ F1 ⊢;exact hr.par x hx sZ F1
 ·obtain⟨x,hx,rfl⟩:=back y hy
  have mJ:β x=some b:=(hβ x hx).symm.trans hb
  by_cases h1:x=r
  ·subst h1
   by_cases hd:aT Γ.sin x
   ·exact hr.new x b hx (.inr (ES hd)) mJ
   ·exact hr.new x b hx (.inl hd) mJ
  ·rw[fy h1] at sZ;exact hr.new x b hx sZ mJ
theorem wb(hs:∀r,aT Γ.sin r→Γ.n≤r){te:TE}(hr:Rel Γ s a w)(ay:jo Γ.n s te=some (s',ob))(bj:bV ob):Rel Γ s' a w:=by
 obtain⟨β,I,hr⟩:=hr
 cases te with
 |aI _=>cases ay
 |KV _ _ _ _=>cases ay
 |any _ _=>cases ay
 |dec _=>cases ay
 |auto=>cases ay
 |aB ts =>
  injection ay with ay;injection ay with h1 h2
  subst h1
  exact⟨β,I,fun t e he=>hr.env t e (mZ ts he),hr.aw,hr.par,hr.new,hr.ib,hr.ii,hr.aB,hr.size,hr.defers⟩
 |drop rs =>
  injection ay with ay;injection ay with h1 h2
  subst h1
  exact⟨β,I,bK.cT rs hr⟩
 |eQ t xs=>exact oe hs ⟨β,I,hr⟩ ay bj
 |rel t j xs=>simp[jo] at ay
 |AD=>simp[jo] at ay
 |F4=>simp[jo] at ay
 |CY t d sz=>simp[jo] at ay
 |ord rs =>
  simp only[jo] at ay
  cases hb:s.aw.all (fun x=>rs.contains x.1) with
  |false=>rw[hb] at ay;cases ay
  |true =>
   rw[hb] at ay
   injection ay with ay;injection ay with h1 h2
   subst h1
   refine Rel.ER (s:=s) ⟨fun _=>rfl,fun r => ?_⟩ ⟨β,I,hr⟩
   show(kB s.aw rs).get r=s.aw.get r
   have key:∀r,(kB s.aw rs).cp r=s.aw.cp r:=fun r=>by
    rw[lT]
    split
    ·rfl
    ·rename_i hn
     cases hg:s.aw.cp r with
     |none=>rfl
     |some sc =>
      rw[List.all_eq_true] at hb
      have:=hb _ (aD.pz hg)
      exact absurd (by simpa using this) hn
   unfold aD.get aD.hp
   rw[key,key]
 |uR r r' =>
  simp only[jo] at ay
  split at ay
  ·rename_i hn _
   cases hb:(((Nat.blt r Γ.n||o5 r)&&Nat.blt r 999999)&&Nat.blt r' Γ.n) with
   |false=>rw[hb] at ay;cases ay
   |true =>
    rw[hb] at ay
    injection ay with ay;injection ay with h1 h2
    subst h1
    rw[Bool.and_eq_true,Bool.and_eq_true,Bool.or_eq_true] at hb
    have N1:=hb.1.2
    replace hb:=And.intro hb.1.1 hb.2
    exact⟨_,I,hr.uR (Nat.le_of_ble_eq_true N1) (Nat.lt_of_lt_of_le (Nat.le_of_ble_eq_true hb.2) Γ.small) hn (fun h=>hb.1.elim (fun hb=>absurd (hs r h) (Nat.not_le_of_lt (Nat.le_of_ble_eq_true hb))) (fun hb=>Nat.le_of_ble_eq_true hb)) (fun h=>absurd (hs r' h) (Nat.not_le_of_lt (Nat.le_of_ble_eq_true hb.2)))⟩
  ·cases ay
 |cut r k ps' =>
  simp only[jo] at ay
  split at ay
  ·rename_i ps jG
   injection ay with ay;injection ay with h1 h2
   subst h1;subst h2
   have bj:ps.take k=ps':=bj
   subst bj
   have hL:∀x,aT s.aw x→aT (aD.set s.aw r (.pure (ps.take k))) x:=fun x hx=>dD.2 hx
   refine⟨β,I,fun t e he=>(hr.env t e he).mono (fun _ _=>rfl) hL (fun _ h=>h) (fun _ _ _=>rfl) (fun _ _ _ _=>rfl),⟨fun x sc hx => ?_,fun x y b hx hy=>hr.aw.2 x y b (dD.1 hx) (dD.1 hy)⟩,
    fun x hx=>hr.par x (dD.1 hx),fun x b hx=>hr.new x b (dD.1 hx),hr.ib,hr.ii,hr.aB,hr.size,hr.defers⟩
   have hx:(aD.set s.aw r (.pure (ps.take k))).get x=some sc:=hx
   rw[aD.gT] at hx
   by_cases uK:x=r∧r<999999
   ·obtain⟨rfl,CG⟩:=uK
    rw[if_pos ⟨rfl,CG⟩,jG] at hx
    simp only[Option.map_some,Option.some.injEq] at hx
    subst hx
    obtain⟨k1,k2⟩:=hr.aw.1 x _ jG
    refine⟨?_,k2⟩
    rcases k1 with ⟨c1,c2⟩|⟨b,arr,el,c1,c2,c3⟩
    ·have c2:ps.map EV.pv=[]:=c2
     exact .inl ⟨c1,by show(ps.take k).map EV.pv=[];rw[List.map_take,c2];simp⟩
    ·refine .inr ⟨b,arr,el,c1,c2,fun i e he => ?_⟩
     have he:((ps.take k).map EV.pv)[i]? = some e:=he
     rw[List.map_take] at he
     have cS:=(List.getElem?_eq_some_iff.1 he).1
     rw[List.length_take] at cS
     rw[List.getElem?_take_of_lt (by omega)] at he
     obtain⟨u,d1,d2,d3⟩:=c3 i e he
     exact⟨u,d1,d2,d3.mono (fun _ _=>rfl) hL (fun _ h=>h) (fun _ _ _=>rfl) (fun _ _ _ _=>rfl)⟩
   ·rw[if_neg uK] at hx
    obtain⟨k1,k2⟩:=hr.aw.1 x sc hx
    exact⟨k1.mono rfl (fun _ _=>rfl) (fun _ _=>rfl) hL (fun _ h=>h) (fun _ _ _=>rfl) (fun _ _ _ _=>rfl),k2⟩
  ·cases ay
 |G4 q j xs =>
  simp only[jo] at ay
  split at ay
  ·rename_i cells hq
   split at ay
   ·rename_i r len sz hj
    split at ay
    ·rename_i ps nc jG og
     cases hb:Nat.blt r Γ.n with
     |false=>simp[hb] at ay
     |true =>
      simp only[hb,cond_true] at ay
      have ES:r<Γ.n:=Nat.le_of_ble_eq_true hb
      injection ay with ay;injection ay with h1 h2
      subst h1;subst h2
      obtain⟨g1,bj⟩:=bj.cons
      obtain⟨g2,g3⟩:=bj.cons
      have Av:=(hr.aw.1 r _ jG).1
      have r6:aT s.aw r:=by unfold aT;rw[jG];rfl
      have xz:¬aT Γ.sin r:=fun h=>absurd (hs r h) (Nat.not_le_of_lt ES)
      have fin:∀I',(∀b,I b→I' b)→(∀b,β r=some b→I' b)→bK Γ (kill r s) a w β I'→Rel Γ ⟨(kill r s).env,aD.set (kill r s).aw q (.lit (setAt nc j (.pv (.list xs))))⟩ a w:=by
       intro I' hI KK hk
       have hL:∀x,aT (kill r s).aw x→aT (aD.set (kill r s).aw q (.lit (setAt nc j (.pv (.list xs))))) x:=fun x hx=>dD.2 hx
       refine⟨β,I',fun t e he=>(hk.env t e he).mono (fun _ _=>rfl) hL (fun _ h=>h) (fun _ _ _=>rfl) (fun _ _ _ _=>rfl),⟨fun x sc hx => ?_,fun x y b hx hy=>hk.aw.2 x y b (dD.1 hx) (dD.1 hy)⟩,
        fun x hx=>hk.par x (dD.1 hx),fun x b hx=>hk.new x b (dD.1 hx),hk.ib,hk.ii,hk.aB,hk.size,hk.defers⟩
       have hx:(aD.set (kill r s).aw q (.lit (setAt nc j (.pv (.list xs))))).get x=some sc:=hx
       rw[aD.gT] at hx
       by_cases hxq:x=q∧q<999999
       ·obtain⟨rfl,KZ⟩:=hxq
        rw[if_pos ⟨rfl,KZ⟩,og] at hx
        simp only[Option.map_some,Option.some.injEq] at hx
        subst hx
        obtain⟨k1,k2⟩:=hk.aw.1 x _ og
        refine⟨?_,k2⟩
        rcases k1 with ⟨c1,c2⟩|⟨b,arr,el,c1,c2,c3⟩
        ·have c2:nc=[]:=c2
         exact .inl ⟨c1,by subst c2;rfl⟩
        ·refine .inr ⟨b,arr,el,c1,c2,fun i e he => ?_⟩
         have he:(setAt nc j (.pv (.list xs)))[i]? = some e:=he
         rw[qK] at he
         by_cases uS:i=j
         ·subst uS
          rw[if_pos rfl] at he
          cases hc:nc[i]? with
          |none=>simp[hc] at he
          |some e' =>
           simp[hc] at he
           subst he
           obtain⟨u,d1,d2,_⟩:=c3 i e' hc
           obtain⟨o1,o2⟩:=hr.aw.1 x _ hq
           obtain⟨mO,Pg,p1,_,p3⟩:=o1.block c1
           rw[c2] at p1
           injection p1 with p1;injection p1 with p1 _
           subst p1
           obtain⟨u',q1,_,q3⟩:=p3 i _ hj
           have:u'=u:=by rw[d1] at q1;injection q1 with q1;exact q1.symm
           subst this
           exact⟨u',d1,d2,ti q3 Av g1 g2 g3 hI KK⟩
         ·rw[if_neg uS] at he
          obtain⟨u,d1,d2,d3⟩:=c3 i e he
          exact⟨u,d1,d2,d3.mono (fun _ _=>rfl) hL (fun _ h=>h) (fun _ _ _=>rfl) (fun _ _ _ _=>rfl)⟩
       ·rw[if_neg hxq] at hx
        obtain⟨k1,k2⟩:=hk.aw.1 x sc hx
        exact⟨k1.mono rfl (fun _ _=>rfl) (fun _ _=>rfl) hL (fun _ h=>h) (fun _ _ _=>rfl) (fun _ _ _ _=>rfl),k2⟩
      cases jw:β r with
      |none=>exact fin I (fun _ h=>h) (fun b cQ=>by rw[jw] at cQ;cases cQ) (hr.kill r)
      |some b =>
       exact fin _ (fun _ h => .inl h) (fun b' cQ=>by rw[jw] at cQ;injection cQ with cQ;exact .inr cQ.symm)
        ((hr.kill r).IT (b:=b) ((hr.aw.1 r _ jG).2 b jw).1 (hr.new r b r6 (.inl xz) jw) (fun x hx e=>(cC.1 hx).2 (hr.aw.2 x r b (cC.1 hx).1 r6 e jw)))
    ·cases ay
   ·cases ay
  ·cases ay
 |mY t d sz =>
  simp only[jo] at ay
  split at ay
  ·rename_i he hd
   cases hb:(Nat.blt d Γ.n&&Nat.blt t Γ.n) with
   |false=>simp[hb] at ay
   |true =>
    simp only[hb,cond_true] at ay
    simp only[Bool.and_eq_true] at hb
    have oc:d<Γ.n:=Nat.le_of_ble_eq_true hb.1
    injection ay with ay;injection ay with h1 h2
    subst h1
    have sr:¬aT s.aw d:=by unfold aT;rw[hd];simp
    have xz:¬aT Γ.sin d:=fun h=>absurd (hs d h) (Nat.not_le_of_lt oc)
    have hv:Rd I w .fX (a.tmps.getD t undef):=hr.env t _ he
    have mz:d<999999:=Nat.lt_of_lt_of_le oc Γ.small
    have h2:=hr.site (d:=d) (sc := .pure []) mz sr xz (β':=fun x=>if x=d then none else β x) (fun x hx=>if_neg hx) (fun b cQ=>by simp at cQ) (.inl ⟨by simp,rfl⟩)
    refine⟨_,_,h2.G1 ⟨(bW mz).2 (.inl rfl),.inl ⟨by simp,rfl,?_⟩⟩⟩
    generalize a.tmps.getD t undef=v at hv
    cases hv;rfl
  ·cases ay
 |zk q j d sz =>
  simp only[jo] at ay
  split at ay
  ·rename_i cells hq hd
   split at ay
   ·rename_i hj
    cases hb:Nat.blt d Γ.n with
    |false=>simp[hb] at ay
    |true =>
     simp only[hb,cond_true] at ay
     have oc:d<Γ.n:=Nat.le_of_ble_eq_true hb
     injection ay with ay;injection ay with h1 h2
     subst h1
     have sr:¬aT s.aw d:=by unfold aT;rw[hd];simp
     have xz:¬aT Γ.sin d:=fun h=>absurd (hs d h) (Nat.not_le_of_lt oc)
     have mz:d<999999:=Nat.lt_of_lt_of_le oc Γ.small
     have hk:=hr.site (d:=d) (sc := .pure []) mz sr xz (β':=fun x=>if x=d then none else β x) (fun x hx=>if_neg hx) (fun b cQ=>by simp at cQ) (.inl ⟨by simp,rfl⟩)
     have MC:q≠d:=fun e=>by subst e;rw[hq] at hd;cases hd
     have hL:∀x,aT ((d,SC.pure [])::s.aw) x→aT ((d,SC.pure [])::aD.set s.aw q (.lit (setAt cells j (.row d 0 0 sz)))) x:=fun x hx=>by
      rcases(bW mz).1 hx with hx|hx
      ·exact(bW mz).2 (.inl hx)
      ·exact(bW mz).2 (.inr (dD.2 hx))
     have J7:∀x,aT ((d,SC.pure [])::aD.set s.aw q (.lit (setAt cells j (.row d 0 0 sz)))) x→aT ((d,SC.pure [])::s.aw) x:=fun x hx=>by
      rcases(bW mz).1 hx with hx|hx
      ·exact(bW mz).2 (.inl hx)
      ·exact(bW mz).2 (.inr (dD.1 hx))
     refine⟨_,I,fun t e he=>(hk.env t e he).mono (fun _ _=>rfl) hL (fun _ h=>h) (fun _ _ _=>rfl) (fun _ _ _ _=>rfl),⟨fun x sc hx => ?_,fun x y b hx hy=>hk.aw.2 x y b (J7 x hx) (J7 y hy)⟩,
      fun x hx=>hk.par x (J7 x hx),fun x b hx=>hk.new x b (J7 x hx),hk.ib,hk.ii,hk.aB,hk.size,hk.defers⟩
     by_cases hxq:x=q∧q<999999
     ·obtain⟨rfl,KZ⟩:=hxq
      have hx:aD.get ((d,SC.pure [])::aD.set s.aw x (.lit (setAt cells j (.row d 0 0 sz)))) x=some sc:=hx
      rw[aD.fY mz,dU (Ne.symm MC),cond_false,aD.gT,if_pos ⟨rfl,KZ⟩,hq] at hx
      simp only[Option.map_some,Option.some.injEq] at hx
      subst hx
      obtain⟨k1,k2⟩:=hk.aw.1 x (.lit cells) (by show aD.get ((d,SC.pure [])::s.aw) x=_;rw[aD.fY mz,dU (Ne.symm MC),cond_false];exact hq)
      refine⟨?_,k2⟩
      rcases k1 with ⟨c1,c2⟩|⟨b,arr,el,c1,c2,c3⟩
      ·have c2:cells=[]:=c2
       exact .inl ⟨c1,by subst c2;rfl⟩
      ·refine .inr ⟨b,arr,el,c1,c2,fun i e he => ?_⟩
       have he:(setAt cells j (.row d 0 0 sz))[i]? = some e:=he
       rw[qK] at he
       by_cases uS:i=j
       ·subst uS
        rw[if_pos rfl,hj] at he
        simp only[Option.map_some,Option.some.injEq] at he
        subst he
        obtain⟨u,d1,d2,d3⟩:=c3 i _ hj
        have d3:Rd I w .fX u:=d3
        refine⟨u,d1,d2,hL _ ((bW mz).2 (.inl rfl)),.inl ⟨by simp,rfl,?_⟩⟩
        cases d3;rfl
       ·rw[if_neg uS] at he
        obtain⟨u,d1,d2,d3⟩:=c3 i e he
        exact⟨u,d1,d2,d3.mono (fun _ _=>rfl) hL (fun _ h=>h) (fun _ _ _=>rfl) (fun _ _ _ _=>rfl)⟩
     ·have E4:aD.get ((d,SC.pure [])::s.aw) x=some sc:=by
       have hx:aD.get ((d,SC.pure [])::aD.set s.aw q (.lit (setAt cells j (.row d 0 0 sz)))) x=some sc:=hx
       rw[aD.fY mz] at hx ⊢
       cases hbx:Nat.beq d x with
       |true=>simpa[hbx] using hx
       |false =>
        simp only[hbx,cond_false] at hx ⊢
        rw[aD.gT,if_neg hxq] at hx
        exact hx
      obtain⟨k1,k2⟩:=hk.aw.1 x sc E4
      exact⟨k1.mono rfl (fun _ _=>rfl) (fun _ _=>rfl) hL (fun _ h=>h) (fun _ _ _=>rfl) (fun _ _ _ _=>rfl),k2⟩
   ·cases ay
  ·cases ay
end
end Go.Proofs.YtnjhplhbmapclaaGreatDoor.Sym
