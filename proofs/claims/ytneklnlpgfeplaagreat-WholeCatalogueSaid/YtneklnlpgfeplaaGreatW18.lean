/- Lemmas for the statements of this seat. -/
import Derived.Test.YtneklnlpgfeplaaGreatW17
namespace Go.Proofs.YtneklnlpgfeplaaGreat.Sym
open Go Go.RowKit
inductive TE where
 |bx (hs:List Hint)
 |Sb (fl hd:List Nat) (tl:List Nat) (hs:List Hint)
 |any (fl:List Nat) (hs:List Hint)
 |dec (d:Bool)
 |auto
 |aW (ts:List Nat)
 |drop (rs:List Nat)
 |jz (t:Nat) (xs:List (List PV))
 |wC (q j:Nat) (xs:List (List PV))
 |r9 (t d sz:Nat)
 |oJ (q j d sz:Nat)
 |cut (r k:Nat) (ps:List PV)
 |pH (r r':Nat)
 |ord (rs:List Nat)
 |rel (t j:Nat) (xs:List (Option (List PV)))
 |H0
 |Ot
 |Kp (t d sz:Nat)
 |Sc (q k j:Nat) (xs:List (Option (List PV)))
 |Sd (q k:Nat) (rows:List (List PV))
 |Se (r z:Nat)
def pI(env:Env):List Nat→Env
 |[]=>[]
 |t::ts=>match env.get t with
  |some e=>(t,e)::pI env ts
  |none=>pI env ts
theorem tf{env:Env}{t:Nat}{e:EV} : ∀(ts:List Nat),(pI env ts).get t=some e→env.get t=some e
 |[],h=>by simp[pI,Env.get] at h
 |t'::ts,h=>by
  unfold pI at h;split at h
  ·rename_i e' gi;simp only[Env.get] at h;cases hb:Nat.beq t' t with
   |true =>have:t'=t:=abO hb;subst this;simp only[hb,cond_true] at h;rw[gi];exact h
   |false =>simp only[hb,cond_false] at h;exact tf ts h
  ·exact tf ts h
def setAt:List EV→Nat→EV→List EV
 |[],_,_=>[]
 |_::r,0,e=>e::r
 |x::r,n+1,e=>x::setAt r n e
theorem xC:∀(l:List EV) (n:Nat) (e:EV) (j:Nat),(setAt l n e)[j]? = if j=n then (l[j]?).map (fun _=>e) else l[j]?
 |[],n,e,j=>by simp[setAt]
 |x::r,0,e,j=>by
  cases j with
  |zero=>simp[setAt]
  |succ j=>simp[setAt]
 |x::r,n+1,e,j=>by
  cases j with
  |zero=>simp[setAt]
  |succ j=>simp[setAt,xC r n e j]
def mr(r r' x:Nat):Nat:=bif Nat.beq x r then r' else x
def FE.pH(r r':Nat):FE→FE
 |.pv p => .pv p
 |.row x o l z => .row (mr r r' x) o l z
 |.ig j l z => .ig j l z
def yc(r r':Nat):EV→EV
 |.lz fs => .lz (fs.map (FE.pH r r'))
 |.ptr x o => .ptr (mr r r' x) o
 |.row x o l z => .row (mr r r' x) o l z
 |.jA x o l z ps => .jA (mr r r' x) o l z ps
 |.mD f x => .mD f (mr r r' x)
 |.iu x o ps => .iu (mr r r' x) o ps
 |.cM f bs rs => .cM f (bs.map (mr r r')) (rs.map (mr r r'))
 |e=>e
def wD(r r':Nat):SC→SC
 |.lit cs => .lit (cs.map (yc r r'))
 |sc=>sc
def xD(r r':Nat):Env→Env
 |[]=>[]
 |(t,e)::env=>(t,yc r r' e)::xD r r' env
def ki(r r':Nat):aY→aY
 |[]=>[]
 |(x,sc)::aP=>(mr r r' x,wD r r' sc)::ki r r' aP
def pJ(aP:aY):List Nat→aY
 |[]=>[]
 |r::rs=>match aP.cD r with
  |some sc=>(r,sc)::pJ aP rs
  |none=>pJ aP rs
theorem rm(aP:aY):∀(rs:List Nat) (r:Nat),(pJ aP rs).cD r=if r∈rs then aP.cD r else none
 |[],r=>by simp[pJ,aY.cD]
 |q::rs,r=>by
  simp only[pJ];cases hq:aP.cD q with
  |none =>
   simp only[rm aP rs r];by_cases h:r=q
   ·subst h;simp[hq]
   ·simp[h]
  |some sc =>
   simp only[aY.cD];cases hb:Nat.beq q r with
   |true =>have:q=r:=abO hb;subst this;simp[hq]
   |false =>
    have h:r≠q:=by intro e;subst e;simp at hb
    simp[rm aP rs r,h]
def kj(n:Nat)(s:St):TE→Option (St×List Prop)
 |.aW ts=>some (⟨pI s.env ts,s.aP⟩,[])
 |.drop rs=>some (cm rs s,[])
 |.ord rs=>bif s.aP.all (fun x=>rs.contains x.1) then some (⟨s.env,pJ s.aP rs⟩,[]) else none
 |.jz t xs=>zl n t xs s
 |.pH r r'=>match s.aP.get r',s.aP.get r with
  |none,some _=>bif ((Nat.blt r n||nP r)&&Nat.blt r 999999)&&Nat.blt r' n then some (⟨xD r r' s.env,ki r r' s.aP⟩,[]) else none
  |_,_=>none
 |.cut r k ps'=>match s.aP.get r with
  |some (.pure ps)=>some (⟨s.env,aY.set s.aP r (.pure ps')⟩,[ps.take k=ps'])
  |_=>none
 |.wC q j xs=>match s.aP.get q with
  |some (.lit cells)=>match cells[j]? with
   |some (.row r 0 len sz)=>match s.aP.get r,(kill r s).aP.get q with
    |some (.pure ps),some (.lit tg)=>bif Nat.blt r n then
      some (⟨(kill r s).env,aY.set (kill r s).aP q (.lit (setAt tg j (.pv (.list xs))))⟩,[len=xs.length,ps=xs.flatten,∀row∈xs,row.length=sz]) else none
    |_,_=>none
   |_=>none
  |_=>none
 |.r9 t d sz=>match s.env.get t,s.aP.get d with
  |some (.pv .aT),none=>bif Nat.blt d n&&Nat.blt t n then some (⟨(t,.row d 0 0 sz)::s.env,(d,.pure [])::s.aP⟩,[]) else none
  |_,_=>none
 |.oJ q j d sz=>match s.aP.get q,s.aP.get d with
  |some (.lit cells),none=>match cells[j]? with
   |some (.pv .aT)=>bif Nat.blt d n then some (⟨s.env,(d,.pure [])::aY.set s.aP q (.lit (setAt cells j (.row d 0 0 sz)))⟩,[]) else none
   |_=>none
  |_,_=>none
 |_=>none
section
variable {P:Program} {T:ja} {Γ:Ctx} {s s':St} {a:Act} {w:World} {β:Nat→Option Nat} {I:Nat→Prop} {ob:List Prop}
theorem As(r r':Nat):∀(env:Env) (t:Nat),(xD r r' env).get t=(env.get t).map (yc r r')
 |[],t=>rfl
 |(t',e)::env,t=>by
  simp only[xD,Env.get];cases Nat.beq t' t with
  |true=>rfl
  |false=>exact As r r' env t
theorem Au(n:Nat):Nat.beq n n=true:=adr n
theorem ub{r r':Nat} : mr r r' r=r':=by unfold mr;rw[Au];rfl
theorem ju{r r' x:Nat}(h:x≠r):mr r r' x=x:=by unfold mr;rw[gm h];rfl
theorem yd(r r':Nat):∀(aP:aY),aP.cD r'=none→(∀x sc,aP.cD x=some sc→(ki r r' aP).cD (mr r r' x)=some (wD r r' sc))∧(∀y sc',(ki r r' aP).cD y=some sc'→∃x sc,aP.cD x=some sc∧y=mr r r' x∧sc'=wD r r' sc)
 |[],_=>⟨fun x sc h=>by simp[aY.cD] at h,fun y sc' h=>by simp[ki,aY.cD] at h⟩
 |(x0,sH)::aP,hn=>by
  have Kq:x0≠r':=fun e=>by subst e;simp[aY.cD] at hn
  have Ou:aY.cD aP r'=none:=by simpa[aY.cD,gm Kq] using hn
  obtain⟨ZN,ZO⟩:=yd r r' aP Ou;have inj:∀x,x≠r'→mr r r' x0=mr r r' x→x0=x:=by
   intro x hx h;by_cases h1:x0=r
   ·by_cases h2:x=r
    ·rw[h1,h2]
    ·rw[h1,ub,ju h2] at h;exact absurd h.symm hx
   ·by_cases h2:x=r
    ·rw[h2,ub,ju h1] at h;exact absurd h Kq
    ·rw[ju h1,ju h2] at h;exact h
  refine⟨fun x sc h => ?_,fun y sc' h => ?_⟩
  ·have B4:x≠r':=fun e=>by subst e;rw[hn] at h;cases h
   simp only[aY.cD] at h;simp only[ki,aY.cD];by_cases Jy:x0=x
   ·subst Jy;rw[Au] at h ⊢;injection h with h;subst h;rfl
   ·rw[gm Jy] at h;rw[gm (fun e=>Jy (inj x B4 e))];exact ZN x sc h
  ·simp only[ki,aY.cD] at h;by_cases hy:mr r r' x0=y
   ·subst hy;rw[Au] at h;injection h with h
    exact⟨x0,sH,by simp[aY.cD],rfl,h.symm⟩
   ·rw[gm hy] at h;obtain⟨x,sc,h1,h2,h3⟩:=ZO y sc' h;have Jy:x0≠x:=fun e=>by subst e;exact hy h2.symm
    exact⟨x,sc,by simp only[aY.cD];rw[gm Jy];exact h1,h2,h3⟩
theorem CA{r r':Nat}(hr:r<999999)(dx:r'<999999):∀(aP:aY),(ki r r' aP).cD 999999=(aP.cD 999999).map (wD r r')
 |[]=>rfl
 |(x0,sH)::aP=>by
  simp only[ki,aY.cD,CA hr dx aP];by_cases h:x0=r
  ·subst h;rw[ub,gm (by omega),gm (by omega)];rfl
  ·rw[ju h];cases Nat.beq x0 999999<;>rfl
theorem GB(r r':Nat)(hr:r<999999)(dx:r'<999999)(aP:aY)(hn:aP.get r'=none):(∀x sc,aP.get x=some sc→(ki r r' aP).get (mr r r' x)=some (wD r r' sc))∧(∀y sc',(ki r r' aP).get y=some sc'→∃x sc,aP.get x=some sc∧y=mr r r' x∧sc'=wD r r' sc):=by
 rw[aY.jB dx] at hn;obtain⟨g1,g2⟩:=yd r r' aP hn;have Ys:(ki r r' aP).hp=aP.hp:=by
  unfold aY.hp;rw[CA hr dx aP];cases aP.cD 999999 with
  |none=>rfl
  |some sc=>cases sc<;>rfl
 have VI:∀x,x<999999→mr r r' x<999999:=fun x hx=>by
  by_cases h:x=r
  ·subst h;rw[ub];exact dx
  ·rw[ju h];exact hx
 have Yt:∀j,mr r r' (hc j)=hc j:=fun j=>ju (by unfold hc;omega)
 refine⟨fun x sc h => ?_,fun y sc' h => ?_⟩
 ·rcases Dn x with hx|rfl|⟨j,rfl⟩
  ·rw[aY.jB hx] at h;rw[aY.jB (VI x hx)];exact g1 x sc h
  ·rw[aY.gu] at h;cases h
  ·rw[aY.kI] at h;rw[Yt,aY.kI,Ys,h];unfold qh at h;split at h
   ·injection h with h;subst h;rfl
   ·cases h
 ·rcases Dn y with hy|rfl|⟨j,rfl⟩
  ·rw[aY.jB hy] at h;obtain⟨x,sc,h1,h2,h3⟩:=g2 y sc' h;have hx:x<999999:=by
    by_cases hx:x=r
    ·rw[hx];exact hr
    ·rw[ju hx] at h2;omega
   exact⟨x,sc,by rw[aY.jB hx];exact h1,h2,h3⟩
  ·rw[aY.gu] at h;cases h
  ·rw[aY.kI,Ys] at h;refine⟨hc j,sc',by rw[aY.kI];exact h,(Yt j).symm,?_⟩;unfold qh at h;split at h
   ·injection h with h;subst h;rfl
   ·cases h
theorem dh.pH{r r':Nat}(JY:r<999999)(VJ:r'<999999)(hr:dh Γ s a w β I)(hn:s.aP.get r'=none)(MS:bz Γ.sin r→gv r)(VK:¬bz Γ.sin r') :
  dh Γ ⟨xD r r' s.env,ki r r' s.aP⟩ a w (fun x=>if x=r' then β r else β x) I:=by
 obtain⟨g1,g2⟩:=GB r r' JY VJ s.aP hn;have hd:∀x,bz s.aP x→bz (ki r r' s.aP) (mr r r' x):=fun x hx=>by obtain⟨sc,gS⟩:=abP.1 hx;unfold bz;rw[g1 x sc gS];rfl
 have hβ:∀x,bz s.aP x→(fun x=>if x=r' then β r else β x) (mr r r' x)=β x:=fun x hx=>by
  by_cases h1:x=r
  ·subst h1;rw[ub];simp
  ·have h2:x≠r':=fun e=>by subst e;unfold bz at hx;rw[hn] at hx;cases hx
   rw[ju h1];simp[h2]
 have Mo:∀e v,RE β (bz s.aP) I w e v→RE (fun x=>if x=r' then β r else β x) (bz (ki r r' s.aP)) I w (yc r r' e) v:=by
  intro e v h;cases e with
  |pv p=>exact h
  |ptr x off=>exact⟨hd x h.1,by rw[hβ x h.1];exact h.2⟩
  |row x off len sz=>exact⟨hd x h.1,by rw[hβ x h.1];exact h.2⟩
  |mD f x=>exact⟨hd x h.1,by rw[hβ x h.1];exact h.2⟩
  |jA x off len sz ps =>obtain⟨us,g1,g2,⟨u,g3,g4,MN⟩,g5⟩:=h;exact⟨us,g1,g2,⟨u,g3,hd x g4,by rw[hβ x g4];exact MN⟩,g5⟩
  |iu x off ps =>obtain⟨us,g1,g2,⟨u,g3,g4,MN⟩,g5⟩:=h;exact⟨us,g1,g2,⟨u,g3,hd x g4,by rw[hβ x g4];exact MN⟩,g5⟩
  |cM f bs rs =>
   obtain⟨h1,ab,ac,h2,h3,h4⟩:=h;refine⟨fun x hx => ?_,ab,ac,?_,?_,h4⟩
   ·rw[←adu] at hx;obtain⟨y,hy,rfl⟩:=aca.1 hx;exact hd y (h1 y hy)
   ·rw[List.map_map,←h2];exact adS fun y hy=>hβ y (h1 y (acH _ hy))
   ·rw[List.map_map,←h3];exact adS fun y hy=>hβ y (h1 y (acD _ hy))
  |lz fs =>
   obtain⟨us,g1,g2,g3⟩:=h;refine⟨us,g1,by rw[abS];exact g2,fun j f u h1 h2 => ?_⟩;rw[abR] at h1;obtain⟨f0,VL,rfl⟩:=acP.1 h1;have h3:=g3 j f0 u VL h2;cases f0 with
   |pv p=>exact h3
   |row x off len sz=>exact⟨hd x h3.1,by rw[hβ x h3.1];exact h3.2⟩
   |ig j len sz =>have hj:mr r r' (hc j)=hc j:=ju (by unfold hc;omega);have h4:=hd (hc j) h3.1;have h5:=hβ (hc j) h3.1;rw[hj] at h4 h5;exact⟨h4,by rw[h5];exact h3.2⟩
  |mC c=>exact h
  |dead=>exact h
  |ig j len sz =>have hj:mr r r' (hc j)=hc j:=ju (by unfold hc;omega);have h1:=hd (hc j) h.1;have h2:=hβ (hc j) h.1;rw[hj] at h1 h2;exact⟨h1,by rw[h2];exact h.2⟩
  |mE j off =>have hj:mr r r' (hc j)=hc j:=ju (by unfold hc;omega);have h1:=hd (hc j) h.1;have h2:=hβ (hc j) h.1;rw[hj] at h1 h2;exact⟨h1,by rw[h2];exact h.2⟩
 have gS:∀sc:SC,(wD r r' sc).oe=sc.oe.map (yc r r'):=fun sc=>by
  cases sc with
  |lit cs=>rfl
  |pure ps=>show ps.map EV.pv=(ps.map EV.pv).map (yc r r');rw[List.map_map];rfl
  |heap xs=>rfl
  |Ew hs sz=>simp[wD,SC.oe,yc]
  |Ex hs sz=>simp[wD,SC.oe,JQ,List.map_flatMap,yc]
 have back:∀y,bz (ki r r' s.aP) y→∃x,bz s.aP x∧y=mr r r' x:=fun y hy=>by obtain⟨sc',B8⟩:=abP.1 hy;obtain⟨x,sc,h1,h2,_⟩:=g2 y sc' B8;exact⟨x,by unfold bz;rw[h1];rfl,h2⟩
 refine⟨fun t e he => ?_,⟨fun y sc' hy => ?_,fun y y' b hy Ak h1 h2 => ?_⟩,fun y hy zX zc => ?_,fun y b hy zX hb => ?_,hr.ib,hr.ii,hr.aW,hr.size,hr.defers⟩
 ·have he:(xD r r' s.env).get t=some e:=he;rw[As] at he;cases h0:s.env.get t with
  |none=>rw[h0] at he;cases he
  |some e0 =>
   rw[h0] at he;injection he with he;subst he
   exact Mo e0 _ (hr.env t e0 h0)
 ·obtain⟨x,sc,h1,h2,h3⟩:=g2 y sc' hy;subst h2;subst h3;have vh:bz s.aP x:=by unfold bz;rw[h1];rfl
  obtain⟨k1,k2⟩:=hr.aP.1 x sc h1;refine⟨?_,fun b hb=>k2 b (by rw[←hβ x vh];exact hb)⟩;rw[gS];rcases k1 with ⟨c1,c2⟩|⟨b,arr,el,c1,c2,c3⟩
  ·exact .inl ⟨by rw[hβ x vh];exact c1,by rw[c2];rfl⟩
  ·refine .inr ⟨b,arr,el,by rw[hβ x vh];exact c1,c2,fun j e he => ?_⟩;rw[abR] at he;cases h0:sc.oe[j]? with
   |none=>rw[h0] at he;cases he
   |some e0 =>
    rw[h0] at he;injection he with he;subst he
    obtain⟨u,d1,d2,d3⟩:=c3 j e0 h0;exact⟨u,d1,d2,Mo e0 u d3⟩
 ·obtain⟨x,hx,rfl⟩:=back y hy;obtain⟨x',uJ,rfl⟩:=back y' Ak;rw[hβ x hx] at h1;rw[hβ x' uJ] at h2;rw[hr.aP.2 x x' b hx uJ h1 h2]
 ·obtain⟨x,hx,rfl⟩:=back y hy;refine(hβ x hx).trans ?_;by_cases h1:x=r
  ·subst h1;rw[ub] at zX;exact absurd zX VK
  ·rw[ju h1] at zX zc ⊢;exact hr.par x hx zX zc
 ·obtain⟨x,hx,rfl⟩:=back y hy;have sG:β x=some b:=(hβ x hx).symm.trans hb;by_cases h1:x=r
  ·subst h1;by_cases hd:bz Γ.sin x
   ·exact hr.new x b hx (.inr (MS hd)) sG
   ·exact hr.new x b hx (.inl hd) sG
  ·rw[ju h1] at zX;exact hr.new x b hx zX sG
theorem rn(hs:∀r,bz Γ.sin r→Γ.n≤r){te:TE}(hr:Rel Γ s a w)(bc:kj Γ.n s te=some (s',ob))(cf:dW ob):Rel Γ s' a w:=by
 obtain⟨β,I,hr⟩:=hr;cases te with
 |bx _=>cases bc
 |Sb _ _ _ _=>cases bc
 |any _ _=>cases bc
 |dec _=>cases bc
 |auto=>cases bc
 |aW ts =>
  injection bc with bc;injection bc with h1 h2
  subst h1;exact⟨β,I,fun t e he=>hr.env t e (tf ts he),hr.aP,hr.par,hr.new,hr.ib,hr.ii,hr.aW,hr.size,hr.defers⟩
 |drop rs =>
  injection bc with bc;injection bc with h1 h2
  subst h1;exact⟨β,I,dh.cm rs hr⟩
 |jz t xs=>exact uI hs ⟨β,I,hr⟩ bc cf
 |Se r z=>simp[kj] at bc
 |Sc q k j xs=>simp[kj] at bc
 |Sd q k rows=>simp[kj] at bc
 |rel t j xs=>simp[kj] at bc
 |H0=>simp[kj] at bc
 |Ot=>simp[kj] at bc
 |Kp t d sz=>simp[kj] at bc
 |ord rs =>
  simp only[kj] at bc;cases hb:s.aP.all (fun x=>rs.contains x.1) with
  |false=>rw[hb] at bc;cases bc
  |true =>
   rw[hb] at bc;injection bc with bc;injection bc with h1 h2
   subst h1;refine Rel.IL (s:=s) ⟨fun _=>rfl,fun r => ?_⟩ ⟨β,I,hr⟩;show(pJ s.aP rs).get r=s.aP.get r;have key:∀r,(pJ s.aP rs).cD r=s.aP.cD r:=fun r=>by
    rw[rm];split
    ·rfl
    ·rename_i hn;cases hg:s.aP.cD r with
     |none=>rfl
     |some sc =>rw[abX] at hb;have:=hb _ (aY.lI hg);exact absurd (by simpa using this) hn
   unfold aY.get aY.hp;rw[key,key]
 |pH r r' =>
  simp only[kj] at bc;split at bc
  ·rename_i hn _;cases hb:(((Nat.blt r Γ.n||nP r)&&Nat.blt r 999999)&&Nat.blt r' Γ.n) with
   |false=>rw[hb] at bc;cases bc
   |true =>
    rw[hb] at bc;injection bc with bc;injection bc with h1 h2
    subst h1;rw[abK,abK,adq] at hb;have ZP:=hb.1.2
    replace hb:=And.intro hb.1.1 hb.2
    exact⟨_,I,hr.pH (abM ZP) (ac4 (abM hb.2) Γ.small) hn (fun h=>hb.1.elim (fun hb=>absurd (hs r h) (acT (abM hb))) (fun hb=>abM hb)) (fun h=>absurd (hs r' h) (acT (abM hb.2)))⟩
  ·cases bc
 |cut r k ps' =>
  simp only[kj] at bc;split at bc
  ·rename_i ps lB;injection bc with bc;injection bc with h1 h2
   subst h1;subst h2;have cf:ps.take k=ps':=cf;subst cf;have hL:∀x,bz s.aP x→bz (aY.set s.aP r (.pure (ps.take k))) x:=fun x hx=>gx.2 hx
   refine⟨β,I,fun t e he=>(hr.env t e he).mono (fun _ _=>rfl) hL (fun _ h=>h) (fun _ _ _=>rfl) (fun _ _ _ _=>rfl),⟨fun x sc hx => ?_,fun x y b hx hy=>hr.aP.2 x y b (gx.1 hx) (gx.1 hy)⟩,
    fun x hx=>hr.par x (gx.1 hx),fun x b hx=>hr.new x b (gx.1 hx),hr.ib,hr.ii,hr.aW,hr.size,hr.defers⟩
   have hx:(aY.set s.aP r (.pure (ps.take k))).get x=some sc:=hx;rw[aY.lE] at hx;by_cases B4:x=r∧r<999999
   ·obtain⟨rfl,JY⟩:=B4;rw[ac7 ⟨rfl,JY⟩,lB] at hx;simp only[Option.map_some,Option.some.injEq] at hx;subst hx;obtain⟨k1,k2⟩:=hr.aP.1 x _ lB;refine⟨?_,k2⟩;rcases k1 with ⟨c1,c2⟩|⟨b,arr,el,c1,c2,c3⟩
    ·have c2:ps.map EV.pv=[]:=c2;exact .inl ⟨c1,by show(ps.take k).map EV.pv=[];rw[adA,c2];simp⟩
    ·refine .inr ⟨b,arr,el,c1,c2,fun i e he => ?_⟩;have he:((ps.take k).map EV.pv)[i]? = some e:=he;rw[adA] at he;have cT:=(abL.1 he).1;rw[ac8] at cT;rw[aeg (by omega)] at he;obtain⟨u,d1,d2,d3⟩:=c3 i e he;exact⟨u,d1,d2,d3.mono (fun _ _=>rfl) hL (fun _ h=>h) (fun _ _ _=>rfl) (fun _ _ _ _=>rfl)⟩
   ·rw[ac3 B4] at hx;obtain⟨k1,k2⟩:=hr.aP.1 x sc hx;exact⟨k1.mono rfl (fun _ _=>rfl) (fun _ _=>rfl) hL (fun _ h=>h) (fun _ _ _=>rfl) (fun _ _ _ _=>rfl),k2⟩
  ·cases bc
 |wC q j xs =>
  simp only[kj] at bc;split at bc
  ·rename_i cells hq;split at bc
   ·rename_i r len sz hj;split at bc
    ·rename_i ps tg lB B2;cases hb:Nat.blt r Γ.n with
     |false=>simp[hb] at bc
     |true =>
      simp only[hb,cond_true] at bc;have MS:r<Γ.n:=abM hb;injection bc with bc;injection bc with h1 h2
      subst h1;subst h2;obtain⟨g1,cf⟩:=cf.cons;obtain⟨g2,g3⟩:=cf.cons;have HN:=(hr.aP.1 r _ lB).1;have we:bz s.aP r:=by unfold bz;rw[lB];rfl
      have EK:¬bz Γ.sin r:=fun h=>absurd (hs r h) (acT MS)
      have fin:∀I',(∀b,I b→I' b)→(∀b,β r=some b→I' b)→dh Γ (kill r s) a w β I'→Rel Γ ⟨(kill r s).env,aY.set (kill r s).aP q (.lit (setAt tg j (.pv (.list xs))))⟩ a w:=by
       intro I' hI IQ hk;have hL:∀x,bz (kill r s).aP x→bz (aY.set (kill r s).aP q (.lit (setAt tg j (.pv (.list xs))))) x:=fun x hx=>gx.2 hx
       refine⟨β,I',fun t e he=>(hk.env t e he).mono (fun _ _=>rfl) hL (fun _ h=>h) (fun _ _ _=>rfl) (fun _ _ _ _=>rfl),⟨fun x sc hx => ?_,fun x y b hx hy=>hk.aP.2 x y b (gx.1 hx) (gx.1 hy)⟩,
        fun x hx=>hk.par x (gx.1 hx),fun x b hx=>hk.new x b (gx.1 hx),hk.ib,hk.ii,hk.aW,hk.size,hk.defers⟩
       have hx:(aY.set (kill r s).aP q (.lit (setAt tg j (.pv (.list xs))))).get x=some sc:=hx;rw[aY.lE] at hx;by_cases hxq:x=q∧q<999999
       ·obtain⟨rfl,VM⟩:=hxq;rw[ac7 ⟨rfl,VM⟩,B2] at hx;simp only[Option.map_some,Option.some.injEq] at hx;subst hx;obtain⟨k1,k2⟩:=hk.aP.1 x _ B2;refine⟨?_,k2⟩;rcases k1 with ⟨c1,c2⟩|⟨b,arr,el,c1,c2,c3⟩
        ·have c2:tg=[]:=c2;exact .inl ⟨c1,by subst c2;rfl⟩
        ·refine .inr ⟨b,arr,el,c1,c2,fun i e he => ?_⟩;have he:(setAt tg j (.pv (.list xs)))[i]? = some e:=he;rw[xC] at he;by_cases DC:i=j
         ·subst DC;rw[ac7 rfl] at he;cases hc:tg[i]? with
          |none=>simp[hc] at he
          |some e' =>
           simp[hc] at he;subst he;obtain⟨u,d1,d2,_⟩:=c3 i e' hc;obtain⟨o1,o2⟩:=hr.aP.1 x _ hq;obtain⟨sO,el',p1,_,p3⟩:=o1.block c1;rw[c2] at p1;injection p1 with p1;injection p1 with p1 _
           subst p1;obtain⟨u',q1,_,q3⟩:=p3 i _ hj;have:u'=u:=by rw[d1] at q1;injection q1 with q1;exact q1.symm
           subst this;exact⟨u',d1,d2,wy q3 HN g1 g2 g3 hI IQ⟩
         ·rw[ac3 DC] at he;obtain⟨u,d1,d2,d3⟩:=c3 i e he;exact⟨u,d1,d2,d3.mono (fun _ _=>rfl) hL (fun _ h=>h) (fun _ _ _=>rfl) (fun _ _ _ _=>rfl)⟩
       ·rw[ac3 hxq] at hx;obtain⟨k1,k2⟩:=hk.aP.1 x sc hx;exact⟨k1.mono rfl (fun _ _=>rfl) (fun _ _=>rfl) hL (fun _ h=>h) (fun _ _ _=>rfl) (fun _ _ _ _=>rfl),k2⟩
      cases lA:β r with
      |none=>exact fin I (fun _ h=>h) (fun b fc=>by rw[lA] at fc;cases fc) (hr.kill r)
      |some b =>
       exact fin _ (fun _ h => .inl h) (fun b' fc=>by rw[lA] at fc;injection fc with fc;exact .inr fc.symm)
        ((hr.kill r).R5 (b:=b) ((hr.aP.1 r _ lB).2 b lA).1 (hr.new r b we (.inl EK) lA) (fun x hx e=>(fe.1 hx).2 (hr.aP.2 x r b (fe.1 hx).1 we e lA)))
    ·cases bc
   ·cases bc
  ·cases bc
 |r9 t d sz =>
  simp only[kj] at bc;split at bc
  ·rename_i he hd;cases hb:(Nat.blt d Γ.n&&Nat.blt t Γ.n) with
   |false=>simp[hb] at bc
   |true =>
    simp only[hb,cond_true] at bc;simp only[Bool.and_eq_true] at hb;have uG:d<Γ.n:=abM hb.1;injection bc with bc;injection bc with h1 h2
    subst h1;have zk:¬bz s.aP d:=by unfold bz;rw[hd];simp
    have EK:¬bz Γ.sin d:=fun h=>absurd (hs d h) (acT uG)
    have hv:Rd I w .aT (a.tmps.getD t undef):=hr.env t _ he;have qX:d<999999:=ac4 uG Γ.small;have h2:=hr.site (d:=d) (sc := .pure []) qX zk EK (β':=fun x=>if x=d then none else β x) (fun x hx=>ac3 hx) (fun b fc=>by simp at fc) (.inl ⟨by simp,rfl⟩);refine⟨_,_,h2.Ps ⟨(ei qX).2 (.inl rfl),.inl ⟨by simp,rfl,?_⟩⟩⟩;generalize a.tmps.getD t undef=v at hv;cases hv;rfl
  ·cases bc
 |oJ q j d sz =>
  simp only[kj] at bc;split at bc
  ·rename_i cells hq hd;split at bc
   ·rename_i hj;cases hb:Nat.blt d Γ.n with
    |false=>simp[hb] at bc
    |true =>
     simp only[hb,cond_true] at bc;have uG:d<Γ.n:=abM hb;injection bc with bc;injection bc with h1 h2
     subst h1;have zk:¬bz s.aP d:=by unfold bz;rw[hd];simp
     have EK:¬bz Γ.sin d:=fun h=>absurd (hs d h) (acT uG)
     have qX:d<999999:=ac4 uG Γ.small;have hk:=hr.site (d:=d) (sc := .pure []) qX zk EK (β':=fun x=>if x=d then none else β x) (fun x hx=>ac3 hx) (fun b fc=>by simp at fc) (.inl ⟨by simp,rfl⟩);have Yu:q≠d:=fun e=>by subst e;rw[hq] at hd;cases hd
     have hL:∀x,bz ((d,SC.pure [])::s.aP) x→bz ((d,SC.pure [])::aY.set s.aP q (.lit (setAt cells j (.row d 0 0 sz)))) x:=fun x hx=>by
      rcases(ei qX).1 hx with hx|hx
      ·exact(ei qX).2 (.inl hx)
      ·exact(ei qX).2 (.inr (gx.2 hx))
     have Ut:∀x,bz ((d,SC.pure [])::aY.set s.aP q (.lit (setAt cells j (.row d 0 0 sz)))) x→bz ((d,SC.pure [])::s.aP) x:=fun x hx=>by
      rcases(ei qX).1 hx with hx|hx
      ·exact(ei qX).2 (.inl hx)
      ·exact(ei qX).2 (.inr (gx.1 hx))
     refine⟨_,I,fun t e he=>(hk.env t e he).mono (fun _ _=>rfl) hL (fun _ h=>h) (fun _ _ _=>rfl) (fun _ _ _ _=>rfl),⟨fun x sc hx => ?_,fun x y b hx hy=>hk.aP.2 x y b (Ut x hx) (Ut y hy)⟩,
      fun x hx=>hk.par x (Ut x hx),fun x b hx=>hk.new x b (Ut x hx),hk.ib,hk.ii,hk.aW,hk.size,hk.defers⟩
     by_cases hxq:x=q∧q<999999
     ·obtain⟨rfl,VM⟩:=hxq;have hx:aY.get ((d,SC.pure [])::aY.set s.aP x (.lit (setAt cells j (.row d 0 0 sz)))) x=some sc:=hx;rw[aY.fg qX,gm (Ne.symm Yu),ac1,aY.lE,ac7 ⟨rfl,VM⟩,hq] at hx;simp only[Option.map_some,Option.some.injEq] at hx;subst hx;obtain⟨k1,k2⟩:=hk.aP.1 x (.lit cells) (by show aY.get ((d,SC.pure [])::s.aP) x=_;rw[aY.fg qX,gm (Ne.symm Yu),ac1];exact hq);refine⟨?_,k2⟩;rcases k1 with ⟨c1,c2⟩|⟨b,arr,el,c1,c2,c3⟩
      ·have c2:cells=[]:=c2;exact .inl ⟨c1,by subst c2;rfl⟩
      ·refine .inr ⟨b,arr,el,c1,c2,fun i e he => ?_⟩;have he:(setAt cells j (.row d 0 0 sz))[i]? = some e:=he;rw[xC] at he;by_cases DC:i=j
       ·subst DC;rw[ac7 rfl,hj] at he;simp only[Option.map_some,Option.some.injEq] at he;subst he;obtain⟨u,d1,d2,d3⟩:=c3 i _ hj;have d3:Rd I w .aT u:=d3;refine⟨u,d1,d2,hL _ ((ei qX).2 (.inl rfl)),.inl ⟨by simp,rfl,?_⟩⟩;cases d3;rfl
       ·rw[ac3 DC] at he;obtain⟨u,d1,d2,d3⟩:=c3 i e he;exact⟨u,d1,d2,d3.mono (fun _ _=>rfl) hL (fun _ h=>h) (fun _ _ _=>rfl) (fun _ _ _ _=>rfl)⟩
     ·have EX:aY.get ((d,SC.pure [])::s.aP) x=some sc:=by
       have hx:aY.get ((d,SC.pure [])::aY.set s.aP q (.lit (setAt cells j (.row d 0 0 sz)))) x=some sc:=hx;rw[aY.fg qX] at hx ⊢;cases Jz:Nat.beq d x with
       |true=>simpa[Jz] using hx
       |false =>simp only[Jz,cond_false] at hx ⊢;rw[aY.lE,ac3 hxq] at hx;exact hx
      obtain⟨k1,k2⟩:=hk.aP.1 x sc EX;exact⟨k1.mono rfl (fun _ _=>rfl) (fun _ _=>rfl) hL (fun _ h=>h) (fun _ _ _=>rfl) (fun _ _ _ _=>rfl),k2⟩
   ·cases bc
  ·cases bc
end
end Go.Proofs.YtneklnlpgfeplaaGreat.Sym
