/- Lemmas for the statements of this seat. -/
import Derived.Test.YtcpnocgollpbhaaGreatDoorW15
namespace Go.Proofs.YtcpnocgollpbhaaGreatDoor.Sym
open Go Go.RowKit
inductive TE where
 |aR (hs:List Hint)
 |ZG (fl hd:List Nat) (tl:List Nat) (hs:List Hint)
 |any (fl:List Nat) (hs:List Hint)
 |dec (d:Bool)
 |auto
 |aH (ts:List Nat)
 |drop (rs:List Nat)
 |fF (t:Nat) (xs:List (List PV))
 |Ue (q j:Nat) (xs:List (List PV))
 |lL (t d sz:Nat)
 |JH (q j d sz:Nat)
 |cut (r k:Nat) (ps:List PV)
 |rJ (r r':Nat)
 |ord (rs:List Nat)
 |rel (t j:Nat) (xs:List (Option (List PV)))
 |KX
 |SV
 |Ot (t d sz:Nat)
 |WL (q k j:Nat) (xs:List (Option (List PV)))
 |WM (q k:Nat) (rows:List (List PV))
 |WN (r z:Nat)
def ur(env:Env):List Nat→Env
 |[]=>[]
 |t::ts=>match env.get t with
  |some e=>(t,e)::ur env ts
  |none=>ur env ts
theorem tE{env:Env}{t:Nat}{e:EV} : ∀(ts:List Nat),(ur env ts).get t=some e→env.get t=some e
 |[],h=>by simp[ur,Env.get] at h
 |t'::ts,h=>by
  unfold ur at h;split at h
  ·rename_i e' gQ;simp only[Env.get] at h;cases hb:Nat.beq t' t with
   |true =>have:t'=t:=ag0 hb;subst this;simp only[hb,cond_true] at h;rw[gQ];exact h
   |false =>simp only[hb,cond_false] at h;exact tE ts h
  ·exact tE ts h
def setAt:List EV→Nat→EV→List EV
 |[],_,_=>[]
 |_::r,0,e=>e::r
 |x::r,n+1,e=>x::setAt r n e
theorem yy:∀(l:List EV) (n:Nat) (e:EV) (j:Nat),(setAt l n e)[j]? = if j=n then (l[j]?).map (fun _=>e) else l[j]?
 |[],n,e,j=>by simp[setAt]
 |x::r,0,e,j=>by
  cases j with
  |zero=>simp[setAt]
  |succ j=>simp[setAt]
 |x::r,n+1,e,j=>by
  cases j with
  |zero=>simp[setAt]
  |succ j=>simp[setAt,yy r n e j]
def od(r r' x:Nat):Nat:=bif Nat.beq x r then r' else x
def FE.rJ(r r':Nat):FE→FE
 |.pv p => .pv p
 |.row x o l z => .row (od r r' x) o l z
 |.ji j l z => .ji j l z
def zw(r r':Nat):EV→EV
 |.mW fs => .mW (fs.map (FE.rJ r r'))
 |.ptr x o => .ptr (od r r' x) o
 |.row x o l z => .row (od r r' x) o l z
 |.oy x o l z ps => .oy (od r r' x) o l z ps
 |.Av f x => .Av f (od r r' x)
 |e=>e
def xe(r r':Nat):SC→SC
 |.lit cs => .lit (cs.map (zw r r'))
 |sc=>sc
def yz(r r':Nat):Env→Env
 |[]=>[]
 |(t,e)::env=>(t,zw r r' e)::yz r r' env
def kD(r r':Nat):aS→aS
 |[]=>[]
 |(x,sc)::aG=>(od r r' x,xe r r' sc)::kD r r' aG
def pU(aG:aS):List Nat→aS
 |[]=>[]
 |r::rs=>match aG.ej r with
  |some sc=>(r,sc)::pU aG rs
  |none=>pU aG rs
theorem r6(aG:aS):∀(rs:List Nat) (r:Nat),(pU aG rs).ej r=if r∈rs then aG.ej r else none
 |[],r=>by simp[pU,aS.ej]
 |q::rs,r=>by
  simp only[pU];cases hq:aG.ej q with
  |none =>
   simp only[r6 aG rs r];by_cases h:r=q
   ·subst h;simp[hq]
   ·simp[h]
  |some sc =>
   simp only[aS.ej];cases hb:Nat.beq q r with
   |true =>have:q=r:=ag0 hb;subst this;simp[hq]
   |false =>
    have h:r≠q:=by intro e;subst e;simp at hb
    simp[r6 aG rs r,h]
def lj(n:Nat)(s:St):TE→Option (St×List Prop)
 |.aH ts=>some (⟨ur s.env ts,s.aG⟩,[])
 |.drop rs=>some (fG rs s,[])
 |.ord rs=>bif s.aG.all (fun x=>rs.contains x.1) then some (⟨s.env,pU s.aG rs⟩,[]) else none
 |.fF t xs=>Az n t xs s
 |.rJ r r'=>match s.aG.get r',s.aG.get r with
  |none,some _=>bif ((Nat.blt r n||vJ r)&&Nat.blt r 999999)&&Nat.blt r' n then some (⟨yz r r' s.env,kD r r' s.aG⟩,[]) else none
  |_,_=>none
 |.cut r k ps'=>match s.aG.get r with
  |some (.pure ps)=>some (⟨s.env,aS.set s.aG r (.pure ps')⟩,[ps.take k=ps'])
  |_=>none
 |.Ue q j xs=>match s.aG.get q with
  |some (.lit cells)=>match cells[j]? with
   |some (.row r 0 len sz)=>match s.aG.get r,(kill r s).aG.get q with
    |some (.pure ps),some (.lit tF)=>bif Nat.blt r n then
      some (⟨(kill r s).env,aS.set (kill r s).aG q (.lit (setAt tF j (.pv (.list xs))))⟩,[len=xs.length,ps=xs.flatten,∀row∈xs,row.length=sz]) else none
    |_,_=>none
   |_=>none
  |_=>none
 |.lL t d sz=>match s.env.get t,s.aG.get d with
  |some (.pv .dX),none=>bif Nat.blt d n&&Nat.blt t n then some (⟨(t,.row d 0 0 sz)::s.env,(d,.pure [])::s.aG⟩,[]) else none
  |_,_=>none
 |.JH q j d sz=>match s.aG.get q,s.aG.get d with
  |some (.lit cells),none=>match cells[j]? with
   |some (.pv .dX)=>bif Nat.blt d n then some (⟨s.env,(d,.pure [])::aS.set s.aG q (.lit (setAt cells j (.row d 0 0 sz)))⟩,[]) else none
   |_=>none
  |_,_=>none
 |_=>none
section
variable {P:Program} {T:kL} {Γ:Ctx} {s s':St} {a:Act} {w:World} {β:Nat→Option Nat} {I:Nat→Prop} {ob:List Prop}
theorem BC(r r':Nat):∀(env:Env) (t:Nat),(yz r r' env).get t=(env.get t).map (zw r r')
 |[],t=>rfl
 |(t',e)::env,t=>by
  simp only[yz,Env.get];cases Nat.beq t' t with
  |true=>rfl
  |false=>exact BC r r' env t
theorem BD(n:Nat):Nat.beq n n=true:=aiD n
theorem uu{r r':Nat} : od r r' r=r':=by unfold od;rw[BD];rfl
theorem jE{r r' x:Nat}(h:x≠r):od r r' x=x:=by unfold od;rw[ig h];rfl
theorem zx(r r':Nat):∀(aG:aS),aG.ej r'=none→(∀x sc,aG.ej x=some sc→(kD r r' aG).ej (od r r' x)=some (xe r r' sc))∧(∀y sc',(kD r r' aG).ej y=some sc'→∃x sc,aG.ej x=some sc∧y=od r r' x∧sc'=xe r r' sc)
 |[],_=>⟨fun x sc h=>by simp[aS.ej] at h,fun y sc' h=>by simp[kD,aS.ej] at h⟩
 |(x0,KT)::aG,hn=>by
  have Ou:x0≠r':=fun e=>by subst e;simp[aS.ej] at hn
  have WO:aS.ej aG r'=none:=by simpa[aS.ej,ig Ou] using hn
  obtain⟨ih1,ZH⟩:=zx r r' aG WO;have inj:∀x,x≠r'→od r r' x0=od r r' x→x0=x:=by
   intro x hx h;by_cases h1:x0=r
   ·by_cases h2:x=r
    ·rw[h1,h2]
    ·rw[h1,uu,jE h2] at h;exact absurd h.symm hx
   ·by_cases h2:x=r
    ·rw[h2,uu,jE h1] at h;exact absurd h Ou
    ·rw[jE h1,jE h2] at h;exact h
  refine⟨fun x sc h => ?_,fun y sc' h => ?_⟩
  ·have DB:x≠r':=fun e=>by subst e;rw[hn] at h;cases h
   simp only[aS.ej] at h;simp only[kD,aS.ej];by_cases SW:x0=x
   ·subst SW;rw[BD] at h ⊢;injection h with h;subst h;rfl
   ·rw[ig SW] at h;rw[ig (fun e=>SW (inj x DB e))];exact ih1 x sc h
  ·simp only[kD,aS.ej] at h;by_cases hy:od r r' x0=y
   ·subst hy;rw[BD] at h;injection h with h
    exact⟨x0,KT,by simp[aS.ej],rfl,h.symm⟩
   ·rw[ig hy] at h;obtain⟨x,sc,h1,h2,h3⟩:=ZH y sc' h;have SW:x0≠x:=fun e=>by subst e;exact hy h2.symm
    exact⟨x,sc,by simp only[aS.ej];rw[ig SW];exact h1,h2,h3⟩
theorem Ef{r r':Nat}(hr:r<999999)(dI:r'<999999):∀(aG:aS),(kD r r' aG).ej 999999=(aG.ej 999999).map (xe r r')
 |[]=>rfl
 |(x0,KT)::aG=>by
  simp only[kD,aS.ej,Ef hr dI aG];by_cases h:x0=r
  ·subst h;rw[uu,ig (by omega),ig (by omega)];rfl
  ·rw[jE h];cases Nat.beq x0 999999<;>rfl
theorem JI(r r':Nat)(hr:r<999999)(dI:r'<999999)(aG:aS)(hn:aG.get r'=none):(∀x sc,aG.get x=some sc→(kD r r' aG).get (od r r' x)=some (xe r r' sc))∧(∀y sc',(kD r r' aG).get y=some sc'→∃x sc,aG.get x=some sc∧y=od r r' x∧sc'=xe r r' sc):=by
 rw[aS.k8 dI] at hn;obtain⟨g1,g2⟩:=zx r r' aG hn;have hhp:(kD r r' aG).hp=aG.hp:=by
  unfold aS.hp;rw[Ef hr dI aG];cases aG.ej 999999 with
  |none=>rfl
  |some sc=>cases sc<;>rfl
 have ZI:∀x,x<999999→od r r' x<999999:=fun x hx=>by
  by_cases h:x=r
  ·subst h;rw[uu];exact dI
  ·rw[jE h];exact hx
 have WQ:∀j,od r r' (hc j)=hc j:=fun j=>jE (by unfold hc;omega)
 refine⟨fun x sc h => ?_,fun y sc' h => ?_⟩
 ·rcases Hg x with hx|rfl|⟨j,rfl⟩
  ·rw[aS.k8 hx] at h;rw[aS.k8 (ZI x hx)];exact g1 x sc h
  ·rw[aS.gY] at h;cases h
  ·rw[aS.lX] at h;rw[WQ,aS.lX,hhp,h];unfold rR at h;split at h
   ·injection h with h;subst h;rfl
   ·cases h
 ·rcases Hg y with hy|rfl|⟨j,rfl⟩
  ·rw[aS.k8 hy] at h;obtain⟨x,sc,h1,h2,h3⟩:=g2 y sc' h;have hx:x<999999:=by
    by_cases hx:x=r
    ·rw[hx];exact hr
    ·rw[jE hx] at h2;omega
   exact⟨x,sc,by rw[aS.k8 hx];exact h1,h2,h3⟩
  ·rw[aS.gY] at h;cases h
  ·rw[aS.lX,hhp] at h;refine⟨hc j,sc',by rw[aS.lX];exact h,(WQ j).symm,?_⟩;unfold rR at h;split at h
   ·injection h with h;subst h;rfl
   ·cases h
theorem df.rJ{r r':Nat}(N7:r<999999)(ZJ:r'<999999)(hr:df Γ s a w β I)(hn:s.aG.get r'=none)(Rc:bB Γ.sin r→gv r)(ZK:¬bB Γ.sin r') :
  df Γ ⟨yz r r' s.env,kD r r' s.aG⟩ a w (fun x=>if x=r' then β r else β x) I:=by
 obtain⟨g1,g2⟩:=JI r r' N7 ZJ s.aG hn;have hd:∀x,bB s.aG x→bB (kD r r' s.aG) (od r r' x):=fun x hx=>by obtain⟨sc,oP⟩:=agk.1 hx;unfold bB;rw[g1 x sc oP];rfl
 have hβ:∀x,bB s.aG x→(fun x=>if x=r' then β r else β x) (od r r' x)=β x:=fun x hx=>by
  by_cases h1:x=r
  ·subst h1;rw[uu];simp
  ·have h2:x≠r':=fun e=>by subst e;unfold bB at hx;rw[hn] at hx;cases hx
   rw[jE h1];simp[h2]
 have SN:∀e v,RE β (bB s.aG) I w e v→RE (fun x=>if x=r' then β r else β x) (bB (kD r r' s.aG)) I w (zw r r' e) v:=by
  intro e v h;cases e with
  |pv p=>exact h
  |ptr x off=>exact⟨hd x h.1,by rw[hβ x h.1];exact h.2⟩
  |row x off len sz=>exact⟨hd x h.1,by rw[hβ x h.1];exact h.2⟩
  |Av f x=>exact⟨hd x h.1,by rw[hβ x h.1];exact h.2⟩
  |oy x off len sz ps =>obtain⟨us,g1,g2,⟨u,g3,g4,Yz⟩,g5⟩:=h;exact⟨us,g1,g2,⟨u,g3,hd x g4,by rw[hβ x g4];exact Yz⟩,g5⟩
  |mW fs =>
   obtain⟨us,g1,g2,g3⟩:=h;refine⟨us,g1,by rw[afW];exact g2,fun j f u h1 h2 => ?_⟩;rw[afT] at h1;obtain⟨f0,hf0,rfl⟩:=ahq.1 h1;have h3:=g3 j f0 u hf0 h2;cases f0 with
   |pv p=>exact h3
   |row x off len sz=>exact⟨hd x h3.1,by rw[hβ x h3.1];exact h3.2⟩
   |ji j len sz =>have hj:od r r' (hc j)=hc j:=jE (by unfold hc;omega);have h4:=hd (hc j) h3.1;have h5:=hβ (hc j) h3.1;rw[hj] at h4 h5;exact⟨h4,by rw[h5];exact h3.2⟩
  |ox c=>exact h
  |dead=>exact h
  |ji j len sz =>have hj:od r r' (hc j)=hc j:=jE (by unfold hc;omega);have h1:=hd (hc j) h.1;have h2:=hβ (hc j) h.1;rw[hj] at h1 h2;exact⟨h1,by rw[h2];exact h.2⟩
  |n7 j off =>have hj:od r r' (hc j)=hc j:=jE (by unfold hc;omega);have h1:=hd (hc j) h.1;have h2:=hβ (hc j) h.1;rw[hj] at h1 h2;exact⟨h1,by rw[h2];exact h.2⟩
 have oP:∀sc:SC,(xe r r' sc).rI=sc.rI.map (zw r r'):=fun sc=>by
  cases sc with
  |lit cs=>rfl
  |pure ps=>show ps.map EV.pv=(ps.map EV.pv).map (zw r r');rw[aia];rfl
  |heap xs=>rfl
  |Jl hs sz=>simp[xe,SC.rI,zw]
  |Jm hs sz=>simp[xe,SC.rI,NU,List.map_flatMap,zw]
 have back:∀y,bB (kD r r' s.aG) y→∃x,bB s.aG x∧y=od r r' x:=fun y hy=>by obtain⟨sc',MC⟩:=agk.1 hy;obtain⟨x,sc,h1,h2,_⟩:=g2 y sc' MC;exact⟨x,by unfold bB;rw[h1];rfl,h2⟩
 refine⟨fun t e he => ?_,⟨fun y sc' hy => ?_,fun y y' b hy Jc h1 h2 => ?_⟩,fun y hy wL SR => ?_,fun y b hy wL hb => ?_,hr.ib,hr.ii,hr.aH,hr.size,hr.defers⟩
 ·have he:(yz r r' s.env).get t=some e:=he;rw[BC] at he;cases h0:s.env.get t with
  |none=>rw[h0] at he;cases he
  |some e0 =>
   rw[h0] at he;injection he with he;subst he
   exact SN e0 _ (hr.env t e0 h0)
 ·obtain⟨x,sc,h1,h2,h3⟩:=g2 y sc' hy;subst h2;subst h3;have Ja:bB s.aG x:=by unfold bB;rw[h1];rfl
  obtain⟨k1,k2⟩:=hr.aG.1 x sc h1;refine⟨?_,fun b hb=>k2 b (by rw[←hβ x Ja];exact hb)⟩;rw[oP];rcases k1 with ⟨c1,c2⟩|⟨b,arr,el,c1,c2,c3⟩
  ·exact .inl ⟨by rw[hβ x Ja];exact c1,by rw[c2];rfl⟩
  ·refine .inr ⟨b,arr,el,by rw[hβ x Ja];exact c1,c2,fun j e he => ?_⟩;rw[afT] at he;cases h0:sc.rI[j]? with
   |none=>rw[h0] at he;cases he
   |some e0 =>
    rw[h0] at he;injection he with he;subst he
    obtain⟨u,d1,d2,d3⟩:=c3 j e0 h0;exact⟨u,d1,d2,SN e0 u d3⟩
 ·obtain⟨x,hx,rfl⟩:=back y hy;obtain⟨x',x6,rfl⟩:=back y' Jc;rw[hβ x hx] at h1;rw[hβ x' x6] at h2;rw[hr.aG.2 x x' b hx x6 h1 h2]
 ·obtain⟨x,hx,rfl⟩:=back y hy;refine(hβ x hx).trans ?_;by_cases h1:x=r
  ·subst h1;rw[uu] at wL;exact absurd wL ZK
  ·rw[jE h1] at wL SR ⊢;exact hr.par x hx wL SR
 ·obtain⟨x,hx,rfl⟩:=back y hy;have s7:β x=some b:=(hβ x hx).symm.trans hb;by_cases h1:x=r
  ·subst h1;by_cases hd:bB Γ.sin x
   ·exact hr.new x b hx (.inr (Rc hd)) s7
   ·exact hr.new x b hx (.inl hd) s7
  ·rw[jE h1] at wL;exact hr.new x b hx wL s7
theorem Fp(hs:∀r,bB Γ.sin r→Γ.n≤r){te:TE}(hr:Rel Γ s a w)(aK:lj Γ.n s te=some (s',ob))(bT:dK ob):Rel Γ s' a w:=by
 obtain⟨β,I,hr⟩:=hr;cases te with
 |aR _=>cases aK
 |ZG _ _ _ _=>cases aK
 |any _ _=>cases aK
 |dec _=>cases aK
 |auto=>cases aK
 |aH ts =>
  injection aK with aK;injection aK with h1 h2
  subst h1;exact⟨β,I,fun t e he=>hr.env t e (tE ts he),hr.aG,hr.par,hr.new,hr.ib,hr.ii,hr.aH,hr.size,hr.defers⟩
 |drop rs =>
  injection aK with aK;injection aK with h1 h2
  subst h1;exact⟨β,I,df.fG rs hr⟩
 |fF t xs=>exact vh hs ⟨β,I,hr⟩ aK bT
 |WN r z=>simp[lj] at aK
 |WL q k j xs=>simp[lj] at aK
 |WM q k rows=>simp[lj] at aK
 |rel t j xs=>simp[lj] at aK
 |KX=>simp[lj] at aK
 |SV=>simp[lj] at aK
 |Ot t d sz=>simp[lj] at aK
 |ord rs =>
  simp only[lj] at aK;cases hb:s.aG.all (fun x=>rs.contains x.1) with
  |false=>rw[hb] at aK;cases aK
  |true =>
   rw[hb] at aK;injection aK with aK;injection aK with h1 h2
   subst h1;refine Rel.Rb (s:=s) ⟨fun _=>rfl,fun r => ?_⟩ ⟨β,I,hr⟩;show(pU s.aG rs).get r=s.aG.get r;have key:∀r,(pU s.aG rs).ej r=s.aG.ej r:=fun r=>by
    rw[r6];split
    ·rfl
    ·rename_i hn;cases hg:s.aG.ej r with
     |none=>rfl
     |some sc =>rw[agy] at hb;have:=hb _ (aS.xb hg);exact absurd (by simpa using this) hn
   unfold aS.get aS.hp;rw[key,key]
 |rJ r r' =>
  simp only[lj] at aK;split at aK
  ·rename_i hn _;cases hb:(((Nat.blt r Γ.n||vJ r)&&Nat.blt r 999999)&&Nat.blt r' Γ.n) with
   |false=>rw[hb] at aK;cases aK
   |true =>
    rw[hb] at aK;injection aK with aK;injection aK with h1 h2
    subst h1;rw[afX,afX,aid] at hb;have hb9:=hb.1.2
    replace hb:=And.intro hb.1.1 hb.2
    exact⟨_,I,hr.rJ (afS hb9) (agA (afS hb.2) Γ.small) hn (fun h=>hb.1.elim (fun hb=>absurd (hs r h) (ahC (afS hb))) (fun hb=>afS hb)) (fun h=>absurd (hs r' h) (ahC (afS hb.2)))⟩
  ·cases aK
 |cut r k ps' =>
  simp only[lj] at aK;split at aK
  ·rename_i ps oz;injection aK with aK;injection aK with h1 h2
   subst h1;subst h2;have bT:ps.take k=ps':=bT;subst bT;have hL:∀x,bB s.aG x→bB (aS.set s.aG r (.pure (ps.take k))) x:=fun x hx=>gE.2 hx
   refine⟨β,I,fun t e he=>(hr.env t e he).mono (fun _ _=>rfl) hL (fun _ h=>h) (fun _ _ _=>rfl) (fun _ _ _ _=>rfl),⟨fun x sc hx => ?_,fun x y b hx hy=>hr.aG.2 x y b (gE.1 hx) (gE.1 hy)⟩,
    fun x hx=>hr.par x (gE.1 hx),fun x b hx=>hr.new x b (gE.1 hx),hr.ib,hr.ii,hr.aH,hr.size,hr.defers⟩
   have hx:(aS.set s.aG r (.pure (ps.take k))).get x=some sc:=hx;rw[aS.l8] at hx;by_cases DB:x=r∧r<999999
   ·obtain⟨rfl,N7⟩:=DB;rw[ag9 ⟨rfl,N7⟩,oz] at hx;simp only[Option.map_some,Option.some.injEq] at hx;subst hx;obtain⟨k1,k2⟩:=hr.aG.1 x _ oz;refine⟨?_,k2⟩;rcases k1 with ⟨c1,c2⟩|⟨b,arr,el,c1,c2,c3⟩
    ·have c2:ps.map EV.pv=[]:=c2;exact .inl ⟨c1,by show(ps.take k).map EV.pv=[];rw[ahP,c2];simp⟩
    ·refine .inr ⟨b,arr,el,c1,c2,fun i e he => ?_⟩;have he:((ps.take k).map EV.pv)[i]? = some e:=he;rw[ahP] at he;have bH:=(afQ.1 he).1;rw[agh] at bH;rw[List.getElem?_take_of_lt (by omega)] at he;obtain⟨u,d1,d2,d3⟩:=c3 i e he;exact⟨u,d1,d2,d3.mono (fun _ _=>rfl) hL (fun _ h=>h) (fun _ _ _=>rfl) (fun _ _ _ _=>rfl)⟩
   ·rw[ag7 DB] at hx;obtain⟨k1,k2⟩:=hr.aG.1 x sc hx;exact⟨k1.mono rfl (fun _ _=>rfl) (fun _ _=>rfl) hL (fun _ h=>h) (fun _ _ _=>rfl) (fun _ _ _ _=>rfl),k2⟩
  ·cases aK
 |Ue q j xs =>
  simp only[lj] at aK;split at aK
  ·rename_i cells hq;split at aK
   ·rename_i r len sz hj;split at aK
    ·rename_i ps tF oz uv;cases hb:Nat.blt r Γ.n with
     |false=>simp[hb] at aK
     |true =>
      simp only[hb,cond_true] at aK;have Rc:r<Γ.n:=afS hb;injection aK with aK;injection aK with h1 h2
      subst h1;subst h2;obtain⟨g1,bT⟩:=bT.cons;obtain⟨g2,g3⟩:=bT.cons;have KP:=(hr.aG.1 r _ oz).1;have yi:bB s.aG r:=by unfold bB;rw[oz];rfl
      have Hw:¬bB Γ.sin r:=fun h=>absurd (hs r h) (ahC Rc)
      have fin:∀I',(∀b,I b→I' b)→(∀b,β r=some b→I' b)→df Γ (kill r s) a w β I'→Rel Γ ⟨(kill r s).env,aS.set (kill r s).aG q (.lit (setAt tF j (.pv (.list xs))))⟩ a w:=by
       intro I' hI Zu hk;have hL:∀x,bB (kill r s).aG x→bB (aS.set (kill r s).aG q (.lit (setAt tF j (.pv (.list xs))))) x:=fun x hx=>gE.2 hx
       refine⟨β,I',fun t e he=>(hk.env t e he).mono (fun _ _=>rfl) hL (fun _ h=>h) (fun _ _ _=>rfl) (fun _ _ _ _=>rfl),⟨fun x sc hx => ?_,fun x y b hx hy=>hk.aG.2 x y b (gE.1 hx) (gE.1 hy)⟩,
        fun x hx=>hk.par x (gE.1 hx),fun x b hx=>hk.new x b (gE.1 hx),hk.ib,hk.ii,hk.aH,hk.size,hk.defers⟩
       have hx:(aS.set (kill r s).aG q (.lit (setAt tF j (.pv (.list xs))))).get x=some sc:=hx;rw[aS.l8] at hx;by_cases hxq:x=q∧q<999999
       ·obtain⟨rfl,ZL⟩:=hxq;rw[ag9 ⟨rfl,ZL⟩,uv] at hx;simp only[Option.map_some,Option.some.injEq] at hx;subst hx;obtain⟨k1,k2⟩:=hk.aG.1 x _ uv;refine⟨?_,k2⟩;rcases k1 with ⟨c1,c2⟩|⟨b,arr,el,c1,c2,c3⟩
        ·have c2:tF=[]:=c2;exact .inl ⟨c1,by subst c2;rfl⟩
        ·refine .inr ⟨b,arr,el,c1,c2,fun i e he => ?_⟩;have he:(setAt tF j (.pv (.list xs)))[i]? = some e:=he;rw[yy] at he;by_cases AB:i=j
         ·subst AB;rw[ag9 rfl] at he;cases hc:tF[i]? with
          |none=>simp[hc] at he
          |some e' =>
           simp[hc] at he;subst he;obtain⟨u,d1,d2,_⟩:=c3 i e' hc;obtain⟨o1,o2⟩:=hr.aG.1 x _ hq;obtain⟨tq,el',p1,_,p3⟩:=o1.block c1;rw[c2] at p1;injection p1 with p1;injection p1 with p1 _
           subst p1;obtain⟨u',q1,_,q3⟩:=p3 i _ hj;have:u'=u:=by rw[d1] at q1;injection q1 with q1;exact q1.symm
           subst this;exact⟨u',d1,d2,Bt q3 KP g1 g2 g3 hI Zu⟩
         ·rw[ag7 AB] at he;obtain⟨u,d1,d2,d3⟩:=c3 i e he;exact⟨u,d1,d2,d3.mono (fun _ _=>rfl) hL (fun _ h=>h) (fun _ _ _=>rfl) (fun _ _ _ _=>rfl)⟩
       ·rw[ag7 hxq] at hx;obtain⟨k1,k2⟩:=hk.aG.1 x sc hx;exact⟨k1.mono rfl (fun _ _=>rfl) (fun _ _=>rfl) hL (fun _ h=>h) (fun _ _ _=>rfl) (fun _ _ _ _=>rfl),k2⟩
      cases ot:β r with
      |none=>exact fin I (fun _ h=>h) (fun b fw=>by rw[ot] at fw;cases fw) (hr.kill r)
      |some b =>
       exact fin _ (fun _ h => .inl h) (fun b' fw=>by rw[ot] at fw;injection fw with fw;exact .inr fw.symm)
        ((hr.kill r).WD (b:=b) ((hr.aG.1 r _ oz).2 b ot).1 (hr.new r b yi (.inl Hw) ot) (fun x hx e=>(eV.1 hx).2 (hr.aG.2 x r b (eV.1 hx).1 yi e ot)))
    ·cases aK
   ·cases aK
  ·cases aK
 |lL t d sz =>
  simp only[lj] at aK;split at aK
  ·rename_i he hd;cases hb:(Nat.blt d Γ.n&&Nat.blt t Γ.n) with
   |false=>simp[hb] at aK
   |true =>
    simp only[hb,cond_true] at aK;simp only[Bool.and_eq_true] at hb;have vf:d<Γ.n:=afS hb.1;injection aK with aK;injection aK with h1 h2
    subst h1;have Ay:¬bB s.aG d:=by unfold bB;rw[hd];simp
    have Hw:¬bB Γ.sin d:=fun h=>absurd (hs d h) (ahC vf)
    have hv:Rd I w .dX (a.tmps.getD t undef):=hr.env t _ he;have s8:d<999999:=agA vf Γ.small;have h2:=hr.site (d:=d) (sc := .pure []) s8 Ay Hw (β':=fun x=>if x=d then none else β x) (fun x hx=>ag7 hx) (fun b fw=>by simp at fw) (.inl ⟨by simp,rfl⟩);refine⟨_,_,h2.Ub ⟨(dL s8).2 (.inl rfl),.inl ⟨by simp,rfl,?_⟩⟩⟩;generalize a.tmps.getD t undef=v at hv;cases hv;rfl
  ·cases aK
 |JH q j d sz =>
  simp only[lj] at aK;split at aK
  ·rename_i cells hq hd;split at aK
   ·rename_i hj;cases hb:Nat.blt d Γ.n with
    |false=>simp[hb] at aK
    |true =>
     simp only[hb,cond_true] at aK;have vf:d<Γ.n:=afS hb;injection aK with aK;injection aK with h1 h2
     subst h1;have Ay:¬bB s.aG d:=by unfold bB;rw[hd];simp
     have Hw:¬bB Γ.sin d:=fun h=>absurd (hs d h) (ahC vf)
     have s8:d<999999:=agA vf Γ.small;have hk:=hr.site (d:=d) (sc := .pure []) s8 Ay Hw (β':=fun x=>if x=d then none else β x) (fun x hx=>ag7 hx) (fun b fw=>by simp at fw) (.inl ⟨by simp,rfl⟩);have hdq:q≠d:=fun e=>by subst e;rw[hq] at hd;cases hd
     have hL:∀x,bB ((d,SC.pure [])::s.aG) x→bB ((d,SC.pure [])::aS.set s.aG q (.lit (setAt cells j (.row d 0 0 sz)))) x:=fun x hx=>by
      rcases(dL s8).1 hx with hx|hx
      ·exact(dL s8).2 (.inl hx)
      ·exact(dL s8).2 (.inr (gE.2 hx))
     have YH:∀x,bB ((d,SC.pure [])::aS.set s.aG q (.lit (setAt cells j (.row d 0 0 sz)))) x→bB ((d,SC.pure [])::s.aG) x:=fun x hx=>by
      rcases(dL s8).1 hx with hx|hx
      ·exact(dL s8).2 (.inl hx)
      ·exact(dL s8).2 (.inr (gE.1 hx))
     refine⟨_,I,fun t e he=>(hk.env t e he).mono (fun _ _=>rfl) hL (fun _ h=>h) (fun _ _ _=>rfl) (fun _ _ _ _=>rfl),⟨fun x sc hx => ?_,fun x y b hx hy=>hk.aG.2 x y b (YH x hx) (YH y hy)⟩,
      fun x hx=>hk.par x (YH x hx),fun x b hx=>hk.new x b (YH x hx),hk.ib,hk.ii,hk.aH,hk.size,hk.defers⟩
     by_cases hxq:x=q∧q<999999
     ·obtain⟨rfl,ZL⟩:=hxq;have hx:aS.get ((d,SC.pure [])::aS.set s.aG x (.lit (setAt cells j (.row d 0 0 sz)))) x=some sc:=hx;rw[aS.kM s8,ig (Ne.symm hdq),agf,aS.l8,ag9 ⟨rfl,ZL⟩,hq] at hx;simp only[Option.map_some,Option.some.injEq] at hx;subst hx;obtain⟨k1,k2⟩:=hk.aG.1 x (.lit cells) (by show aS.get ((d,SC.pure [])::s.aG) x=_;rw[aS.kM s8,ig (Ne.symm hdq),agf];exact hq);refine⟨?_,k2⟩;rcases k1 with ⟨c1,c2⟩|⟨b,arr,el,c1,c2,c3⟩
      ·have c2:cells=[]:=c2;exact .inl ⟨c1,by subst c2;rfl⟩
      ·refine .inr ⟨b,arr,el,c1,c2,fun i e he => ?_⟩;have he:(setAt cells j (.row d 0 0 sz))[i]? = some e:=he;rw[yy] at he;by_cases AB:i=j
       ·subst AB;rw[ag9 rfl,hj] at he;simp only[Option.map_some,Option.some.injEq] at he;subst he;obtain⟨u,d1,d2,d3⟩:=c3 i _ hj;have d3:Rd I w .dX u:=d3;refine⟨u,d1,d2,hL _ ((dL s8).2 (.inl rfl)),.inl ⟨by simp,rfl,?_⟩⟩;cases d3;rfl
       ·rw[ag7 AB] at he;obtain⟨u,d1,d2,d3⟩:=c3 i e he;exact⟨u,d1,d2,d3.mono (fun _ _=>rfl) hL (fun _ h=>h) (fun _ _ _=>rfl) (fun _ _ _ _=>rfl)⟩
     ·have Ov:aS.get ((d,SC.pure [])::s.aG) x=some sc:=by
       have hx:aS.get ((d,SC.pure [])::aS.set s.aG q (.lit (setAt cells j (.row d 0 0 sz)))) x=some sc:=hx;rw[aS.kM s8] at hx ⊢;cases hbx:Nat.beq d x with
       |true=>simpa[hbx] using hx
       |false =>simp only[hbx,cond_false] at hx ⊢;rw[aS.l8,ag7 hxq] at hx;exact hx
      obtain⟨k1,k2⟩:=hk.aG.1 x sc Ov;exact⟨k1.mono rfl (fun _ _=>rfl) (fun _ _=>rfl) hL (fun _ h=>h) (fun _ _ _=>rfl) (fun _ _ _ _=>rfl),k2⟩
   ·cases aK
  ·cases aK
end
end Go.Proofs.YtcpnocgollpbhaaGreatDoor.Sym
