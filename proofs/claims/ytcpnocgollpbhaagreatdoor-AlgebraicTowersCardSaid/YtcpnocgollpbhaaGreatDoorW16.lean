/- Lemmas for the statements of this seat. -/
import Derived.Test.YtcpnocgollpbhaaGreatDoorW15
namespace Go.Proofs.YtcpnocgollpbhaaGreatDoor.Sym
open Go Go.RowKit
inductive TE where
 |aR (hs:List Hint)
 |ZI (fl hd:List Nat) (tl:List Nat) (hs:List Hint)
 |any (fl:List Nat) (hs:List Hint)
 |dec (d:Bool)
 |auto
 |aG (ts:List Nat)
 |drop (rs:List Nat)
 |dH (t:Nat) (xs:List (List PV))
 |UK (q j:Nat) (xs:List (List PV))
 |iK (t d sz:Nat)
 |Kq (q j d sz:Nat)
 |cut (r k:Nat) (ps:List PV)
 |pn (r r':Nat)
 |ord (rs:List Nat)
 |rel (t j:Nat) (xs:List (Option (List PV)))
 |LH
 |Tq
 |O2 (t d sz:Nat)
 |W7 (q k j:Nat) (xs:List (Option (List PV)))
 |W8 (q k:Nat) (rows:List (List PV))
 |W9 (r z:Nat)
def vm(env:Env):List Nat→Env
 |[]=>[]
 |t::ts=>match env.get t with
  |some e=>(t,e)::vm env ts
  |none=>vm env ts
theorem uw{env:Env}{t:Nat}{e:EV} : ∀(ts:List Nat),(vm env ts).get t=some e→env.get t=some e
 |[],h=>by simp[vm,Env.get] at h
 |t'::ts,h=>by
  unfold vm at h;split at h
  ·rename_i e' iu;simp only[Env.get] at h;cases hb:Nat.beq t' t with
   |true =>have:t'=t:=afB hb;subst this;simp only[hb,cond_true] at h;rw[iu];exact h
   |false =>simp only[hb,cond_false] at h;exact uw ts h
  ·exact uw ts h
def setAt:List EV→Nat→EV→List EV
 |[],_,_=>[]
 |_::r,0,e=>e::r
 |x::r,n+1,e=>x::setAt r n e
theorem zU:∀(l:List EV) (n:Nat) (e:EV) (j:Nat),(setAt l n e)[j]? = if j=n then (l[j]?).map (fun _=>e) else l[j]?
 |[],n,e,j=>by simp[setAt]
 |x::r,0,e,j=>by
  cases j with
  |zero=>simp[setAt]
  |succ j=>simp[setAt]
 |x::r,n+1,e,j=>by
  cases j with
  |zero=>simp[setAt]
  |succ j=>simp[setAt,zU r n e j]
def oI(r r' x:Nat):Nat:=bif Nat.beq x r then r' else x
def FE.pn(r r':Nat):FE→FE
 |.pv p => .pv p
 |.row x o l z => .row (oI r r' x) o l z
 |.jB j l z => .jB j l z
def AM(r r':Nat):EV→EV
 |.nC fs => .nC (fs.map (FE.pn r r'))
 |.ptr x o => .ptr (oI r r' x) o
 |.row x o l z => .row (oI r r' x) o l z
 |.oZ x o l z ps => .oZ (oI r r' x) o l z ps
 |.BI f x => .BI f (oI r r' x)
 |e=>e
def yc(r r':Nat):SC→SC
 |.lit cs => .lit (cs.map (AM r r'))
 |sc=>sc
def zV(r r':Nat):Env→Env
 |[]=>[]
 |(t,e)::env=>(t,AM r r' e)::zV r r' env
def kU(r r':Nat):aT→aT
 |[]=>[]
 |(x,sc)::aK=>(oI r r' x,yc r r' sc)::kU r r' aK
def qO(aK:aT):List Nat→aT
 |[]=>[]
 |r::rs=>match aK.eF r with
  |some sc=>(r,sc)::qO aK rs
  |none=>qO aK rs
theorem sS(aK:aT):∀(rs:List Nat) (r:Nat),(qO aK rs).eF r=if r∈rs then aK.eF r else none
 |[],r=>by simp[qO,aT.eF]
 |q::rs,r=>by
  simp only[qO];cases hq:aK.eF q with
  |none =>
   simp only[sS aK rs r];by_cases h:r=q
   ·subst h;simp[hq]
   ·simp[h]
  |some sc =>
   simp only[aT.eF];cases hb:Nat.beq q r with
   |true =>have:q=r:=afB hb;subst this;simp[hq]
   |false =>
    have h:r≠q:=by intro e;subst e;simp at hb
    simp[sS aK rs r,h]
def lP(n:Nat)(s:St):TE→Option (St×List Prop)
 |.aG ts=>some (⟨vm s.env ts,s.aK⟩,[])
 |.drop rs=>some (fR rs s,[])
 |.ord rs=>bif s.aK.all (fun x=>rs.contains x.1) then some (⟨s.env,qO s.aK rs⟩,[]) else none
 |.dH t xs=>BM n t xs s
 |.pn r r'=>match s.aK.get r',s.aK.get r with
  |none,some _=>bif ((Nat.blt r n||wo r)&&Nat.blt r 999999)&&Nat.blt r' n then some (⟨zV r r' s.env,kU r r' s.aK⟩,[]) else none
  |_,_=>none
 |.cut r k ps'=>match s.aK.get r with
  |some (.pure ps)=>some (⟨s.env,aT.set s.aK r (.pure ps')⟩,[ps.take k=ps'])
  |_=>none
 |.UK q j xs=>match s.aK.get q with
  |some (.lit cells)=>match cells[j]? with
   |some (.row r 0 len sz)=>match s.aK.get r,(kill r s).aK.get q with
    |some (.pure ps),some (.lit ux)=>bif Nat.blt r n then
      some (⟨(kill r s).env,aT.set (kill r s).aK q (.lit (setAt ux j (.pv (.list xs))))⟩,[len=xs.length,ps=xs.flatten,∀row∈xs,row.length=sz]) else none
    |_,_=>none
   |_=>none
  |_=>none
 |.iK t d sz=>match s.env.get t,s.aK.get d with
  |some (.pv .ek),none=>bif Nat.blt d n&&Nat.blt t n then some (⟨(t,.row d 0 0 sz)::s.env,(d,.pure [])::s.aK⟩,[]) else none
  |_,_=>none
 |.Kq q j d sz=>match s.aK.get q,s.aK.get d with
  |some (.lit cells),none=>match cells[j]? with
   |some (.pv .ek)=>bif Nat.blt d n then some (⟨s.env,(d,.pure [])::aT.set s.aK q (.lit (setAt cells j (.row d 0 0 sz)))⟩,[]) else none
   |_=>none
  |_,_=>none
 |_=>none
section
variable {P:Program} {T:lh} {Γ:Ctx} {s s':St} {a:Act} {w:World} {β:Nat→Option Nat} {I:Nat→Prop} {ob:List Prop}
theorem CS(r r':Nat):∀(env:Env) (t:Nat),(zV r r' env).get t=(env.get t).map (AM r r')
 |[],t=>rfl
 |(t',e)::env,t=>by
  simp only[zV,Env.get];cases Nat.beq t' t with
  |true=>rfl
  |false=>exact CS r r' env t
theorem CT(n:Nat):Nat.beq n n=true:=aif n
theorem vn{r r':Nat} : oI r r' r=r':=by unfold oI;rw[CT];rfl
theorem jV{r r' x:Nat}(h:x≠r):oI r r' x=x:=by unfold oI;rw[iJ h];rfl
theorem AN(r r':Nat):∀(aK:aT),aK.eF r'=none→(∀x sc,aK.eF x=some sc→(kU r r' aK).eF (oI r r' x)=some (yc r r' sc))∧(∀y sc',(kU r r' aK).eF y=some sc'→∃x sc,aK.eF x=some sc∧y=oI r r' x∧sc'=yc r r' sc)
 |[],_=>⟨fun x sc h=>by simp[aT.eF] at h,fun y sc' h=>by simp[kU,aT.eF] at h⟩
 |(x0,LC)::aK,hn=>by
  have O3:x0≠r':=fun e=>by subst e;simp[aT.eF] at hn
  have Xa:aT.eF aK r'=none:=by simpa[aT.eF,iJ O3] using hn
  obtain⟨ih1,Xb⟩:=AN r r' aK Xa;have inj:∀x,x≠r'→oI r r' x0=oI r r' x→x0=x:=by
   intro x hx h;by_cases h1:x0=r
   ·by_cases h2:x=r
    ·rw[h1,h2]
    ·rw[h1,vn,jV h2] at h;exact absurd h.symm hx
   ·by_cases h2:x=r
    ·rw[h2,vn,jV h1] at h;exact absurd h O3
    ·rw[jV h1,jV h2] at h;exact h
  refine⟨fun x sc h => ?_,fun y sc' h => ?_⟩
  ·have EA:x≠r':=fun e=>by subst e;rw[hn] at h;cases h
   simp only[aT.eF] at h;simp only[kU,aT.eF];by_cases Tr:x0=x
   ·subst Tr;rw[CT] at h ⊢;injection h with h;subst h;rfl
   ·rw[iJ Tr] at h;rw[iJ (fun e=>Tr (inj x EA e))];exact ih1 x sc h
  ·simp only[kU,aT.eF] at h;by_cases hy:oI r r' x0=y
   ·subst hy;rw[CT] at h;injection h with h
    exact⟨x0,LC,by simp[aT.eF],rfl,h.symm⟩
   ·rw[iJ hy] at h;obtain⟨x,sc,h1,h2,h3⟩:=Xb y sc' h;have Tr:x0≠x:=fun e=>by subst e;exact hy h2.symm
    exact⟨x,sc,by simp only[aT.eF];rw[iJ Tr];exact h1,h2,h3⟩
theorem Fa{r r':Nat}(hr:r<999999)(dS:r'<999999):∀(aK:aT),(kU r r' aK).eF 999999=(aK.eF 999999).map (yc r r')
 |[]=>rfl
 |(x0,LC)::aK=>by
  simp only[kU,aT.eF,Fa hr dS aK];by_cases h:x0=r
  ·subst h;rw[vn,iJ (by omega),iJ (by omega)];rfl
  ·rw[jV h];cases Nat.beq x0 999999<;>rfl
theorem Kr(r r':Nat)(hr:r<999999)(dS:r'<999999)(aK:aT)(hn:aK.get r'=none):(∀x sc,aK.get x=some sc→(kU r r' aK).get (oI r r' x)=some (yc r r' sc))∧(∀y sc',(kU r r' aK).get y=some sc'→∃x sc,aK.get x=some sc∧y=oI r r' x∧sc'=yc r r' sc):=by
 rw[aT.lM dS] at hn;obtain⟨g1,g2⟩:=AN r r' aK hn;have hhp:(kU r r' aK).hp=aK.hp:=by
  unfold aT.hp;rw[Fa hr dS aK];cases aK.eF 999999 with
  |none=>rfl
  |some sc=>cases sc<;>rfl
 have ZJ:∀x,x<999999→oI r r' x<999999:=fun x hx=>by
  by_cases h:x=r
  ·subst h;rw[vn];exact dS
  ·rw[jV h];exact hx
 have Xc:∀j,oI r r' (hc j)=hc j:=fun j=>jV (by unfold hc;omega)
 refine⟨fun x sc h => ?_,fun y sc' h => ?_⟩
 ·rcases HX x with hx|rfl|⟨j,rfl⟩
  ·rw[aT.lM hx] at h;rw[aT.lM (ZJ x hx)];exact g1 x sc h
  ·rw[aT.iC] at h;cases h
  ·rw[aT.mm] at h;rw[Xc,aT.mm,hhp,h];unfold sL at h;split at h
   ·injection h with h;subst h;rfl
   ·cases h
 ·rcases HX y with hy|rfl|⟨j,rfl⟩
  ·rw[aT.lM hy] at h;obtain⟨x,sc,h1,h2,h3⟩:=g2 y sc' h;have hx:x<999999:=by
    by_cases hx:x=r
    ·rw[hx];exact hr
    ·rw[jV hx] at h2;omega
   exact⟨x,sc,by rw[aT.lM hx];exact h1,h2,h3⟩
  ·rw[aT.iC] at h;cases h
  ·rw[aT.mm,hhp] at h;refine⟨hc j,sc',by rw[aT.mm];exact h,(Xc j).symm,?_⟩;unfold sL at h;split at h
   ·injection h with h;subst h;rfl
   ·cases h
theorem dz.pn{r r':Nat}(OK:r<999999)(ZK:r'<999999)(hr:dz Γ s a w β I)(hn:s.aK.get r'=none)(RO:bK Γ.sin r→gv r)(ZL:¬bK Γ.sin r') :
  dz Γ ⟨zV r r' s.env,kU r r' s.aK⟩ a w (fun x=>if x=r' then β r else β x) I:=by
 obtain⟨g1,g2⟩:=Kr r r' OK ZK s.aK hn;have hd:∀x,bK s.aK x→bK (kU r r' s.aK) (oI r r' x):=fun x hx=>by obtain⟨sc,pk⟩:=afS.1 hx;unfold bK;rw[g1 x sc pk];rfl
 have hβ:∀x,bK s.aK x→(fun x=>if x=r' then β r else β x) (oI r r' x)=β x:=fun x hx=>by
  by_cases h1:x=r
  ·subst h1;rw[vn];simp
  ·have h2:x≠r':=fun e=>by subst e;unfold bK at hx;rw[hn] at hx;cases hx
   rw[jV h1];simp[h2]
 have Tj:∀e v,RE β (bK s.aK) I w e v→RE (fun x=>if x=r' then β r else β x) (bK (kU r r' s.aK)) I w (AM r r' e) v:=by
  intro e v h;cases e with
  |pv p=>exact h
  |ptr x off=>exact⟨hd x h.1,by rw[hβ x h.1];exact h.2⟩
  |row x off len sz=>exact⟨hd x h.1,by rw[hβ x h.1];exact h.2⟩
  |BI f x=>exact⟨hd x h.1,by rw[hβ x h.1];exact h.2⟩
  |oZ x off len sz ps =>obtain⟨us,g1,g2,⟨u,g3,g4,YG⟩,g5⟩:=h;exact⟨us,g1,g2,⟨u,g3,hd x g4,by rw[hβ x g4];exact YG⟩,g5⟩
  |nC fs =>
   obtain⟨us,g1,g2,g3⟩:=h;refine⟨us,g1,by rw[afq];exact g2,fun j f u h1 h2 => ?_⟩;rw[afu] at h1;obtain⟨f0,hf0,rfl⟩:=ah4.1 h1;have h3:=g3 j f0 u hf0 h2;cases f0 with
   |pv p=>exact h3
   |row x off len sz=>exact⟨hd x h3.1,by rw[hβ x h3.1];exact h3.2⟩
   |jB j len sz =>have hj:oI r r' (hc j)=hc j:=jV (by unfold hc;omega);have h4:=hd (hc j) h3.1;have h5:=hβ (hc j) h3.1;rw[hj] at h4 h5;exact⟨h4,by rw[h5];exact h3.2⟩
  |oY c=>exact h
  |dead=>exact h
  |jB j len sz =>have hj:oI r r' (hc j)=hc j:=jV (by unfold hc;omega);have h1:=hd (hc j) h.1;have h2:=hβ (hc j) h.1;rw[hj] at h1 h2;exact⟨h1,by rw[h2];exact h.2⟩
  |oD j off =>have hj:oI r r' (hc j)=hc j:=jV (by unfold hc;omega);have h1:=hd (hc j) h.1;have h2:=hβ (hc j) h.1;rw[hj] at h1 h2;exact⟨h1,by rw[h2];exact h.2⟩
 have pk:∀sc:SC,(yc r r' sc).sG=sc.sG.map (AM r r'):=fun sc=>by
  cases sc with
  |lit cs=>rfl
  |pure ps=>show ps.map EV.pv=(ps.map EV.pv).map (AM r r');rw[ahT];rfl
  |heap xs=>rfl
  |J3 hs sz=>simp[yc,SC.sG,AM]
  |J4 hs sz=>simp[yc,SC.sG,Oz,List.map_flatMap,AM]
 have back:∀y,bK (kU r r' s.aK) y→∃x,bK s.aK x∧y=oI r r' x:=fun y hy=>by obtain⟨sc',Nh⟩:=afS.1 hy;obtain⟨x,sc,h1,h2,_⟩:=g2 y sc' Nh;exact⟨x,by unfold bK;rw[h1];rfl,h2⟩
 refine⟨fun t e he => ?_,⟨fun y sc' hy => ?_,fun y y' b hy JS h1 h2 => ?_⟩,fun y hy xU Tn => ?_,fun y b hy xU hb => ?_,hr.ib,hr.ii,hr.aG,hr.size,hr.defers⟩
 ·have he:(zV r r' s.env).get t=some e:=he;rw[CS] at he;cases h0:s.env.get t with
  |none=>rw[h0] at he;cases he
  |some e0 =>
   rw[h0] at he;injection he with he;subst he
   exact Tj e0 _ (hr.env t e0 h0)
 ·obtain⟨x,sc,h1,h2,h3⟩:=g2 y sc' hy;subst h2;subst h3;have JQ:bK s.aK x:=by unfold bK;rw[h1];rfl
  obtain⟨k1,k2⟩:=hr.aK.1 x sc h1;refine⟨?_,fun b hb=>k2 b (by rw[←hβ x JQ];exact hb)⟩;rw[pk];rcases k1 with ⟨c1,c2⟩|⟨b,arr,el,c1,c2,c3⟩
  ·exact .inl ⟨by rw[hβ x JQ];exact c1,by rw[c2];rfl⟩
  ·refine .inr ⟨b,arr,el,by rw[hβ x JQ];exact c1,c2,fun j e he => ?_⟩;rw[afu] at he;cases h0:sc.sG[j]? with
   |none=>rw[h0] at he;cases he
   |some e0 =>
    rw[h0] at he;injection he with he;subst he
    obtain⟨u,d1,d2,d3⟩:=c3 j e0 h0;exact⟨u,d1,d2,Tj e0 u d3⟩
 ·obtain⟨x,hx,rfl⟩:=back y hy;obtain⟨x',zt,rfl⟩:=back y' JS;rw[hβ x hx] at h1;rw[hβ x' zt] at h2;rw[hr.aK.2 x x' b hx zt h1 h2]
 ·obtain⟨x,hx,rfl⟩:=back y hy;refine(hβ x hx).trans ?_;by_cases h1:x=r
  ·subst h1;rw[vn] at xU;exact absurd xU ZL
  ·rw[jV h1] at xU Tn ⊢;exact hr.par x hx xU Tn
 ·obtain⟨x,hx,rfl⟩:=back y hy;have tS:β x=some b:=(hβ x hx).symm.trans hb;by_cases h1:x=r
  ·subst h1;by_cases hd:bK Γ.sin x
   ·exact hr.new x b hx (.inr (RO hd)) tS
   ·exact hr.new x b hx (.inl hd) tS
  ·rw[jV h1] at xU;exact hr.new x b hx xU tS
theorem Gk(hs:∀r,bK Γ.sin r→Γ.n≤r){te:TE}(hr:Rel Γ s a w)(aO:lP Γ.n s te=some (s',ob))(cv:dX ob):Rel Γ s' a w:=by
 obtain⟨β,I,hr⟩:=hr;cases te with
 |aR _=>cases aO
 |ZI _ _ _ _=>cases aO
 |any _ _=>cases aO
 |dec _=>cases aO
 |auto=>cases aO
 |aG ts =>
  injection aO with aO;injection aO with h1 h2
  subst h1;exact⟨β,I,fun t e he=>hr.env t e (uw ts he),hr.aK,hr.par,hr.new,hr.ib,hr.ii,hr.aG,hr.size,hr.defers⟩
 |drop rs =>
  injection aO with aO;injection aO with h1 h2
  subst h1;exact⟨β,I,dz.fR rs hr⟩
 |dH t xs=>exact wk hs ⟨β,I,hr⟩ aO cv
 |W9 r z=>simp[lP] at aO
 |W7 q k j xs=>simp[lP] at aO
 |W8 q k rows=>simp[lP] at aO
 |rel t j xs=>simp[lP] at aO
 |LH=>simp[lP] at aO
 |Tq=>simp[lP] at aO
 |O2 t d sz=>simp[lP] at aO
 |ord rs =>
  simp only[lP] at aO;cases hb:s.aK.all (fun x=>rs.contains x.1) with
  |false=>rw[hb] at aO;cases aO
  |true =>
   rw[hb] at aO;injection aO with aO;injection aO with h1 h2
   subst h1;refine Rel.RN (s:=s) ⟨fun _=>rfl,fun r => ?_⟩ ⟨β,I,hr⟩;show(qO s.aK rs).get r=s.aK.get r;have key:∀r,(qO s.aK rs).eF r=s.aK.eF r:=fun r=>by
    rw[sS];split
    ·rfl
    ·rename_i hn;cases hg:s.aK.eF r with
     |none=>rfl
     |some sc =>rw[agb] at hb;have:=hb _ (aT.x9 hg);exact absurd (by simpa using this) hn
   unfold aT.get aT.hp;rw[key,key]
 |pn r r' =>
  simp only[lP] at aO;split at aO
  ·rename_i hn _;cases hb:(((Nat.blt r Γ.n||wo r)&&Nat.blt r 999999)&&Nat.blt r' Γ.n) with
   |false=>rw[hb] at aO;cases aO
   |true =>
    rw[hb] at aO;injection aO with aO;injection aO with h1 h2
    subst h1;rw[afA,afA,ahK] at hb;have hb9:=hb.1.2
    replace hb:=And.intro hb.1.1 hb.2
    exact⟨_,I,hr.pn (afv hb9) (aga (afv hb.2) Γ.small) hn (fun h=>hb.1.elim (fun hb=>absurd (hs r h) (ahf (afv hb))) (fun hb=>afv hb)) (fun h=>absurd (hs r' h) (ahf (afv hb.2)))⟩
  ·cases aO
 |cut r k ps' =>
  simp only[lP] at aO;split at aO
  ·rename_i ps o0;injection aO with aO;injection aO with h1 h2
   subst h1;subst h2;have cv:ps.take k=ps':=cv;subst cv;have hL:∀x,bK s.aK x→bK (aT.set s.aK r (.pure (ps.take k))) x:=fun x hx=>gV.2 hx
   refine⟨β,I,fun t e he=>(hr.env t e he).mono (fun _ _=>rfl) hL (fun _ h=>h) (fun _ _ _=>rfl) (fun _ _ _ _=>rfl),⟨fun x sc hx => ?_,fun x y b hx hy=>hr.aK.2 x y b (gV.1 hx) (gV.1 hy)⟩,
    fun x hx=>hr.par x (gV.1 hx),fun x b hx=>hr.new x b (gV.1 hx),hr.ib,hr.ii,hr.aG,hr.size,hr.defers⟩
   have hx:(aT.set s.aK r (.pure (ps.take k))).get x=some sc:=hx;rw[aT.mw] at hx;by_cases EA:x=r∧r<999999
   ·obtain⟨rfl,OK⟩:=EA;rw[afI ⟨rfl,OK⟩,o0] at hx;simp only[Option.map_some,Option.some.injEq] at hx;subst hx;obtain⟨k1,k2⟩:=hr.aK.1 x _ o0;refine⟨?_,k2⟩;rcases k1 with ⟨c1,c2⟩|⟨b,arr,el,c1,c2,c3⟩
    ·have c2:ps.map EV.pv=[]:=c2;exact .inl ⟨c1,by show(ps.take k).map EV.pv=[];rw[ahh,c2];simp⟩
    ·refine .inr ⟨b,arr,el,c1,c2,fun i e he => ?_⟩;have he:((ps.take k).map EV.pv)[i]? = some e:=he;rw[ahh] at he;have dI:=(afs.1 he).1;rw[afK] at dI;rw[List.getElem?_take_of_lt (by omega)] at he;obtain⟨u,d1,d2,d3⟩:=c3 i e he;exact⟨u,d1,d2,d3.mono (fun _ _=>rfl) hL (fun _ h=>h) (fun _ _ _=>rfl) (fun _ _ _ _=>rfl)⟩
   ·rw[afG EA] at hx;obtain⟨k1,k2⟩:=hr.aK.1 x sc hx;exact⟨k1.mono rfl (fun _ _=>rfl) (fun _ _=>rfl) hL (fun _ h=>h) (fun _ _ _=>rfl) (fun _ _ _ _=>rfl),k2⟩
  ·cases aO
 |UK q j xs =>
  simp only[lP] at aO;split at aO
  ·rename_i cells hq;split at aO
   ·rename_i r len sz hj;split at aO
    ·rename_i ps ux o0 vo;cases hb:Nat.blt r Γ.n with
     |false=>simp[hb] at aO
     |true =>
      simp only[hb,cond_true] at aO;have RO:r<Γ.n:=afv hb;injection aO with aO;injection aO with h1 h2
      subst h1;subst h2;obtain⟨g1,cv⟩:=cv.cons;obtain⟨g2,g3⟩:=cv.cons;have Ly:=(hr.aK.1 r _ o0).1;have zH:bK s.aK r:=by unfold bK;rw[o0];rfl
      have Ie:¬bK Γ.sin r:=fun h=>absurd (hs r h) (ahf RO)
      have fin:∀I',(∀b,I b→I' b)→(∀b,β r=some b→I' b)→dz Γ (kill r s) a w β I'→Rel Γ ⟨(kill r s).env,aT.set (kill r s).aK q (.lit (setAt ux j (.pv (.list xs))))⟩ a w:=by
       intro I' hI Zw hk;have hL:∀x,bK (kill r s).aK x→bK (aT.set (kill r s).aK q (.lit (setAt ux j (.pv (.list xs))))) x:=fun x hx=>gV.2 hx
       refine⟨β,I',fun t e he=>(hk.env t e he).mono (fun _ _=>rfl) hL (fun _ h=>h) (fun _ _ _=>rfl) (fun _ _ _ _=>rfl),⟨fun x sc hx => ?_,fun x y b hx hy=>hk.aK.2 x y b (gV.1 hx) (gV.1 hy)⟩,
        fun x hx=>hk.par x (gV.1 hx),fun x b hx=>hk.new x b (gV.1 hx),hk.ib,hk.ii,hk.aG,hk.size,hk.defers⟩
       have hx:(aT.set (kill r s).aK q (.lit (setAt ux j (.pv (.list xs))))).get x=some sc:=hx;rw[aT.mw] at hx;by_cases hxq:x=q∧q<999999
       ·obtain⟨rfl,ZM⟩:=hxq;rw[afI ⟨rfl,ZM⟩,vo] at hx;simp only[Option.map_some,Option.some.injEq] at hx;subst hx;obtain⟨k1,k2⟩:=hk.aK.1 x _ vo;refine⟨?_,k2⟩;rcases k1 with ⟨c1,c2⟩|⟨b,arr,el,c1,c2,c3⟩
        ·have c2:ux=[]:=c2;exact .inl ⟨c1,by subst c2;rfl⟩
        ·refine .inr ⟨b,arr,el,c1,c2,fun i e he => ?_⟩;have he:(setAt ux j (.pv (.list xs)))[i]? = some e:=he;rw[zU] at he;by_cases AO:i=j
         ·subst AO;rw[afI rfl] at he;cases hc:ux[i]? with
          |none=>simp[hc] at he
          |some e' =>
           simp[hc] at he;subst he;obtain⟨u,d1,d2,_⟩:=c3 i e' hc;obtain⟨o1,o2⟩:=hr.aK.1 x _ hq;obtain⟨ug,el',p1,_,p3⟩:=o1.block c1;rw[c2] at p1;injection p1 with p1;injection p1 with p1 _
           subst p1;obtain⟨u',q1,_,q3⟩:=p3 i _ hj;have:u'=u:=by rw[d1] at q1;injection q1 with q1;exact q1.symm
           subst this;exact⟨u',d1,d2,CJ q3 Ly g1 g2 g3 hI Zw⟩
         ·rw[afG AO] at he;obtain⟨u,d1,d2,d3⟩:=c3 i e he;exact⟨u,d1,d2,d3.mono (fun _ _=>rfl) hL (fun _ h=>h) (fun _ _ _=>rfl) (fun _ _ _ _=>rfl)⟩
       ·rw[afG hxq] at hx;obtain⟨k1,k2⟩:=hk.aK.1 x sc hx;exact⟨k1.mono rfl (fun _ _=>rfl) (fun _ _=>rfl) hL (fun _ h=>h) (fun _ _ _=>rfl) (fun _ _ _ _=>rfl),k2⟩
      cases oQ:β r with
      |none=>exact fin I (fun _ h=>h) (fun b fG=>by rw[oQ] at fG;cases fG) (hr.kill r)
      |some b =>
       exact fin _ (fun _ h => .inl h) (fun b' fG=>by rw[oQ] at fG;injection fG with fG;exact .inr fG.symm)
        ((hr.kill r).W0 (b:=b) ((hr.aK.1 r _ o0).2 b oQ).1 (hr.new r b zH (.inl Ie) oQ) (fun x hx e=>(fk.1 hx).2 (hr.aK.2 x r b (fk.1 hx).1 zH e oQ)))
    ·cases aO
   ·cases aO
  ·cases aO
 |iK t d sz =>
  simp only[lP] at aO;split at aO
  ·rename_i he hd;cases hb:(Nat.blt d Γ.n&&Nat.blt t Γ.n) with
   |false=>simp[hb] at aO
   |true =>
    simp only[hb,cond_true] at aO;simp only[Bool.and_eq_true] at hb;have wi:d<Γ.n:=afv hb.1;injection aO with aO;injection aO with h1 h2
    subst h1;have BL:¬bK s.aK d:=by unfold bK;rw[hd];simp
    have Ie:¬bK Γ.sin d:=fun h=>absurd (hs d h) (ahf wi)
    have hv:Rd I w .ek (a.tmps.getD t undef):=hr.env t _ he;have tU:d<999999:=aga wi Γ.small;have h2:=hr.site (d:=d) (sc := .pure []) tU BL Ie (β':=fun x=>if x=d then none else β x) (fun x hx=>afG hx) (fun b fG=>by simp at fG) (.inl ⟨by simp,rfl⟩);refine⟨_,_,h2.UG ⟨(dY tU).2 (.inl rfl),.inl ⟨by simp,rfl,?_⟩⟩⟩;generalize a.tmps.getD t undef=v at hv;cases hv;rfl
  ·cases aO
 |Kq q j d sz =>
  simp only[lP] at aO;split at aO
  ·rename_i cells hq hd;split at aO
   ·rename_i hj;cases hb:Nat.blt d Γ.n with
    |false=>simp[hb] at aO
    |true =>
     simp only[hb,cond_true] at aO;have wi:d<Γ.n:=afv hb;injection aO with aO;injection aO with h1 h2
     subst h1;have BL:¬bK s.aK d:=by unfold bK;rw[hd];simp
     have Ie:¬bK Γ.sin d:=fun h=>absurd (hs d h) (ahf wi)
     have tU:d<999999:=aga wi Γ.small;have hk:=hr.site (d:=d) (sc := .pure []) tU BL Ie (β':=fun x=>if x=d then none else β x) (fun x hx=>afG hx) (fun b fG=>by simp at fG) (.inl ⟨by simp,rfl⟩);have hdq:q≠d:=fun e=>by subst e;rw[hq] at hd;cases hd
     have hL:∀x,bK ((d,SC.pure [])::s.aK) x→bK ((d,SC.pure [])::aT.set s.aK q (.lit (setAt cells j (.row d 0 0 sz)))) x:=fun x hx=>by
      rcases(dY tU).1 hx with hx|hx
      ·exact(dY tU).2 (.inl hx)
      ·exact(dY tU).2 (.inr (gV.2 hx))
     have YO:∀x,bK ((d,SC.pure [])::aT.set s.aK q (.lit (setAt cells j (.row d 0 0 sz)))) x→bK ((d,SC.pure [])::s.aK) x:=fun x hx=>by
      rcases(dY tU).1 hx with hx|hx
      ·exact(dY tU).2 (.inl hx)
      ·exact(dY tU).2 (.inr (gV.1 hx))
     refine⟨_,I,fun t e he=>(hk.env t e he).mono (fun _ _=>rfl) hL (fun _ h=>h) (fun _ _ _=>rfl) (fun _ _ _ _=>rfl),⟨fun x sc hx => ?_,fun x y b hx hy=>hk.aK.2 x y b (YO x hx) (YO y hy)⟩,
      fun x hx=>hk.par x (YO x hx),fun x b hx=>hk.new x b (YO x hx),hk.ib,hk.ii,hk.aG,hk.size,hk.defers⟩
     by_cases hxq:x=q∧q<999999
     ·obtain⟨rfl,ZM⟩:=hxq;have hx:aT.get ((d,SC.pure [])::aT.set s.aK x (.lit (setAt cells j (.row d 0 0 sz)))) x=some sc:=hx;rw[aT.lj tU,iJ (Ne.symm hdq),afP,aT.mw,afI ⟨rfl,ZM⟩,hq] at hx;simp only[Option.map_some,Option.some.injEq] at hx;subst hx;obtain⟨k1,k2⟩:=hk.aK.1 x (.lit cells) (by show aT.get ((d,SC.pure [])::s.aK) x=_;rw[aT.lj tU,iJ (Ne.symm hdq),afP];exact hq);refine⟨?_,k2⟩;rcases k1 with ⟨c1,c2⟩|⟨b,arr,el,c1,c2,c3⟩
      ·have c2:cells=[]:=c2;exact .inl ⟨c1,by subst c2;rfl⟩
      ·refine .inr ⟨b,arr,el,c1,c2,fun i e he => ?_⟩;have he:(setAt cells j (.row d 0 0 sz))[i]? = some e:=he;rw[zU] at he;by_cases AO:i=j
       ·subst AO;rw[afI rfl,hj] at he;simp only[Option.map_some,Option.some.injEq] at he;subst he;obtain⟨u,d1,d2,d3⟩:=c3 i _ hj;have d3:Rd I w .ek u:=d3;refine⟨u,d1,d2,hL _ ((dY tU).2 (.inl rfl)),.inl ⟨by simp,rfl,?_⟩⟩;cases d3;rfl
       ·rw[afG AO] at he;obtain⟨u,d1,d2,d3⟩:=c3 i e he;exact⟨u,d1,d2,d3.mono (fun _ _=>rfl) hL (fun _ h=>h) (fun _ _ _=>rfl) (fun _ _ _ _=>rfl)⟩
     ·have RW:aT.get ((d,SC.pure [])::s.aK) x=some sc:=by
       have hx:aT.get ((d,SC.pure [])::aT.set s.aK q (.lit (setAt cells j (.row d 0 0 sz)))) x=some sc:=hx;rw[aT.lj tU] at hx ⊢;cases hbx:Nat.beq d x with
       |true=>simpa[hbx] using hx
       |false =>simp only[hbx,cond_false] at hx ⊢;rw[aT.mw,afG hxq] at hx;exact hx
      obtain⟨k1,k2⟩:=hk.aK.1 x sc RW;exact⟨k1.mono rfl (fun _ _=>rfl) (fun _ _=>rfl) hL (fun _ h=>h) (fun _ _ _=>rfl) (fun _ _ _ _=>rfl),k2⟩
   ·cases aO
  ·cases aO
end
end Go.Proofs.YtcpnocgollpbhaaGreatDoor.Sym
