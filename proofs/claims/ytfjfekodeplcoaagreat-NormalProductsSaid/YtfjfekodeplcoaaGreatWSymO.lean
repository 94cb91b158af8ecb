/- Lemmas for the statements of this seat. -/
import Derived.Test.YtfjfekodeplcoaaGreatWSymN
namespace Go.Proofs.YtfjfekodeplcoaaGreat.Sym
open Go Go.RowKit
inductive TE where
 |aR (hs:List Hint)
 |RJ (fl hd:List Nat) (tl:List Nat) (hs:List Hint)
 |any (fl:List Nat) (hs:List Hint)
 |dec (d:Bool)
 |auto
 |aN (ts:List Nat)
 |drop (rs:List Nat)
 |lK (t:Nat) (xs:List (List PV))
 |xM (q j:Nat) (xs:List (List PV))
 |tj (t d sz:Nat)
 |nQ (q j d sz:Nat)
 |cut (r k:Nat) (ps:List PV)
 |EZ (r r':Nat)
 |ord (rs:List Nat)
 |rel (t j:Nat) (xs:List (Option (List PV)))
 |qp
 |Ij
 |yU (t d sz:Nat)
 |Ik (q k j:Nat) (xs:List (Option (List PV)))
 |Il (q k:Nat) (rows:List (List PV))
 |Im (r z:Nat)
def Io(es:List EV)(xs:List (Option (List PV)))(rows:List (List PV))(sz:Nat):Prop :=
 es.length=rows.flatten.length∧(∀row∈rows,row.length=sz)∧∀(k:Nat) e p,es[k]? = some e→rows.flatten[k]? = some p →
  e = .pv p∨∃(j:Nat) (rs:List (List PV)) (z:Nat),e = .cv j rs.length z∧xs[j]? = some (some rs.flatten)∧(∀c∈rs,c.length=z)∧p = .list rs
def su(env:Env):List Nat→Env
 |[]=>[]
 |t::ts=>match env.get t with
  |some e=>(t,e)::su env ts
  |none=>su env ts
theorem rU{env:Env}{t:Nat}{e:EV} : ∀(ts:List Nat),(su env ts).get t=some e→env.get t=some e
 |[],h=>by simp[su,Env.get] at h
 |t'::ts,h=>by
  unfold su at h
  split at h
  ·rename_i e' fj
   simp only[Env.get] at h
   cases hb:Nat.beq t' t with
   |true =>
    have:t'=t:=Nat.eq_of_beq_eq_true hb
    subst this
    simp only[hb,cond_true] at h
    rw[fj];exact h
   |false =>
    simp only[hb,cond_false] at h
    exact rU ts h
  ·exact rU ts h
def setAt:List EV→Nat→EV→List EV
 |[],_,_=>[]
 |_::r,0,e=>e::r
 |x::r,n+1,e=>x::setAt r n e
theorem sv:∀(l:List EV) (n:Nat) (e:EV) (j:Nat),(setAt l n e)[j]? = if j=n then (l[j]?).map (fun _=>e) else l[j]?
 |[],n,e,j=>by simp[setAt]
 |x::r,0,e,j=>by
  cases j with
  |zero=>simp[setAt]
  |succ j=>simp[setAt]
 |x::r,n+1,e,j=>by
  cases j with
  |zero=>simp[setAt]
  |succ j=>simp[setAt,sv r n e j]
def mP(r r' x:Nat):Nat:=bif Nat.beq x r then r' else x
def FE.EZ(r r':Nat):FE→FE
 |.pv p => .pv p
 |.row x o l z => .row (mP r r' x) o l z
 |.cv j l z => .cv j l z
def wW(r r':Nat):EV→EV
 |.dV fs => .dV (fs.map (FE.EZ r r'))
 |.ptr x o => .ptr (mP r r' x) o
 |.row x o l z => .row (mP r r' x) o l z
 |.kN x o l z ps => .kN (mP r r' x) o l z ps
 |.mM f x => .mM f (mP r r' x)
 |e=>e
def uT(r r':Nat):SC→SC
 |.lit cs => .lit (cs.map (wW r r'))
 |sc=>sc
def wh(r r':Nat):Env→Env
 |[]=>[]
 |(t,e)::env=>(t,wW r r' e)::wh r r' env
def jT(r r':Nat):aG→aG
 |[]=>[]
 |(x,sc)::sto=>(mP r r' x,uT r r' sc)::jT r r' sto
def oI(sto:aG):List Nat→aG
 |[]=>[]
 |r::rs=>match sto.cp r with
  |some sc=>(r,sc)::oI sto rs
  |none=>oI sto rs
theorem qv(sto:aG):∀(rs:List Nat) (r:Nat),(oI sto rs).cp r=if r∈rs then sto.cp r else none
 |[],r=>by simp[oI,aG.cp]
 |q::rs,r=>by
  simp only[oI]
  cases hq:sto.cp q with
  |none =>
   simp only[qv sto rs r]
   by_cases h:r=q
   ·subst h;simp[hq]
   ·simp[h]
  |some sc =>
   simp only[aG.cp]
   cases hb:Nat.beq q r with
   |true =>
    have:q=r:=Nat.eq_of_beq_eq_true hb
    subst this
    simp[hq]
   |false =>
    have h:r≠q:=by intro e;subst e;simp at hb
    simp[qv sto rs r,h]
def kX(n:Nat)(s:St):TE→Option (St×List Prop)
 |.aN ts=>some (⟨su s.env ts,s.sto⟩,[])
 |.drop rs=>some (fc rs s,[])
 |.ord rs=>bif s.sto.all (fun x=>rs.contains x.1) then some (⟨s.env,oI s.sto rs⟩,[]) else none
 |.lK t xs=>x3 n t xs s
 |.rel t j xs=>BK n t j xs s
 |.qp=>match s.sto.cp 999999 with
  |none=>some (⟨s.env,(999999,.heap [])::s.sto⟩,[])
  |some _=>none
 |.Ij=>bif s.env.all (fun x=>pn x.2)&&s.sto.all (fun x=>nk x.2) then some (oF s,[]) else none
 |.yU t d sz=>match s.env.get t,s.sto.get d with
  |some (.pv .fa),none=>bif Nat.blt d n then some (⟨(t,.row d 0 0 1)::s.env,(d,.gk [] sz)::s.sto⟩,[]) else none
  |_,_=>none
 |.Im r z=>match s.sto.get r with
  |some (.pure [])=>some (⟨s.env,aG.set s.sto r (.fY [] z)⟩,[])
  |_=>none
 |.Ik q k j xs=>match s.sto.get q with
  |some (.lit cells)=>match cells[k]? with
   |some (.row d 0 len sz)=>match s.sto.get d,s.sto.cp 999999,(kill d s).sto.get q with
    |some (.pure ps),some (.heap _),some (.lit cells')=>bif Nat.blt d n&&Nat.blt q 999999 then
      some (⟨(kill d s).env,aG.set (aG.pJ (kill d s).sto xs) q (.lit (setAt cells' k (.cv j len sz)))⟩,[s.sto.hp.length=j,s.sto.hp++[some ps]=xs]) else none
    |_,_,_=>none
   |_=>none
  |_=>none
 |.Il q k rows=>match s.sto.get q with
  |some (.lit cells)=>match cells[k]? with
   |some (.row d 0 len sz)=>match s.sto.get d,(oF (kill d s)).sto.get q with
    |some sc,some (.lit cells')=>bif (Nat.blt d n&&Nat.blt q 999999)&&((kill d s).env.all (fun x=>pn x.2)&&(kill d s).sto.all (fun x=>nk x.2)) then
      some (⟨(oF (kill d s)).env,aG.set (oF (kill d s)).sto q (.lit (setAt cells' k (.pv (.list rows))))⟩,[len=rows.length,Io sc.jc s.sto.hp rows sz]) else none
    |_,_=>none
   |_=>none
  |_=>none
 |.EZ r r'=>match s.sto.get r',s.sto.get r with
  |none,some _=>bif ((Nat.blt r n||pN r)&&Nat.blt r 999999)&&Nat.blt r' n then some (⟨wh r r' s.env,jT r r' s.sto⟩,[]) else none
  |_,_=>none
 |.cut r k ps'=>match s.sto.get r with
  |some (.pure ps)=>some (⟨s.env,aG.set s.sto r (.pure ps')⟩,[ps.take k=ps'])
  |_=>none
 |.xM q j xs=>match s.sto.get q with
  |some (.lit cells)=>match cells[j]? with
   |some (.row r 0 len sz)=>match s.sto.get r,(kill r s).sto.get q with
    |some (.pure ps),some (.lit cells')=>bif Nat.blt r n then
      some (⟨(kill r s).env,aG.set (kill r s).sto q (.lit (setAt cells' j (.pv (.list xs))))⟩,[len=xs.length,ps=xs.flatten,∀row∈xs,row.length=sz]) else none
    |_,_=>none
   |_=>none
  |_=>none
 |.tj t d sz=>match s.env.get t,s.sto.get d with
  |some (.pv .fa),none=>bif Nat.blt d n&&Nat.blt t n then some (⟨(t,.row d 0 0 sz)::s.env,(d,.pure [])::s.sto⟩,[]) else none
  |_,_=>none
 |.nQ q j d sz=>match s.sto.get q,s.sto.get d with
  |some (.lit cells),none=>match cells[j]? with
   |some (.pv .fa)=>bif Nat.blt d n then some (⟨s.env,(d,.pure [])::aG.set s.sto q (.lit (setAt cells j (.row d 0 0 sz)))⟩,[]) else none
   |_=>none
  |_,_=>none
 |_=>none
section
variable {P:Program} {T:ja} {Γ:Ctx} {s s':St} {a:Act} {w:World} {β:Nat→Option Nat} {I:Nat→Prop} {ob:List Prop}
theorem zh(r r':Nat):∀(env:Env) (t:Nat),(wh r r' env).get t=(env.get t).map (wW r r')
 |[],t=>rfl
 |(t',e)::env,t=>by
  simp only[wh,Env.get]
  cases Nat.beq t' t with
  |true=>rfl
  |false=>exact zh r r' env t
theorem zi(n:Nat):Nat.beq n n=true:=Nat.beq_refl n
theorem sw{r r':Nat} : mP r r' r=r':=by unfold mP;rw[zi];rfl
theorem iS{r r' x:Nat}(h:x≠r):mP r r' x=x:=by unfold mP;rw[di h];rfl
theorem wX(r r':Nat):∀(sto:aG),sto.cp r'=none→(∀x sc,sto.cp x=some sc→(jT r r' sto).cp (mP r r' x)=some (uT r r' sc))∧(∀y sc',(jT r r' sto).cp y=some sc'→∃x sc,sto.cp x=some sc∧y=mP r r' x∧sc'=uT r r' sc)
 |[],_=>⟨fun x sc h=>by simp[aG.cp] at h,fun y sc' h=>by simp[jT,aG.cp] at h⟩
 |(x0,BJ)::sto,hn=>by
  have G1:x0≠r':=fun e=>by subst e;simp[aG.cp] at hn
  have Po:aG.cp sto r'=none:=by simpa[aG.cp,di G1] using hn
  obtain⟨Vs,BM⟩:=wX r r' sto Po
  have inj:∀x,x≠r'→mP r r' x0=mP r r' x→x0=x:=by
   intro x hx h
   by_cases h1:x0=r
   ·by_cases h2:x=r
    ·rw[h1,h2]
    ·rw[h1,sw,iS h2] at h;exact absurd h.symm hx
   ·by_cases h2:x=r
    ·rw[h2,sw,iS h1] at h;exact absurd h G1
    ·rw[iS h1,iS h2] at h;exact h
  refine⟨fun x sc h => ?_,fun y sc' h => ?_⟩
  ·have xX:x≠r':=fun e=>by subst e;rw[hn] at h;cases h
   simp only[aG.cp] at h
   simp only[jT,aG.cp]
   by_cases El:x0=x
   ·subst El
    rw[zi] at h ⊢
    injection h with h;subst h;rfl
   ·rw[di El] at h
    rw[di (fun e=>El (inj x xX e))]
    exact Vs x sc h
  ·simp only[jT,aG.cp] at h
   by_cases hy:mP r r' x0=y
   ·subst hy
    rw[zi] at h
    injection h with h
    exact⟨x0,BJ,by simp[aG.cp],rfl,h.symm⟩
   ·rw[di hy] at h
    obtain⟨x,sc,h1,h2,h3⟩:=BM y sc' h
    have El:x0≠x:=fun e=>by subst e;exact hy h2.symm
    exact⟨x,sc,by simp only[aG.cp];rw[di El];exact h1,h2,h3⟩
theorem A6{r r':Nat}(hr:r<999999)(dy:r'<999999):∀(sto:aG),(jT r r' sto).cp 999999=(sto.cp 999999).map (uT r r')
 |[]=>rfl
 |(x0,BJ)::sto=>by
  simp only[jT,aG.cp,A6 hr dy sto]
  by_cases h:x0=r
  ·subst h;rw[sw,di (by omega),di (by omega)];rfl
  ·rw[iS h];cases Nat.beq x0 999999<;>rfl
theorem E0(r r':Nat)(hr:r<999999)(dy:r'<999999)(sto:aG)(hn:sto.get r'=none):(∀x sc,sto.get x=some sc→(jT r r' sto).get (mP r r' x)=some (uT r r' sc))∧(∀y sc',(jT r r' sto).get y=some sc'→∃x sc,sto.get x=some sc∧y=mP r r' x∧sc'=uT r r' sc):=by
 rw[aG.dX dy] at hn
 obtain⟨g1,g2⟩:=wX r r' sto hn
 have OD:(jT r r' sto).hp=sto.hp:=by
  unfold aG.hp
  rw[A6 hr dy sto]
  cases sto.cp 999999 with
  |none=>rfl
  |some sc=>cases sc<;>rfl
 have RL:∀x,x<999999→mP r r' x<999999:=fun x hx=>by
  by_cases h:x=r
  ·subst h;rw[sw];exact dy
  ·rw[iS h];exact hx
 have TW:∀j,mP r r' (hc j)=hc j:=fun j=>iS (by unfold hc;omega)
 refine⟨fun x sc h => ?_,fun y sc' h => ?_⟩
 ·rcases sQ x with hx|rfl|⟨j,rfl⟩
  ·rw[aG.dX hx] at h
   rw[aG.dX (RL x hx)]
   exact g1 x sc h
  ·rw[aG.cM] at h;cases h
  ·rw[aG.cU] at h
   rw[TW,aG.cU,OD,h]
   unfold cY at h
   split at h
   ·injection h with h;subst h;rfl
   ·cases h
 ·rcases sQ y with hy|rfl|⟨j,rfl⟩
  ·rw[aG.dX hy] at h
   obtain⟨x,sc,h1,h2,h3⟩:=g2 y sc' h
   have hx:x<999999:=by
    by_cases hx:x=r
    ·rw[hx];exact hr
    ·rw[iS hx] at h2;omega
   exact⟨x,sc,by rw[aG.dX hx];exact h1,h2,h3⟩
  ·rw[aG.cM] at h;cases h
  ·rw[aG.cU,OD] at h
   refine⟨hc j,sc',by rw[aG.cU];exact h,(TW j).symm,?_⟩
   unfold cY at h
   split at h
   ·injection h with h;subst h;rfl
   ·cases h
theorem cq.EZ{r r':Nat}(C0:r<999999)(RM:r'<999999)(hr:cq Γ s a w β I)(hn:s.sto.get r'=none)(GQ:aS Γ.sin r→gv r)(RN:¬aS Γ.sin r') :
  cq Γ ⟨wh r r' s.env,jT r r' s.sto⟩ a w (fun x=>if x=r' then β r else β x) I:=by
 obtain⟨g1,g2⟩:=E0 r r' C0 RM s.sto hn
 have hd:∀x,aS s.sto x→aS (jT r r' s.sto) (mP r r' x):=fun x hx=>by
  obtain⟨sc,gD⟩:=Option.isSome_iff_exists.1 hx
  unfold aS;rw[g1 x sc gD];rfl
 have hβ:∀x,aS s.sto x→(fun x=>if x=r' then β r else β x) (mP r r' x)=β x:=fun x hx=>by
  by_cases h1:x=r
  ·subst h1;rw[sw];simp
  ·have h2:x≠r':=fun e=>by subst e;unfold aS at hx;rw[hn] at hx;cases hx
   rw[iS h1];simp[h2]
 have wR:∀e v,RE β (aS s.sto) I w e v→RE (fun x=>if x=r' then β r else β x) (aS (jT r r' s.sto)) I w (wW r r' e) v:=by
  intro e v h
  cases e with
  |pv p=>exact h
  |ptr x off=>exact⟨hd x h.1,by rw[hβ x h.1];exact h.2⟩
  |row x off len sz=>exact⟨hd x h.1,by rw[hβ x h.1];exact h.2⟩
  |mM f x=>exact⟨hd x h.1,by rw[hβ x h.1];exact h.2⟩
  |kN x off len sz ps =>
   obtain⟨us,g1,g2,⟨u,g3,g4,Oz⟩,g5⟩:=h
   exact⟨us,g1,g2,⟨u,g3,hd x g4,by rw[hβ x g4];exact Oz⟩,g5⟩
  |dV fs =>
   obtain⟨us,g1,g2,g3⟩:=h
   refine⟨us,g1,by rw[List.length_map];exact g2,fun j f u h1 h2 => ?_⟩
   rw[List.getElem?_map] at h1
   obtain⟨f0,Pg,rfl⟩:=Option.map_eq_some_iff.1 h1
   have h3:=g3 j f0 u Pg h2
   cases f0 with
   |pv p=>exact h3
   |row x off len sz=>exact⟨hd x h3.1,by rw[hβ x h3.1];exact h3.2⟩
   |cv j len sz =>
    have hj:mP r r' (hc j)=hc j:=iS (by unfold hc;omega)
    have h4:=hd (hc j) h3.1
    have h5:=hβ (hc j) h3.1
    rw[hj] at h4 h5
    exact⟨h4,by rw[h5];exact h3.2⟩
  |mL c=>exact h
  |dead=>exact h
  |cv j len sz =>
   have hj:mP r r' (hc j)=hc j:=iS (by unfold hc;omega)
   have h1:=hd (hc j) h.1
   have h2:=hβ (hc j) h.1
   rw[hj] at h1 h2
   exact⟨h1,by rw[h2];exact h.2⟩
  |kf j off =>
   have hj:mP r r' (hc j)=hc j:=iS (by unfold hc;omega)
   have h1:=hd (hc j) h.1
   have h2:=hβ (hc j) h.1
   rw[hj] at h1 h2
   exact⟨h1,by rw[h2];exact h.2⟩
 have gD:∀sc:SC,(uT r r' sc).jc=sc.jc.map (wW r r'):=fun sc=>by
  cases sc with
  |lit cs=>rfl
  |pure ps=>show ps.map EV.pv=(ps.map EV.pv).map (wW r r');rw[List.map_map];rfl
  |heap xs=>rfl
  |gk hs sz=>simp[uT,SC.jc,wW]
  |fY hs sz=>simp[uT,SC.jc,bodE,List.map_flatMap,wW]
 have back:∀y,aS (jT r r' s.sto) y→∃x,aS s.sto x∧y=mP r r' x:=fun y hy=>by
  obtain⟨sc',GV⟩:=Option.isSome_iff_exists.1 hy
  obtain⟨x,sc,h1,h2,_⟩:=g2 y sc' GV
  exact⟨x,by unfold aS;rw[h1];rfl,h2⟩
 refine⟨fun t e he => ?_,⟨fun y sc' hy => ?_,fun y y' b hy yT h1 h2 => ?_⟩,fun y hy tD LF => ?_,fun y b hy tD hb => ?_,hr.ib,hr.ii,hr.aN,hr.size,hr.defers⟩
 ·have he:(wh r r' s.env).get t=some e:=he
  rw[zh] at he
  cases h0:s.env.get t with
  |none=>rw[h0] at he;cases he
  |some e0 =>
   rw[h0] at he
   injection he with he;subst he
   exact wR e0 _ (hr.env t e0 h0)
 ·obtain⟨x,sc,h1,h2,h3⟩:=g2 y sc' hy
  subst h2;subst h3
  have ru:aS s.sto x:=by unfold aS;rw[h1];rfl
  obtain⟨k1,k2⟩:=hr.sto.1 x sc h1
  refine⟨?_,fun b hb=>k2 b (by rw[←hβ x ru];exact hb)⟩
  rw[gD]
  rcases k1 with ⟨c1,c2⟩|⟨b,arr,el,c1,c2,c3⟩
  ·exact .inl ⟨by rw[hβ x ru];exact c1,by rw[c2];rfl⟩
  ·refine .inr ⟨b,arr,el,by rw[hβ x ru];exact c1,c2,fun j e he => ?_⟩
   rw[List.getElem?_map] at he
   cases h0:sc.jc[j]? with
   |none=>rw[h0] at he;cases he
   |some e0 =>
    rw[h0] at he
    injection he with he;subst he
    obtain⟨u,d1,d2,d3⟩:=c3 j e0 h0
    exact⟨u,d1,d2,wR e0 u d3⟩
 ·obtain⟨x,hx,rfl⟩:=back y hy
  obtain⟨x',qV,rfl⟩:=back y' yT
  rw[hβ x hx] at h1
  rw[hβ x' qV] at h2
  rw[hr.sto.2 x x' b hx qV h1 h2]
 ·obtain⟨x,hx,rfl⟩:=back y hy
  refine(hβ x hx).trans ?_
  by_cases h1:x=r
  ·subst h1;rw[sw] at tD;exact absurd tD RN
  ·rw[iS h1] at tD LF ⊢;exact hr.par x hx tD LF
 ·obtain⟨x,hx,rfl⟩:=back y hy
  have nh:β x=some b:=(hβ x hx).symm.trans hb
  by_cases h1:x=r
  ·subst h1
   by_cases hd:aS Γ.sin x
   ·exact hr.new x b hx (.inr (GQ hd)) nh
   ·exact hr.new x b hx (.inl hd) nh
  ·rw[iS h1] at tD;exact hr.new x b hx tD nh
theorem cq.Ip(hk:cq Γ s a w β I){q j:Nat}{cells':List EV}{e0:EV}(hq:s.sto.get q=some (.lit cells'))
  (wR:∀b arr el u,β q=some b→w.heap[b]? = some (.cells arr el (0,0))→arr[j]? = some u→RE β (aS s.sto) I w e0 u) :
  cq Γ ⟨s.env,aG.set s.sto q (.lit (setAt cells' j e0))⟩ a w β I:=by
 have hL:∀x,aS s.sto x→aS (aG.set s.sto q (.lit (setAt cells' j e0))) x:=fun x hx=>dj.2 hx
 refine⟨fun t e he=>(hk.env t e he).mono (fun _ _=>rfl) hL (fun _ h=>h) (fun _ _ _=>rfl) (fun _ _ _ _=>rfl),⟨fun x sc hx => ?_,fun x y b hx hy=>hk.sto.2 x y b (dj.1 hx) (dj.1 hy)⟩,
  fun x hx=>hk.par x (dj.1 hx),fun x b hx=>hk.new x b (dj.1 hx),hk.ib,hk.ii,hk.aN,hk.size,hk.defers⟩
 have hx:(aG.set s.sto q (.lit (setAt cells' j e0))).get x=some sc:=hx
 rw[aG.jD] at hx
 by_cases hxq:x=q∧q<999999
 ·obtain⟨rfl,M0⟩:=hxq
  rw[if_pos ⟨rfl,M0⟩,hq] at hx
  simp only[Option.map_some,Option.some.injEq] at hx
  subst hx
  obtain⟨k1,k2⟩:=hk.sto.1 x _ hq
  refine⟨?_,k2⟩
  rcases k1 with ⟨c1,c2⟩|⟨b,arr,el,c1,c2,c3⟩
  ·have c2:cells'=[]:=c2
   exact .inl ⟨c1,by subst c2;rfl⟩
  ·refine .inr ⟨b,arr,el,c1,c2,fun i e he => ?_⟩
   have he:(setAt cells' j e0)[i]? = some e:=he
   rw[sv] at he
   by_cases xN:i=j
   ·subst xN
    rw[if_pos rfl] at he
    cases hc:cells'[i]? with
    |none=>simp[hc] at he
    |some e' =>
     simp[hc] at he
     subst he
     obtain⟨u,d1,d2,_⟩:=c3 i e' hc
     exact⟨u,d1,d2,(wR b arr el u c1 c2 d1).mono (fun _ _=>rfl) hL (fun _ h=>h) (fun _ _ _=>rfl) (fun _ _ _ _=>rfl)⟩
   ·rw[if_neg xN] at he
    obtain⟨u,d1,d2,d3⟩:=c3 i e he
    exact⟨u,d1,d2,d3.mono (fun _ _=>rfl) hL (fun _ h=>h) (fun _ _ _=>rfl) (fun _ _ _ _=>rfl)⟩
 ·rw[if_neg hxq] at hx
  obtain⟨k1,k2⟩:=hk.sto.1 x sc hx
  exact⟨k1.mono rfl (fun _ _=>rfl) (fun _ _=>rfl) hL (fun _ h=>h) (fun _ _ _=>rfl) (fun _ _ _ _=>rfl),k2⟩
theorem cq.LM(hr:cq Γ s a w β I){q j:Nat}{cells:List EV}{e:EV}(hq:s.sto.get q=some (.lit cells))(hj:cells[j]? = some e){b:Nat}{arr:Array Value}{el:TypeId}{u:Value}
  (hb:β q=some b) (hg:w.heap[b]? = some (.cells arr el (0,0))) (hu:arr[j]? = some u):RE β (aS s.sto) I w e u:=by
 obtain⟨o1,_⟩:=hr.sto.1 q _ hq
 obtain⟨re,Vt,p1,_,p3⟩:=o1.block hb
 rw[hg] at p1
 injection p1 with p1;injection p1 with p1 _
 subst p1
 obtain⟨u',q1,_,q3⟩:=p3 j _ hj
 rw[hu] at q1;injection q1 with q1
 rw[q1];exact q3
theorem cq.M1(hs:∀r,aS Γ.sin r→Γ.n≤r)(hr:cq Γ s a w β I){d j:Nat}{ps:List PV}{xs ys:List (Option (List PV))}(j0:d<Γ.n)(jf:s.sto.get d=some (.pure ps))(ti:s.sto.cp 999999=some (.heap ys))
  (g1:s.sto.hp.length=j) (g2:s.sto.hp++[some ps]=xs) :
  cq Γ ⟨(Sym.kill d s).env,aG.pJ (Sym.kill d s).sto xs⟩ a w (fun x=>if x=hc j then β d else β x) I∧aS (aG.pJ (Sym.kill d s).sto xs) (hc j)∧∀x,x<999999→(aG.pJ (Sym.kill d s).sto xs).get x=(Sym.kill d s).sto.get x:=by
 have mh:d<999999:=Nat.lt_of_lt_of_le j0 Γ.small
 have hk:=hr.kill d
 have O9:(bz d s.sto).cp 999999=some (.heap ys):=by
  rw[gX,if_neg (by omega),ti]
  simp only[Option.map_some,jh,show Nat.blt d 1000000=true from Nat.ble_eq_true_of_le (by omega),cond_true]
 have Pa:(bz d s.sto).hp=s.sto.hp:=by rw[tE,if_pos (by omega)]
 have Ef:aS s.sto d:=by unfold aS;rw[jf];rfl
 have rb:¬aS (bz d s.sto) (hc j):=fun h=>by
  unfold aS at h
  rw[aG.cU,Pa] at h
  unfold cY at h
  rw[List.getElem?_eq_none (by omega)] at h
  cases h
 have fS:∀x,¬x=hc j→(aG.pJ (bz d s.sto) xs).get x=(bz d s.sto).get x:=fun x hx =>
  aG.yD O9 x (fun k wT=>by
   have Vi:k≠j:=fun e=>hx (by rw[wT,e])
   rw[Pa,←g2]
   unfold cY
   by_cases cQ:k<s.sto.hp.length
   ·rw[List.getElem?_append_left cQ]
   ·rw[List.getElem?_eq_none (by simp;omega),List.getElem?_eq_none (by omega)])
 have iv:(aG.pJ (bz d s.sto) xs).get (hc j)=some (.pure ps):=by
  rw[aG.cU,aG.xY O9,←g2]
  unfold cY
  rw[List.getElem?_append_right (by omega),g1]
  simp
 have Rn:d≠hc j:=by unfold hc;omega
 refine⟨hk.ext (sto':=aG.pJ (bz d s.sto) xs) (β':=fun x=>if x=hc j then β d else β x) (N:=fun x=>x=hc j) fS
  (fun x hx=>by subst hx;exact⟨rb,.inr (by unfold gv hc;omega)⟩) (fun x hx=>if_neg hx)
  (fun x b hx xG=>by
   subst hx
   have xG:β d=some b:=by simpa using xG
   exact⟨((hr.sto.1 d _ jf).2 b xG).1,((hr.sto.1 d _ jf).2 b xG).2,hr.new d b Ef (.inl (fun h=>absurd (hs d h) (Nat.not_le_of_lt j0))) xG,
    fun r q8 e=>(bW.1 q8).2 (hr.sto.2 r d b (bW.1 q8).1 Ef e xG),fun y hy _=>hy.symm⟩)
  (fun x sc hx hg=>by
   subst hx
   rw[iv] at hg
   injection hg with hg;subst hg
   exact RB.closed (sc := .pure ps) rfl (hr.sto.1 d _ jf).1 (by simp) (fun _ h=>h)),by unfold aS;rw[show (Sym.kill d s).sto=bz d s.sto from rfl,iv];rfl,fun x hx=>fS x (by unfold hc;omega)⟩
theorem KI(hr:cq Γ s a w β I){d len sz:Nat}{v:Value}{sc:SC}(hd:s.sto.get d=some sc)(hv:RE β (aS s.sto) I w (.row d 0 len sz) v){rows:List (List PV)}(h1:len=rows.length)(h2:Io sc.jc s.sto.hp rows sz)
  {I':Nat→Prop} (hI:∀b,I b→I' b) (ML:∀b,β d=some b→I' b) (ER:∀j b,aS s.sto (hc j)→β (hc j)=some b→I' b):Rd I' w (.list rows) v:=by
 obtain⟨f1,f2,f3⟩:=h2
 obtain⟨_,⟨_,rfl,rfl⟩|⟨b,c,hb,rfl,GK,_⟩⟩:=hv
 ·have:rows=[]:=List.eq_nil_of_length_eq_zero h1.symm
  subst this
  exact .nil _ _
 ·obtain⟨arr,el,hg,Ht,ot⟩:=(hr.sto.1 d _ hd).1.block hb
  subst h1
  have key:∀(i j:Nat) row x,rows[i]? = some row→row[j]? = some x→∃u,arr[i*sz+j]? = some u∧u.oneCell'=true∧Rd I' w x u:=fun i j row x hi hj=>by
   have hx:=nJ f2 hi hj
   have cQ:=(List.getElem?_eq_some_iff.1 hx).1
   have he:sc.jc[i*sz+j]? = some (sc.jc[i*sz+j]'(by omega)):=List.getElem?_eq_getElem _
   obtain⟨u,q1,q2,q3⟩:=ot _ _ he
   refine⟨u,q1,q2,?_⟩
   rcases f3 _ _ _ he hx with e1|⟨j',rs,z,e1,e2,e3,e4⟩
   ·rw[e1] at q3
    exact Rd.mono q3 hI (fun _ _ _=>rfl)
   ·rw[e1] at q3
    obtain⟨p1,p2⟩:=q3
    subst e4
    have Vu:s.sto.get (hc j')=some (.pure rs.flatten):=by
     rw[aG.cU];unfold cY;rw[e2]
    exact uM (r:=hc j') (len:=rs.length) (sz:=z) ⟨p1,p2⟩ (hr.sto.1 _ _ Vu).1 rfl rfl e3 hI (fun b hb=>ER j' b p1 hb)
  refine .list rows b 0 c sz (fun i j=>arr.getD (i*sz+j) undef) GK (ML b hb) (fun i row hi=>f2 row (List.mem_of_getElem? hi)) (fun i j row x hi hj => ?_) (fun i j row x hi hj => ?_)
  ·obtain⟨u,g1,g2,g3⟩:=key i j row x hi hj
   refine⟨PV.gO g3 g2,?_⟩
   rw[Nat.zero_add,cell_of_row w b _ arr el (0,0) hg,g1]
   simp[Array.getD_eq_getD_getElem?,g1]
  ·obtain⟨u,g1,g2,g3⟩:=key i j row x hi hj
   simp only[Array.getD_eq_getD_getElem?,g1,Option.getD_some]
   exact g3
theorem BN(hs:∀r,aS Γ.sin r→Γ.n≤r){te:TE}(hr:Rel Γ s a w)(aD:kX Γ.n s te=some (s',ob))(bK:cW ob):Rel Γ s' a w:=by
 obtain⟨β,I,hr⟩:=hr
 cases te with
 |aR _=>cases aD
 |RJ _ _ _ _=>cases aD
 |any _ _=>cases aD
 |dec _=>cases aD
 |auto=>cases aD
 |aN ts =>
  injection aD with aD;injection aD with h1 h2
  subst h1
  exact⟨β,I,fun t e he=>hr.env t e (rU ts he),hr.sto,hr.par,hr.new,hr.ib,hr.ii,hr.aN,hr.size,hr.defers⟩
 |drop rs =>
  injection aD with aD;injection aD with h1 h2
  subst h1
  exact⟨β,I,cq.fc rs hr⟩
 |lK t xs=>exact th hs ⟨β,I,hr⟩ aD bK
 |rel t j xs=>exact AE hs ⟨β,I,hr⟩ aD bK
 |qp =>
  simp only[kX] at aD
  split at aD
  ·rename_i hn
   injection aD with aD;injection aD with h1 h2
   subst h1
   exact Rel.qp ⟨β,I,hr⟩ hn
  ·cases aD
 |Ij =>
  simp only[kX] at aD
  cases hb:(s.env.all (fun x=>pn x.2)&&s.sto.all (fun x=>nk x.2)) with
  |false=>simp[hb] at aD
  |true =>
   simp only[hb,cond_true] at aD
   rw[Bool.and_eq_true] at hb
   injection aD with aD;injection aD with h1 h2
   subst h1
   exact⟨β,I,hr.oF hb.1 hb.2⟩
 |yU t d sz =>
  simp only[kX] at aD
  split at aD
  ·rename_i he hd
   cases hb:Nat.blt d Γ.n with
   |false=>simp[hb] at aD
   |true =>
    simp only[hb,cond_true] at aD
    injection aD with aD;injection aD with h1 h2
    subst h1
    exact hr.yU hs he hd (Nat.le_of_ble_eq_true hb)
  ·cases aD
 |Im r z =>
  simp only[kX] at aD
  split at aD
  ·rename_i jf
   injection aD with aD;injection aD with h1 h2
   subst h1
   have hL:∀x,aS s.sto x→aS (aG.set s.sto r (.fY [] z)) x:=fun x hx=>dj.2 hx
   refine⟨β,I,fun t e he=>(hr.env t e he).mono (fun _ _=>rfl) hL (fun _ h=>h) (fun _ _ _=>rfl) (fun _ _ _ _=>rfl),⟨fun x sc hx => ?_,fun x y b hx hy=>hr.sto.2 x y b (dj.1 hx) (dj.1 hy)⟩,
    fun x hx=>hr.par x (dj.1 hx),fun x b hx=>hr.new x b (dj.1 hx),hr.ib,hr.ii,hr.aN,hr.size,hr.defers⟩
   have hx:(aG.set s.sto r (.fY [] z)).get x=some sc:=hx
   rw[aG.jD] at hx
   by_cases xX:x=r∧r<999999
   ·obtain⟨rfl,C0⟩:=xX
    rw[if_pos ⟨rfl,C0⟩,jf] at hx
    simp only[Option.map_some,Option.some.injEq] at hx
    subst hx
    obtain⟨k1,k2⟩:=hr.sto.1 x _ jf
    refine⟨?_,k2⟩
    rcases k1 with ⟨c1,c2⟩|⟨b,arr,el,c1,c2,c3⟩
    ·exact .inl ⟨c1,rfl⟩
    ·exact .inr ⟨b,arr,el,c1,c2,fun i e he=>by simp[SC.jc,bodE] at he⟩
   ·rw[if_neg xX] at hx
    obtain⟨k1,k2⟩:=hr.sto.1 x sc hx
    exact⟨k1.mono rfl (fun _ _=>rfl) (fun _ _=>rfl) hL (fun _ h=>h) (fun _ _ _=>rfl) (fun _ _ _ _=>rfl),k2⟩
  ·cases aD
 |Ik q k j xs =>
  simp only[kX] at aD
  split at aD
  ·rename_i cells hq
   split at aD
   ·rename_i d len sz hk
    split at aD
    ·rename_i ps ys cells' jf ti rA
     cases hb:(Nat.blt d Γ.n&&Nat.blt q 999999) with
     |false=>simp[hb] at aD
     |true =>
      simp only[hb,cond_true] at aD
      rw[Bool.and_eq_true] at hb
      have j0:d<Γ.n:=Nat.le_of_ble_eq_true hb.1
      have M0:q<999999:=Nat.le_of_ble_eq_true hb.2
      injection aD with aD;injection aD with h1 h2
      subst h1;subst h2
      obtain⟨g1,g2⟩:=bK.cons
      obtain⟨hx,Rn,hg⟩:=hr.M1 hs j0 jf ti g1 g2
      have Vv:q≠hc j:=by unfold hc;omega
      refine⟨_,I,hx.Ip (q:=q) (j:=k) (cells':=cells') (e0 := .cv j len sz) ((hg q M0).trans rA) (fun b arr el u h1 h2 h3 => ?_)⟩
      obtain⟨_,hv⟩:=hr.LM hq hk (by simpa[Vv] using h1) h2 h3
      exact⟨Rn,by simpa using hv⟩
    ·cases aD
   ·cases aD
  ·cases aD
 |Il q k rows =>
  simp only[kX] at aD
  split at aD
  ·rename_i cells hq
   split at aD
   ·rename_i d len sz hk
    split at aD
    ·rename_i sc cells' hd rA
     cases hb:((Nat.blt d Γ.n&&Nat.blt q 999999)&&((kill d s).env.all (fun x=>pn x.2)&&(kill d s).sto.all (fun x=>nk x.2))) with
     |false=>simp[hb] at aD
     |true =>
      simp only[hb,cond_true] at aD
      simp only[Bool.and_eq_true] at hb
      obtain⟨⟨b1,b2⟩,b3,b4⟩:=hb
      have j0:d<Γ.n:=Nat.le_of_ble_eq_true b1
      have mh:d<999999:=Nat.lt_of_lt_of_le j0 Γ.small
      injection aD with aD;injection aD with h1 h2
      subst h1;subst h2
      obtain⟨g1,g2⟩:=bK.cons
      have Vw:=(hr.kill d).oF b3 b4
      have Ef:aS s.sto d:=by unfold aS;rw[hd];rfl
      have Az:¬aS Γ.sin d:=fun h=>absurd (hs d h) (Nat.not_le_of_lt j0)
      generalize hB:(fun b=>β d=some b∨∃j,aS s.sto (hc j)∧β (hc j)=some b)=B
      have Vx:∀b,B b→Γ.Nw b∧b<w.heap.size∧∀x,aS (Sym.oF (kill d s)).sto x→β x≠some b:=fun b hb=>by
       rw[←hB] at hb
       rcases hb with hb|⟨j,hj,hb⟩
       ·refine⟨hr.new d b Ef (.inl Az) hb,hr.lb d b Ef hb,fun x hx e => ?_⟩
        have CL:=bW.1 (kC.1 hx).1
        exact CL.2 (hr.sto.2 x d b CL.1 Ef e hb)
       ·refine⟨hr.new (hc j) b hj (.inr (by unfold gv hc;omega)) hb,hr.lb _ b hj hb,fun x hx e => ?_⟩
        have OF:=kC.1 hx
        have CL:=bW.1 OF.1
        have:=hr.sto.2 x (hc j) b CL.1 hj e hb
        have:=OF.2
        unfold hc at *
        omega
      have hm:=Vw.Da (M:=fun _=>False) (w':=w) (I':=fun b=>I b∨B b) (gS.refl _ w) (fun _ _ h=>h) (fun _ _ _ _ h=>h) (fun _ _ h=>h.elim) (fun b h => .inl h)
       (fun b h=>h.imp id (fun h => .inr (Vx b h)))
      refine⟨β,_,hm.Ip rA (fun b arr el u h1 h2 h3 => ?_)⟩
      have hv:=hr.LM hq hk h1 h2 h3
      exact KI hr hd hv g1 g2 (fun b h => .inl h) (fun b h => .inr (by rw[←hB];exact .inl h)) (fun j b hj h => .inr (by rw[←hB];exact .inr ⟨j,hj,h⟩))
    ·cases aD
   ·cases aD
  ·cases aD
 |ord rs =>
  simp only[kX] at aD
  cases hb:s.sto.all (fun x=>rs.contains x.1) with
  |false=>rw[hb] at aD;cases aD
  |true =>
   rw[hb] at aD
   injection aD with aD;injection aD with h1 h2
   subst h1
   refine Rel.HY (s:=s) ⟨fun _=>rfl,fun r => ?_⟩ ⟨β,I,hr⟩
   show(oI s.sto rs).get r=s.sto.get r
   have key:∀r,(oI s.sto rs).cp r=s.sto.cp r:=fun r=>by
    rw[qv]
    split
    ·rfl
    ·rename_i hn
     cases hg:s.sto.cp r with
     |none=>rfl
     |some sc =>
      rw[List.all_eq_true] at hb
      have:=hb _ (aG.rO hg)
      exact absurd (by simpa using this) hn
   unfold aG.get aG.hp
   rw[key,key]
 |EZ r r' =>
  simp only[kX] at aD
  split at aD
  ·rename_i hn _
   cases hb:(((Nat.blt r Γ.n||pN r)&&Nat.blt r 999999)&&Nat.blt r' Γ.n) with
   |false=>rw[hb] at aD;cases aD
   |true =>
    rw[hb] at aD
    injection aD with aD;injection aD with h1 h2
    subst h1
    rw[Bool.and_eq_true,Bool.and_eq_true,Bool.or_eq_true] at hb
    have Vy:=hb.1.2
    replace hb:=And.intro hb.1.1 hb.2
    exact⟨_,I,hr.EZ (Nat.le_of_ble_eq_true Vy) (Nat.lt_of_lt_of_le (Nat.le_of_ble_eq_true hb.2) Γ.small) hn (fun h=>hb.1.elim (fun hb=>absurd (hs r h) (Nat.not_le_of_lt (Nat.le_of_ble_eq_true hb))) (fun hb=>Nat.le_of_ble_eq_true hb)) (fun h=>absurd (hs r' h) (Nat.not_le_of_lt (Nat.le_of_ble_eq_true hb.2)))⟩
  ·cases aD
 |cut r k ps' =>
  simp only[kX] at aD
  split at aD
  ·rename_i ps jf
   injection aD with aD;injection aD with h1 h2
   subst h1;subst h2
   have bK:ps.take k=ps':=bK
   subst bK
   have hL:∀x,aS s.sto x→aS (aG.set s.sto r (.pure (ps.take k))) x:=fun x hx=>dj.2 hx
   refine⟨β,I,fun t e he=>(hr.env t e he).mono (fun _ _=>rfl) hL (fun _ h=>h) (fun _ _ _=>rfl) (fun _ _ _ _=>rfl),⟨fun x sc hx => ?_,fun x y b hx hy=>hr.sto.2 x y b (dj.1 hx) (dj.1 hy)⟩,
    fun x hx=>hr.par x (dj.1 hx),fun x b hx=>hr.new x b (dj.1 hx),hr.ib,hr.ii,hr.aN,hr.size,hr.defers⟩
   have hx:(aG.set s.sto r (.pure (ps.take k))).get x=some sc:=hx
   rw[aG.jD] at hx
   by_cases xX:x=r∧r<999999
   ·obtain⟨rfl,C0⟩:=xX
    rw[if_pos ⟨rfl,C0⟩,jf] at hx
    simp only[Option.map_some,Option.some.injEq] at hx
    subst hx
    obtain⟨k1,k2⟩:=hr.sto.1 x _ jf
    refine⟨?_,k2⟩
    rcases k1 with ⟨c1,c2⟩|⟨b,arr,el,c1,c2,c3⟩
    ·have c2:ps.map EV.pv=[]:=c2
     exact .inl ⟨c1,by show(ps.take k).map EV.pv=[];rw[List.map_take,c2];simp⟩
    ·refine .inr ⟨b,arr,el,c1,c2,fun i e he => ?_⟩
     have he:((ps.take k).map EV.pv)[i]? = some e:=he
     rw[List.map_take] at he
     have cQ:=(List.getElem?_eq_some_iff.1 he).1
     rw[List.length_take] at cQ
     rw[List.getElem?_take_of_lt (by omega)] at he
     obtain⟨u,d1,d2,d3⟩:=c3 i e he
     exact⟨u,d1,d2,d3.mono (fun _ _=>rfl) hL (fun _ h=>h) (fun _ _ _=>rfl) (fun _ _ _ _=>rfl)⟩
   ·rw[if_neg xX] at hx
    obtain⟨k1,k2⟩:=hr.sto.1 x sc hx
    exact⟨k1.mono rfl (fun _ _=>rfl) (fun _ _=>rfl) hL (fun _ h=>h) (fun _ _ _=>rfl) (fun _ _ _ _=>rfl),k2⟩
  ·cases aD
 |xM q j xs =>
  simp only[kX] at aD
  split at aD
  ·rename_i cells hq
   split at aD
   ·rename_i r len sz hj
    split at aD
    ·rename_i ps cells' jf rA
     cases hb:Nat.blt r Γ.n with
     |false=>simp[hb] at aD
     |true =>
      simp only[hb,cond_true] at aD
      have GQ:r<Γ.n:=Nat.le_of_ble_eq_true hb
      injection aD with aD;injection aD with h1 h2
      subst h1;subst h2
      obtain⟨g1,bK⟩:=bK.cons
      obtain⟨g2,g3⟩:=bK.cons
      have xz:=(hr.sto.1 r _ jf).1
      have sq:aS s.sto r:=by unfold aS;rw[jf];rfl
      have Az:¬aS Γ.sin r:=fun h=>absurd (hs r h) (Nat.not_le_of_lt GQ)
      have fin:∀I',(∀b,I b→I' b)→(∀b,β r=some b→I' b)→cq Γ (kill r s) a w β I'→Rel Γ ⟨(kill r s).env,aG.set (kill r s).sto q (.lit (setAt cells' j (.pv (.list xs))))⟩ a w:=by
       intro I' hI xZ hk
       have hL:∀x,aS (kill r s).sto x→aS (aG.set (kill r s).sto q (.lit (setAt cells' j (.pv (.list xs))))) x:=fun x hx=>dj.2 hx
       refine⟨β,I',fun t e he=>(hk.env t e he).mono (fun _ _=>rfl) hL (fun _ h=>h) (fun _ _ _=>rfl) (fun _ _ _ _=>rfl),⟨fun x sc hx => ?_,fun x y b hx hy=>hk.sto.2 x y b (dj.1 hx) (dj.1 hy)⟩,
        fun x hx=>hk.par x (dj.1 hx),fun x b hx=>hk.new x b (dj.1 hx),hk.ib,hk.ii,hk.aN,hk.size,hk.defers⟩
       have hx:(aG.set (kill r s).sto q (.lit (setAt cells' j (.pv (.list xs))))).get x=some sc:=hx
       rw[aG.jD] at hx
       by_cases hxq:x=q∧q<999999
       ·obtain⟨rfl,M0⟩:=hxq
        rw[if_pos ⟨rfl,M0⟩,rA] at hx
        simp only[Option.map_some,Option.some.injEq] at hx
        subst hx
        obtain⟨k1,k2⟩:=hk.sto.1 x _ rA
        refine⟨?_,k2⟩
        rcases k1 with ⟨c1,c2⟩|⟨b,arr,el,c1,c2,c3⟩
        ·have c2:cells'=[]:=c2
         exact .inl ⟨c1,by subst c2;rfl⟩
        ·refine .inr ⟨b,arr,el,c1,c2,fun i e he => ?_⟩
         have he:(setAt cells' j (.pv (.list xs)))[i]? = some e:=he
         rw[sv] at he
         by_cases xN:i=j
         ·subst xN
          rw[if_pos rfl] at he
          cases hc:cells'[i]? with
          |none=>simp[hc] at he
          |some e' =>
           simp[hc] at he
           subst he
           obtain⟨u,d1,d2,_⟩:=c3 i e' hc
           obtain⟨o1,o2⟩:=hr.sto.1 x _ hq
           obtain⟨re,Vt,p1,_,p3⟩:=o1.block c1
           rw[c2] at p1
           injection p1 with p1;injection p1 with p1 _
           subst p1
           obtain⟨u',q1,_,q3⟩:=p3 i _ hj
           have:u'=u:=by rw[d1] at q1;injection q1 with q1;exact q1.symm
           subst this
           exact⟨u',d1,d2,uM q3 xz g1 g2 g3 hI xZ⟩
         ·rw[if_neg xN] at he
          obtain⟨u,d1,d2,d3⟩:=c3 i e he
          exact⟨u,d1,d2,d3.mono (fun _ _=>rfl) hL (fun _ h=>h) (fun _ _ _=>rfl) (fun _ _ _ _=>rfl)⟩
       ·rw[if_neg hxq] at hx
        obtain⟨k1,k2⟩:=hk.sto.1 x sc hx
        exact⟨k1.mono rfl (fun _ _=>rfl) (fun _ _=>rfl) hL (fun _ h=>h) (fun _ _ _=>rfl) (fun _ _ _ _=>rfl),k2⟩
      cases j5:β r with
      |none=>exact fin I (fun _ h=>h) (fun b cI=>by rw[j5] at cI;cases cI) (hr.kill r)
      |some b =>
       exact fin _ (fun _ h => .inl h) (fun b' cI=>by rw[j5] at cI;injection cI with cI;exact .inr cI.symm)
        ((hr.kill r).O2 (b:=b) ((hr.sto.1 r _ jf).2 b j5).1 (hr.new r b sq (.inl Az) j5) (fun x hx e=>(bW.1 hx).2 (hr.sto.2 x r b (bW.1 hx).1 sq e j5)))
    ·cases aD
   ·cases aD
  ·cases aD
 |tj t d sz =>
  simp only[kX] at aD
  split at aD
  ·rename_i he hd
   cases hb:(Nat.blt d Γ.n&&Nat.blt t Γ.n) with
   |false=>simp[hb] at aD
   |true =>
    simp only[hb,cond_true] at aD
    simp only[Bool.and_eq_true] at hb
    have j0:d<Γ.n:=Nat.le_of_ble_eq_true hb.1
    injection aD with aD;injection aD with h1 h2
    subst h1
    have rb:¬aS s.sto d:=by unfold aS;rw[hd];simp
    have Az:¬aS Γ.sin d:=fun h=>absurd (hs d h) (Nat.not_le_of_lt j0)
    have hv:Rd I w .fa (a.tmps.getD t undef):=hr.env t _ he
    have mh:d<999999:=Nat.lt_of_lt_of_le j0 Γ.small
    have h2:=hr.site (d:=d) (sc := .pure []) mh rb Az (β':=fun x=>if x=d then none else β x) (fun x hx=>if_neg hx) (fun b cI=>by simp at cI) (.inl ⟨by simp,rfl⟩)
    refine⟨_,_,h2.H7 ⟨(cZ mh).2 (.inl rfl),.inl ⟨by simp,rfl,?_⟩⟩⟩
    generalize a.tmps.getD t undef=v at hv
    cases hv;rfl
  ·cases aD
 |nQ q j d sz =>
  simp only[kX] at aD
  split at aD
  ·rename_i cells hq hd
   split at aD
   ·rename_i hj
    cases hb:Nat.blt d Γ.n with
    |false=>simp[hb] at aD
    |true =>
     simp only[hb,cond_true] at aD
     have j0:d<Γ.n:=Nat.le_of_ble_eq_true hb
     injection aD with aD;injection aD with h1 h2
     subst h1
     have rb:¬aS s.sto d:=by unfold aS;rw[hd];simp
     have Az:¬aS Γ.sin d:=fun h=>absurd (hs d h) (Nat.not_le_of_lt j0)
     have mh:d<999999:=Nat.lt_of_lt_of_le j0 Γ.small
     have hk:=hr.site (d:=d) (sc := .pure []) mh rb Az (β':=fun x=>if x=d then none else β x) (fun x hx=>if_neg hx) (fun b cI=>by simp at cI) (.inl ⟨by simp,rfl⟩)
     have KD:q≠d:=fun e=>by subst e;rw[hq] at hd;cases hd
     have hL:∀x,aS ((d,SC.pure [])::s.sto) x→aS ((d,SC.pure [])::aG.set s.sto q (.lit (setAt cells j (.row d 0 0 sz)))) x:=fun x hx=>by
      rcases(cZ mh).1 hx with hx|hx
      ·exact(cZ mh).2 (.inl hx)
      ·exact(cZ mh).2 (.inr (dj.2 hx))
     have QK:∀x,aS ((d,SC.pure [])::aG.set s.sto q (.lit (setAt cells j (.row d 0 0 sz)))) x→aS ((d,SC.pure [])::s.sto) x:=fun x hx=>by
      rcases(cZ mh).1 hx with hx|hx
      ·exact(cZ mh).2 (.inl hx)
      ·exact(cZ mh).2 (.inr (dj.1 hx))
     refine⟨_,I,fun t e he=>(hk.env t e he).mono (fun _ _=>rfl) hL (fun _ h=>h) (fun _ _ _=>rfl) (fun _ _ _ _=>rfl),⟨fun x sc hx => ?_,fun x y b hx hy=>hk.sto.2 x y b (QK x hx) (QK y hy)⟩,
      fun x hx=>hk.par x (QK x hx),fun x b hx=>hk.new x b (QK x hx),hk.ib,hk.ii,hk.aN,hk.size,hk.defers⟩
     by_cases hxq:x=q∧q<999999
     ·obtain⟨rfl,M0⟩:=hxq
      have hx:aG.get ((d,SC.pure [])::aG.set s.sto x (.lit (setAt cells j (.row d 0 0 sz)))) x=some sc:=hx
      rw[aG.bY mh,di (Ne.symm KD),cond_false,aG.jD,if_pos ⟨rfl,M0⟩,hq] at hx
      simp only[Option.map_some,Option.some.injEq] at hx
      subst hx
      obtain⟨k1,k2⟩:=hk.sto.1 x (.lit cells) (by show aG.get ((d,SC.pure [])::s.sto) x=_;rw[aG.bY mh,di (Ne.symm KD),cond_false];exact hq)
      refine⟨?_,k2⟩
      rcases k1 with ⟨c1,c2⟩|⟨b,arr,el,c1,c2,c3⟩
      ·have c2:cells=[]:=c2
       exact .inl ⟨c1,by subst c2;rfl⟩
      ·refine .inr ⟨b,arr,el,c1,c2,fun i e he => ?_⟩
       have he:(setAt cells j (.row d 0 0 sz))[i]? = some e:=he
       rw[sv] at he
       by_cases xN:i=j
       ·subst xN
        rw[if_pos rfl,hj] at he
        simp only[Option.map_some,Option.some.injEq] at he
        subst he
        obtain⟨u,d1,d2,d3⟩:=c3 i _ hj
        have d3:Rd I w .fa u:=d3
        refine⟨u,d1,d2,hL _ ((cZ mh).2 (.inl rfl)),.inl ⟨by simp,rfl,?_⟩⟩
        cases d3;rfl
       ·rw[if_neg xN] at he
        obtain⟨u,d1,d2,d3⟩:=c3 i e he
        exact⟨u,d1,d2,d3.mono (fun _ _=>rfl) hL (fun _ h=>h) (fun _ _ _=>rfl) (fun _ _ _ _=>rfl)⟩
     ·have CL:aG.get ((d,SC.pure [])::s.sto) x=some sc:=by
       have hx:aG.get ((d,SC.pure [])::aG.set s.sto q (.lit (setAt cells j (.row d 0 0 sz)))) x=some sc:=hx
       rw[aG.bY mh] at hx ⊢
       cases xG:Nat.beq d x with
       |true=>simpa[xG] using hx
       |false =>
        simp only[xG,cond_false] at hx ⊢
        rw[aG.jD,if_neg hxq] at hx
        exact hx
      obtain⟨k1,k2⟩:=hk.sto.1 x sc CL
      exact⟨k1.mono rfl (fun _ _=>rfl) (fun _ _=>rfl) hL (fun _ h=>h) (fun _ _ _=>rfl) (fun _ _ _ _=>rfl),k2⟩
   ·cases aD
  ·cases aD
end
end Go.Proofs.YtfjfekodeplcoaaGreat.Sym
