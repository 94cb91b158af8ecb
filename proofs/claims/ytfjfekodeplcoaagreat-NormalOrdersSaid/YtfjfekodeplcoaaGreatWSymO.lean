/- Lemmas for the statements of this seat. -/
import Derived.Test.YtfjfekodeplcoaaGreatWSymN
namespace Go.Proofs.YtfjfekodeplcoaaGreat.Sym
open Go Go.RowKit
inductive TE where
 |aQ (hs:List Hint)
 |Qm (fl hd:List Nat) (tl:List Nat) (hs:List Hint)
 |any (fl:List Nat) (hs:List Hint)
 |dec (d:Bool)
 |auto
 |aH (ts:List Nat)
 |drop (rs:List Nat)
 |jM (t:Nat) (xs:List (List PV))
 |lQ (q j:Nat) (xs:List (List PV))
 |oG (t d sz:Nat)
 |nU (q j d sz:Nat)
 |cut (r k:Nat) (ps:List PV)
 |Cw (r r':Nat)
 |ord (rs:List Nat)
 |rel (t j:Nat) (xs:List (Option (List PV)))
 |E1
 |KY
 |Hu (t d sz:Nat)
def rZ(env:Env):List Nat→Env
 |[]=>[]
 |t::ts=>match env.get t with
  |some e=>(t,e)::rZ env ts
  |none=>rZ env ts
theorem rC{env:Env}{t:Nat}{e:EV} : ∀(ts:List Nat),(rZ env ts).get t=some e→env.get t=some e
 |[],h=>by simp[rZ,Env.get] at h
 |t'::ts,h=>by
  unfold rZ at h
  split at h
  ·rename_i e' gr
   simp only[Env.get] at h
   cases hb:Nat.beq t' t with
   |true =>
    have:t'=t:=Nat.eq_of_beq_eq_true hb
    subst this
    simp only[hb,cond_true] at h
    rw[gr];exact h
   |false =>
    simp only[hb,cond_false] at h
    exact rC ts h
  ·exact rC ts h
def setAt:List EV→Nat→EV→List EV
 |[],_,_=>[]
 |_::r,0,e=>e::r
 |x::r,n+1,e=>x::setAt r n e
theorem vi:∀(l:List EV) (n:Nat) (e:EV) (j:Nat),(setAt l n e)[j]? = if j=n then (l[j]?).map (fun _=>e) else l[j]?
 |[],n,e,j=>by simp[setAt]
 |x::r,0,e,j=>by
  cases j with
  |zero=>simp[setAt]
  |succ j=>simp[setAt]
 |x::r,n+1,e,j=>by
  cases j with
  |zero=>simp[setAt]
  |succ j=>simp[setAt,vi r n e j]
def nk(r r' x:Nat):Nat:=bif Nat.beq x r then r' else x
def FE.Cw(r r':Nat):FE→FE
 |.pv p => .pv p
 |.row x o l z => .row (nk r r' x) o l z
def x4(r r':Nat):EV→EV
 |.gj fs => .gj (fs.map (FE.Cw r r'))
 |.ptr x o => .ptr (nk r r' x) o
 |.row x o l z => .row (nk r r' x) o l z
 |.ni x o l z ps => .ni (nk r r' x) o l z ps
 |.lX f x => .lX f (nk r r' x)
 |e=>e
def vV(r r':Nat):SC→SC
 |.lit cs => .lit (cs.map (x4 r r'))
 |sc=>sc
def vj(r r':Nat):Env→Env
 |[]=>[]
 |(t,e)::env=>(t,x4 r r' e)::vj r r' env
def jO(r r':Nat):aN→aN
 |[]=>[]
 |(x,sc)::sto=>(nk r r' x,vV r r' sc)::jO r r' sto
def oH(sto:aN):List Nat→aN
 |[]=>[]
 |r::rs=>match sto.dX r with
  |some sc=>(r,sc)::oH sto rs
  |none=>oH sto rs
theorem qu(sto:aN):∀(rs:List Nat) (r:Nat),(oH sto rs).dX r=if r∈rs then sto.dX r else none
 |[],r=>by simp[oH,aN.dX]
 |q::rs,r=>by
  simp only[oH]
  cases hq:sto.dX q with
  |none =>
   simp only[qu sto rs r]
   by_cases h:r=q
   ·subst h;simp[hq]
   ·simp[h]
  |some sc =>
   simp only[aN.dX]
   cases hb:Nat.beq q r with
   |true =>
    have:q=r:=Nat.eq_of_beq_eq_true hb
    subst this
    simp[hq]
   |false =>
    have h:r≠q:=by intro e;subst e;simp at hb
    simp[qu sto rs r,h]
def mR(n:Nat)(s:St):TE→Option (St×List Prop)
 |.aH ts=>some (⟨rZ s.env ts,s.sto⟩,[])
 |.drop rs=>some (eZ rs s,[])
 |.ord rs=>bif s.sto.all (fun x=>rs.contains x.1) then some (⟨s.env,oH s.sto rs⟩,[]) else none
 |.jM t xs=>w5 n t xs s
 |.Cw r r'=>match s.sto.get r',s.sto.get r with
  |none,some _=>bif ((Nat.blt r n||pB r)&&Nat.blt r 999999)&&Nat.blt r' n then some (⟨vj r r' s.env,jO r r' s.sto⟩,[]) else none
  |_,_=>none
 |.cut r k ps'=>match s.sto.get r with
  |some (.pure ps)=>some (⟨s.env,aN.set s.sto r (.pure ps')⟩,[ps.take k=ps'])
  |_=>none
 |.lQ q j xs=>match s.sto.get q with
  |some (.lit cells)=>match cells[j]? with
   |some (.row r 0 len sz)=>match s.sto.get r,(kill r s).sto.get q with
    |some (.pure ps),some (.lit rD)=>bif Nat.blt r n then
      some (⟨(kill r s).env,aN.set (kill r s).sto q (.lit (setAt rD j (.pv (.list xs))))⟩,[len=xs.length,ps=xs.flatten,∀row∈xs,row.length=sz]) else none
    |_,_=>none
   |_=>none
  |_=>none
 |.oG t d sz=>match s.env.get t,s.sto.get d with
  |some (.pv .fu),none=>bif Nat.blt d n&&Nat.blt t n then some (⟨(t,.row d 0 0 sz)::s.env,(d,.pure [])::s.sto⟩,[]) else none
  |_,_=>none
 |.nU q j d sz=>match s.sto.get q,s.sto.get d with
  |some (.lit cells),none=>match cells[j]? with
   |some (.pv .fu)=>bif Nat.blt d n then some (⟨s.env,(d,.pure [])::aN.set s.sto q (.lit (setAt cells j (.row d 0 0 sz)))⟩,[]) else none
   |_=>none
  |_,_=>none
 |_=>none
section
variable {P:Program} {T:jZ} {Γ:Ctx} {s s':St} {a:Act} {w:World} {β:Nat→Option Nat} {I:Nat→Prop} {ob:List Prop}
theorem x5(r r':Nat):∀(env:Env) (t:Nat),(vj r r' env).get t=(env.get t).map (x4 r r')
 |[],t=>rfl
 |(t',e)::env,t=>by
  simp only[vj,Env.get]
  cases Nat.beq t' t with
  |true=>rfl
  |false=>exact x5 r r' env t
theorem x6(n:Nat):Nat.beq n n=true:=Nat.beq_refl n
theorem r7{r r':Nat} : nk r r' r=r':=by unfold nk;rw[x6];rfl
theorem jr{r r' x:Nat}(h:x≠r):nk r r' x=x:=by unfold nk;rw[fJ h];rfl
theorem vX(r r':Nat):∀(sto:aN),sto.dX r'=none→(∀x sc,sto.dX x=some sc→(jO r r' sto).dX (nk r r' x)=some (vV r r' sc))∧(∀y sc',(jO r r' sto).dX y=some sc'→∃x sc,sto.dX x=some sc∧y=nk r r' x∧sc'=vV r r' sc)
 |[],_=>⟨fun x sc h=>by simp[aN.dX] at h,fun y sc' h=>by simp[jO,aN.dX] at h⟩
 |(x0,EX)::sto,hn=>by
  have AR:x0≠r':=fun e=>by subst e;simp[aN.dX] at hn
  have N5:aN.dX sto r'=none:=by simpa[aN.dX,fJ AR] using hn
  obtain⟨TQ,Hv⟩:=vX r r' sto N5
  have inj:∀x,x≠r'→nk r r' x0=nk r r' x→x0=x:=by
   intro x hx h
   by_cases h1:x0=r
   ·by_cases h2:x=r
    ·rw[h1,h2]
    ·rw[h1,r7,jr h2] at h;exact absurd h.symm hx
   ·by_cases h2:x=r
    ·rw[h2,r7,jr h1] at h;exact absurd h AR
    ·rw[jr h1,jr h2] at h;exact h
  refine⟨fun x sc h => ?_,fun y sc' h => ?_⟩
  ·have zy:x≠r':=fun e=>by subst e;rw[hn] at h;cases h
   simp only[aN.dX] at h
   simp only[jO,aN.dX]
   by_cases KZ:x0=x
   ·subst KZ
    rw[x6] at h ⊢
    injection h with h;subst h;rfl
   ·rw[fJ KZ] at h
    rw[fJ (fun e=>KZ (inj x zy e))]
    exact TQ x sc h
  ·simp only[jO,aN.dX] at h
   by_cases hy:nk r r' x0=y
   ·subst hy
    rw[x6] at h
    injection h with h
    exact⟨x0,EX,by simp[aN.dX],rfl,h.symm⟩
   ·rw[fJ hy] at h
    obtain⟨x,sc,h1,h2,h3⟩:=Hv y sc' h
    have KZ:x0≠x:=fun e=>by subst e;exact hy h2.symm
    exact⟨x,sc,by simp only[aN.dX];rw[fJ KZ];exact h1,h2,h3⟩
theorem Ae{r r':Nat}(hr:r<999999)(dx:r'<999999):∀(sto:aN),(jO r r' sto).dX 999999=(sto.dX 999999).map (vV r r')
 |[]=>rfl
 |(x0,EX)::sto=>by
  simp only[jO,aN.dX,Ae hr dx sto]
  by_cases h:x0=r
  ·subst h;rw[r7,fJ (by omega),fJ (by omega)];rfl
  ·rw[jr h];cases Nat.beq x0 999999<;>rfl
theorem D7(r r':Nat)(hr:r<999999)(dx:r'<999999)(sto:aN)(hn:sto.get r'=none):(∀x sc,sto.get x=some sc→(jO r r' sto).get (nk r r' x)=some (vV r r' sc))∧(∀y sc',(jO r r' sto).get y=some sc'→∃x sc,sto.get x=some sc∧y=nk r r' x∧sc'=vV r r' sc):=by
 rw[aN.kf dx] at hn
 obtain⟨g1,g2⟩:=vX r r' sto hn
 have Sj:(jO r r' sto).hp=sto.hp:=by
  unfold aN.hp
  rw[Ae hr dx sto]
  cases sto.dX 999999 with
  |none=>rfl
  |some sc=>cases sc<;>rfl
 have Qn:∀x,x<999999→nk r r' x<999999:=fun x hx=>by
  by_cases h:x=r
  ·subst h;rw[r7];exact dx
  ·rw[jr h];exact hx
 have Sk:∀j,nk r r' (hc j)=hc j:=fun j=>jr (by unfold hc;omega)
 refine⟨fun x sc h => ?_,fun y sc' h => ?_⟩
 ·rcases B1 x with hx|rfl|⟨j,rfl⟩
  ·rw[aN.kf hx] at h
   rw[aN.kf (Qn x hx)]
   exact g1 x sc h
  ·rw[aN.eY] at h;cases h
  ·rw[aN.kS] at h
   rw[Sk,aN.kS,Sj,h]
   unfold qi at h
   split at h
   ·injection h with h;subst h;rfl
   ·cases h
 ·rcases B1 y with hy|rfl|⟨j,rfl⟩
  ·rw[aN.kf hy] at h
   obtain⟨x,sc,h1,h2,h3⟩:=g2 y sc' h
   have hx:x<999999:=by
    by_cases hx:x=r
    ·rw[hx];exact hr
    ·rw[jr hx] at h2;omega
   exact⟨x,sc,by rw[aN.kf hx];exact h1,h2,h3⟩
  ·rw[aN.eY] at h;cases h
  ·rw[aN.kS,Sj] at h
   refine⟨hc j,sc',by rw[aN.kS];exact h,(Sk j).symm,?_⟩
   unfold qi at h
   split at h
   ·injection h with h;subst h;rfl
   ·cases h
theorem cO.Cw{r r':Nat}(Hc:r<999999)(Qo:r'<999999)(hr:cO Γ s a w β I)(hn:s.sto.get r'=none)(JL:bk Γ.sin r→gv r)(Qp:¬bk Γ.sin r') :
  cO Γ ⟨vj r r' s.env,jO r r' s.sto⟩ a w (fun x=>if x=r' then β r else β x) I:=by
 obtain⟨g1,g2⟩:=D7 r r' Hc Qo s.sto hn
 have hd:∀x,bk s.sto x→bk (jO r r' s.sto) (nk r r' x):=fun x hx=>by
  obtain⟨sc,lO⟩:=Option.isSome_iff_exists.1 hx
  unfold bk;rw[g1 x sc lO];rfl
 have hβ:∀x,bk s.sto x→(fun x=>if x=r' then β r else β x) (nk r r' x)=β x:=fun x hx=>by
  by_cases h1:x=r
  ·subst h1;rw[r7];simp
  ·have h2:x≠r':=fun e=>by subst e;unfold bk at hx;rw[hn] at hx;cases hx
   rw[jr h1];simp[h2]
 have z7:∀e v,RE β (bk s.sto) I w e v→RE (fun x=>if x=r' then β r else β x) (bk (jO r r' s.sto)) I w (x4 r r' e) v:=by
  intro e v h
  cases e with
  |pv p=>exact h
  |ptr x off=>exact⟨hd x h.1,by rw[hβ x h.1];exact h.2⟩
  |row x off len sz=>exact⟨hd x h.1,by rw[hβ x h.1];exact h.2⟩
  |lX f x=>exact⟨hd x h.1,by rw[hβ x h.1];exact h.2⟩
  |ni x off len sz ps =>
   obtain⟨us,g1,g2,⟨u,g3,g4,Pe⟩,g5⟩:=h
   exact⟨us,g1,g2,⟨u,g3,hd x g4,by rw[hβ x g4];exact Pe⟩,g5⟩
  |gj fs =>
   obtain⟨us,g1,g2,g3⟩:=h
   refine⟨us,g1,by rw[List.length_map];exact g2,fun j f u h1 h2 => ?_⟩
   rw[List.getElem?_map] at h1
   obtain⟨f0,Qk,rfl⟩:=Option.map_eq_some_iff.1 h1
   have h3:=g3 j f0 u Qk h2
   cases f0 with
   |pv p=>exact h3
   |row x off len sz=>exact⟨hd x h3.1,by rw[hβ x h3.1];exact h3.2⟩
  |nh c=>exact h
  |dead=>exact h
  |ox j len sz =>
   have hj:nk r r' (hc j)=hc j:=jr (by unfold hc;omega)
   have h1:=hd (hc j) h.1
   have h2:=hβ (hc j) h.1
   rw[hj] at h1 h2
   exact⟨h1,by rw[h2];exact h.2⟩
  |mM j off =>
   have hj:nk r r' (hc j)=hc j:=jr (by unfold hc;omega)
   have h1:=hd (hc j) h.1
   have h2:=hβ (hc j) h.1
   rw[hj] at h1 h2
   exact⟨h1,by rw[h2];exact h.2⟩
 have lO:∀sc:SC,(vV r r' sc).pE=sc.pE.map (x4 r r'):=fun sc=>by
  cases sc with
  |lit cs=>rfl
  |pure ps=>show ps.map EV.pv=(ps.map EV.pv).map (x4 r r');rw[List.map_map];rfl
  |heap xs=>rfl
  |DI hs sz=>simp[vV,SC.pE,x4]
 have back:∀y,bk (jO r r' s.sto) y→∃x,bk s.sto x∧y=nk r r' x:=fun y hy=>by
  obtain⟨sc',F0⟩:=Option.isSome_iff_exists.1 hy
  obtain⟨x,sc,h1,h2,_⟩:=g2 y sc' F0
  exact⟨x,by unfold bk;rw[h1];rfl,h2⟩
 refine⟨fun t e he => ?_,⟨fun y sc' hy => ?_,fun y y' b hy Cr h1 h2 => ?_⟩,fun y hy tf KV => ?_,fun y b hy tf hb => ?_,hr.ib,hr.ii,hr.aH,hr.size,hr.defers⟩
 ·have he:(vj r r' s.env).get t=some e:=he
  rw[x5] at he
  cases h0:s.env.get t with
  |none=>rw[h0] at he;cases he
  |some e0 =>
   rw[h0] at he
   injection he with he;subst he
   exact z7 e0 _ (hr.env t e0 h0)
 ·obtain⟨x,sc,h1,h2,h3⟩:=g2 y sc' hy
  subst h2;subst h3
  have wY:bk s.sto x:=by unfold bk;rw[h1];rfl
  obtain⟨k1,k2⟩:=hr.sto.1 x sc h1
  refine⟨?_,fun b hb=>k2 b (by rw[←hβ x wY];exact hb)⟩
  rw[lO]
  rcases k1 with ⟨c1,c2⟩|⟨b,arr,el,c1,c2,c3⟩
  ·exact .inl ⟨by rw[hβ x wY];exact c1,by rw[c2];rfl⟩
  ·refine .inr ⟨b,arr,el,by rw[hβ x wY];exact c1,c2,fun j e he => ?_⟩
   rw[List.getElem?_map] at he
   cases h0:sc.pE[j]? with
   |none=>rw[h0] at he;cases he
   |some e0 =>
    rw[h0] at he
    injection he with he;subst he
    obtain⟨u,d1,d2,d3⟩:=c3 j e0 h0
    exact⟨u,d1,d2,z7 e0 u d3⟩
 ·obtain⟨x,hx,rfl⟩:=back y hy
  obtain⟨x',uk,rfl⟩:=back y' Cr
  rw[hβ x hx] at h1
  rw[hβ x' uk] at h2
  rw[hr.sto.2 x x' b hx uk h1 h2]
 ·obtain⟨x,hx,rfl⟩:=back y hy
  refine(hβ x hx).trans ?_
  by_cases h1:x=r
  ·subst h1;rw[r7] at tf;exact absurd tf Qp
  ·rw[jr h1] at tf KV ⊢;exact hr.par x hx tf KV
 ·obtain⟨x,hx,rfl⟩:=back y hy
  have rb:β x=some b:=(hβ x hx).symm.trans hb
  by_cases h1:x=r
  ·subst h1
   by_cases hd:bk Γ.sin x
   ·exact hr.new x b hx (.inr (JL hd)) rb
   ·exact hr.new x b hx (.inl hd) rb
  ·rw[jr h1] at tf;exact hr.new x b hx tf rb
theorem AS(hs:∀r,bk Γ.sin r→Γ.n≤r){te:TE}(hr:Rel Γ s a w)(aP:mR Γ.n s te=some (s',ob))(cd:dw ob):Rel Γ s' a w:=by
 obtain⟨β,I,hr⟩:=hr
 cases te with
 |aQ _=>cases aP
 |Qm _ _ _ _=>cases aP
 |any _ _=>cases aP
 |dec _=>cases aP
 |auto=>cases aP
 |aH ts =>
  injection aP with aP;injection aP with h1 h2
  subst h1
  exact⟨β,I,fun t e he=>hr.env t e (rC ts he),hr.sto,hr.par,hr.new,hr.ib,hr.ii,hr.aH,hr.size,hr.defers⟩
 |drop rs =>
  injection aP with aP;injection aP with h1 h2
  subst h1
  exact⟨β,I,cO.eZ rs hr⟩
 |jM t xs=>exact sP hs ⟨β,I,hr⟩ aP cd
 |rel t j xs=>simp[mR] at aP
 |E1=>simp[mR] at aP
 |KY=>simp[mR] at aP
 |Hu t d sz=>simp[mR] at aP
 |ord rs =>
  simp only[mR] at aP
  cases hb:s.sto.all (fun x=>rs.contains x.1) with
  |false=>rw[hb] at aP;cases aP
  |true =>
   rw[hb] at aP
   injection aP with aP;injection aP with h1 h2
   subst h1
   refine Rel.JK (s:=s) ⟨fun _=>rfl,fun r => ?_⟩ ⟨β,I,hr⟩
   show(oH s.sto rs).get r=s.sto.get r
   have key:∀r,(oH s.sto rs).dX r=s.sto.dX r:=fun r=>by
    rw[qu]
    split
    ·rfl
    ·rename_i hn
     cases hg:s.sto.dX r with
     |none=>rfl
     |some sc =>
      rw[List.all_eq_true] at hb
      have:=hb _ (aN.uj hg)
      exact absurd (by simpa using this) hn
   unfold aN.get aN.hp
   rw[key,key]
 |Cw r r' =>
  simp only[mR] at aP
  split at aP
  ·rename_i hn _
   cases hb:(((Nat.blt r Γ.n||pB r)&&Nat.blt r 999999)&&Nat.blt r' Γ.n) with
   |false=>rw[hb] at aP;cases aP
   |true =>
    rw[hb] at aP
    injection aP with aP;injection aP with h1 h2
    subst h1
    rw[Bool.and_eq_true,Bool.and_eq_true,Bool.or_eq_true] at hb
    have TR:=hb.1.2
    replace hb:=And.intro hb.1.1 hb.2
    exact⟨_,I,hr.Cw (Nat.le_of_ble_eq_true TR) (Nat.lt_of_lt_of_le (Nat.le_of_ble_eq_true hb.2) Γ.small) hn (fun h=>hb.1.elim (fun hb=>absurd (hs r h) (Nat.not_le_of_lt (Nat.le_of_ble_eq_true hb))) (fun hb=>Nat.le_of_ble_eq_true hb)) (fun h=>absurd (hs r' h) (Nat.not_le_of_lt (Nat.le_of_ble_eq_true hb.2)))⟩
  ·cases aP
 |cut r k ps' =>
  simp only[mR] at aP
  split at aP
  ·rename_i ps mP
   injection aP with aP;injection aP with h1 h2
   subst h1;subst h2
   have cd:ps.take k=ps':=cd
   subst cd
   have hL:∀x,bk s.sto x→bk (aN.set s.sto r (.pure (ps.take k))) x:=fun x hx=>gm.2 hx
   refine⟨β,I,fun t e he=>(hr.env t e he).mono (fun _ _=>rfl) hL (fun _ h=>h) (fun _ _ _=>rfl) (fun _ _ _ _=>rfl),⟨fun x sc hx => ?_,fun x y b hx hy=>hr.sto.2 x y b (gm.1 hx) (gm.1 hy)⟩,
    fun x hx=>hr.par x (gm.1 hx),fun x b hx=>hr.new x b (gm.1 hx),hr.ib,hr.ii,hr.aH,hr.size,hr.defers⟩
   have hx:(aN.set s.sto r (.pure (ps.take k))).get x=some sc:=hx
   rw[aN.kV] at hx
   by_cases zy:x=r∧r<999999
   ·obtain⟨rfl,Hc⟩:=zy
    rw[if_pos ⟨rfl,Hc⟩,mP] at hx
    simp only[Option.map_some,Option.some.injEq] at hx
    subst hx
    obtain⟨k1,k2⟩:=hr.sto.1 x _ mP
    refine⟨?_,k2⟩
    rcases k1 with ⟨c1,c2⟩|⟨b,arr,el,c1,c2,c3⟩
    ·have c2:ps.map EV.pv=[]:=c2
     exact .inl ⟨c1,by show(ps.take k).map EV.pv=[];rw[List.map_take,c2];simp⟩
    ·refine .inr ⟨b,arr,el,c1,c2,fun i e he => ?_⟩
     have he:((ps.take k).map EV.pv)[i]? = some e:=he
     rw[List.map_take] at he
     have cN:=(List.getElem?_eq_some_iff.1 he).1
     rw[List.length_take] at cN
     rw[List.getElem?_take_of_lt (by omega)] at he
     obtain⟨u,d1,d2,d3⟩:=c3 i e he
     exact⟨u,d1,d2,d3.mono (fun _ _=>rfl) hL (fun _ h=>h) (fun _ _ _=>rfl) (fun _ _ _ _=>rfl)⟩
   ·rw[if_neg zy] at hx
    obtain⟨k1,k2⟩:=hr.sto.1 x sc hx
    exact⟨k1.mono rfl (fun _ _=>rfl) (fun _ _=>rfl) hL (fun _ h=>h) (fun _ _ _=>rfl) (fun _ _ _ _=>rfl),k2⟩
  ·cases aP
 |lQ q j xs =>
  simp only[mR] at aP
  split at aP
  ·rename_i cells hq
   split at aP
   ·rename_i r len sz hj
    split at aP
    ·rename_i ps rD mP sQ
     cases hb:Nat.blt r Γ.n with
     |false=>simp[hb] at aP
     |true =>
      simp only[hb,cond_true] at aP
      have JL:r<Γ.n:=Nat.le_of_ble_eq_true hb
      injection aP with aP;injection aP with h1 h2
      subst h1;subst h2
      obtain⟨g1,cd⟩:=cd.cons
      obtain⟨g2,g3⟩:=cd.cons
      have BX:=(hr.sto.1 r _ mP).1
      have u7:bk s.sto r:=by unfold bk;rw[mP];rfl
      have Ce:¬bk Γ.sin r:=fun h=>absurd (hs r h) (Nat.not_le_of_lt JL)
      have fin:∀I',(∀b,I b→I' b)→(∀b,β r=some b→I' b)→cO Γ (kill r s) a w β I'→Rel Γ ⟨(kill r s).env,aN.set (kill r s).sto q (.lit (setAt rD j (.pv (.list xs))))⟩ a w:=by
       intro I' hI GJ hk
       have hL:∀x,bk (kill r s).sto x→bk (aN.set (kill r s).sto q (.lit (setAt rD j (.pv (.list xs))))) x:=fun x hx=>gm.2 hx
       refine⟨β,I',fun t e he=>(hk.env t e he).mono (fun _ _=>rfl) hL (fun _ h=>h) (fun _ _ _=>rfl) (fun _ _ _ _=>rfl),⟨fun x sc hx => ?_,fun x y b hx hy=>hk.sto.2 x y b (gm.1 hx) (gm.1 hy)⟩,
        fun x hx=>hk.par x (gm.1 hx),fun x b hx=>hk.new x b (gm.1 hx),hk.ib,hk.ii,hk.aH,hk.size,hk.defers⟩
       have hx:(aN.set (kill r s).sto q (.lit (setAt rD j (.pv (.list xs))))).get x=some sc:=hx
       rw[aN.kV] at hx
       by_cases hxq:x=q∧q<999999
       ·obtain⟨rfl,Qq⟩:=hxq
        rw[if_pos ⟨rfl,Qq⟩,sQ] at hx
        simp only[Option.map_some,Option.some.injEq] at hx
        subst hx
        obtain⟨k1,k2⟩:=hk.sto.1 x _ sQ
        refine⟨?_,k2⟩
        rcases k1 with ⟨c1,c2⟩|⟨b,arr,el,c1,c2,c3⟩
        ·have c2:rD=[]:=c2
         exact .inl ⟨c1,by subst c2;rfl⟩
        ·refine .inr ⟨b,arr,el,c1,c2,fun i e he => ?_⟩
         have he:(setAt rD j (.pv (.list xs)))[i]? = some e:=he
         rw[vi] at he
         by_cases zo:i=j
         ·subst zo
          rw[if_pos rfl] at he
          cases hc:rD[i]? with
          |none=>simp[hc] at he
          |some e' =>
           simp[hc] at he
           subst he
           obtain⟨u,d1,d2,_⟩:=c3 i e' hc
           obtain⟨o1,o2⟩:=hr.sto.1 x _ hq
           obtain⟨rf,Vu,p1,_,p3⟩:=o1.block c1
           rw[c2] at p1
           injection p1 with p1;injection p1 with p1 _
           subst p1
           obtain⟨u',q1,_,q3⟩:=p3 i _ hj
           have:u'=u:=by rw[d1] at q1;injection q1 with q1;exact q1.symm
           subst this
           exact⟨u',d1,d2,xQ q3 BX g1 g2 g3 hI GJ⟩
         ·rw[if_neg zo] at he
          obtain⟨u,d1,d2,d3⟩:=c3 i e he
          exact⟨u,d1,d2,d3.mono (fun _ _=>rfl) hL (fun _ h=>h) (fun _ _ _=>rfl) (fun _ _ _ _=>rfl)⟩
       ·rw[if_neg hxq] at hx
        obtain⟨k1,k2⟩:=hk.sto.1 x sc hx
        exact⟨k1.mono rfl (fun _ _=>rfl) (fun _ _=>rfl) hL (fun _ h=>h) (fun _ _ _=>rfl) (fun _ _ _ _=>rfl),k2⟩
      cases mX:β r with
      |none=>exact fin I (fun _ h=>h) (fun b cX=>by rw[mX] at cX;cases cX) (hr.kill r)
      |some b =>
       exact fin _ (fun _ h => .inl h) (fun b' cX=>by rw[mX] at cX;injection cX with cX;exact .inr cX.symm)
        ((hr.kill r).NX (b:=b) ((hr.sto.1 r _ mP).2 b mX).1 (hr.new r b u7 (.inl Ce) mX) (fun x hx e=>(ew.1 hx).2 (hr.sto.2 x r b (ew.1 hx).1 u7 e mX)))
    ·cases aP
   ·cases aP
  ·cases aP
 |oG t d sz =>
  simp only[mR] at aP
  split at aP
  ·rename_i he hd
   cases hb:(Nat.blt d Γ.n&&Nat.blt t Γ.n) with
   |false=>simp[hb] at aP
   |true =>
    simp only[hb,cond_true] at aP
    simp only[Bool.and_eq_true] at hb
    have sC:d<Γ.n:=Nat.le_of_ble_eq_true hb.1
    injection aP with aP;injection aP with h1 h2
    subst h1
    have sN:¬bk s.sto d:=by unfold bk;rw[hd];simp
    have Ce:¬bk Γ.sin d:=fun h=>absurd (hs d h) (Nat.not_le_of_lt sC)
    have hv:Rd I w .fu (a.tmps.getD t undef):=hr.env t _ he
    have q6:d<999999:=Nat.lt_of_lt_of_le sC Γ.small
    have h2:=hr.site (d:=d) (sc := .pure []) q6 sN Ce (β':=fun x=>if x=d then none else β x) (fun x hx=>if_neg hx) (fun b cX=>by simp at cX) (.inl ⟨by simp,rfl⟩)
    refine⟨_,_,h2.LW ⟨(dy q6).2 (.inl rfl),.inl ⟨by simp,rfl,?_⟩⟩⟩
    generalize a.tmps.getD t undef=v at hv
    cases hv;rfl
  ·cases aP
 |nU q j d sz =>
  simp only[mR] at aP
  split at aP
  ·rename_i cells hq hd
   split at aP
   ·rename_i hj
    cases hb:Nat.blt d Γ.n with
    |false=>simp[hb] at aP
    |true =>
     simp only[hb,cond_true] at aP
     have sC:d<Γ.n:=Nat.le_of_ble_eq_true hb
     injection aP with aP;injection aP with h1 h2
     subst h1
     have sN:¬bk s.sto d:=by unfold bk;rw[hd];simp
     have Ce:¬bk Γ.sin d:=fun h=>absurd (hs d h) (Nat.not_le_of_lt sC)
     have q6:d<999999:=Nat.lt_of_lt_of_le sC Γ.small
     have hk:=hr.site (d:=d) (sc := .pure []) q6 sN Ce (β':=fun x=>if x=d then none else β x) (fun x hx=>if_neg hx) (fun b cX=>by simp at cX) (.inl ⟨by simp,rfl⟩)
     have LZ:q≠d:=fun e=>by subst e;rw[hq] at hd;cases hd
     have hL:∀x,bk ((d,SC.pure [])::s.sto) x→bk ((d,SC.pure [])::aN.set s.sto q (.lit (setAt cells j (.row d 0 0 sz)))) x:=fun x hx=>by
      rcases(dy q6).1 hx with hx|hx
      ·exact(dy q6).2 (.inl hx)
      ·exact(dy q6).2 (.inr (gm.2 hx))
     have Pq:∀x,bk ((d,SC.pure [])::aN.set s.sto q (.lit (setAt cells j (.row d 0 0 sz)))) x→bk ((d,SC.pure [])::s.sto) x:=fun x hx=>by
      rcases(dy q6).1 hx with hx|hx
      ·exact(dy q6).2 (.inl hx)
      ·exact(dy q6).2 (.inr (gm.1 hx))
     refine⟨_,I,fun t e he=>(hk.env t e he).mono (fun _ _=>rfl) hL (fun _ h=>h) (fun _ _ _=>rfl) (fun _ _ _ _=>rfl),⟨fun x sc hx => ?_,fun x y b hx hy=>hk.sto.2 x y b (Pq x hx) (Pq y hy)⟩,
      fun x hx=>hk.par x (Pq x hx),fun x b hx=>hk.new x b (Pq x hx),hk.ib,hk.ii,hk.aH,hk.size,hk.defers⟩
     by_cases hxq:x=q∧q<999999
     ·obtain⟨rfl,Qq⟩:=hxq
      have hx:aN.get ((d,SC.pure [])::aN.set s.sto x (.lit (setAt cells j (.row d 0 0 sz)))) x=some sc:=hx
      rw[aN.bW q6,fJ (Ne.symm LZ),cond_false,aN.kV,if_pos ⟨rfl,Qq⟩,hq] at hx
      simp only[Option.map_some,Option.some.injEq] at hx
      subst hx
      obtain⟨k1,k2⟩:=hk.sto.1 x (.lit cells) (by show aN.get ((d,SC.pure [])::s.sto) x=_;rw[aN.bW q6,fJ (Ne.symm LZ),cond_false];exact hq)
      refine⟨?_,k2⟩
      rcases k1 with ⟨c1,c2⟩|⟨b,arr,el,c1,c2,c3⟩
      ·have c2:cells=[]:=c2
       exact .inl ⟨c1,by subst c2;rfl⟩
      ·refine .inr ⟨b,arr,el,c1,c2,fun i e he => ?_⟩
       have he:(setAt cells j (.row d 0 0 sz))[i]? = some e:=he
       rw[vi] at he
       by_cases zo:i=j
       ·subst zo
        rw[if_pos rfl,hj] at he
        simp only[Option.map_some,Option.some.injEq] at he
        subst he
        obtain⟨u,d1,d2,d3⟩:=c3 i _ hj
        have d3:Rd I w .fu u:=d3
        refine⟨u,d1,d2,hL _ ((dy q6).2 (.inl rfl)),.inl ⟨by simp,rfl,?_⟩⟩
        cases d3;rfl
       ·rw[if_neg zo] at he
        obtain⟨u,d1,d2,d3⟩:=c3 i e he
        exact⟨u,d1,d2,d3.mono (fun _ _=>rfl) hL (fun _ h=>h) (fun _ _ _=>rfl) (fun _ _ _ _=>rfl)⟩
     ·have F2:aN.get ((d,SC.pure [])::s.sto) x=some sc:=by
       have hx:aN.get ((d,SC.pure [])::aN.set s.sto q (.lit (setAt cells j (.row d 0 0 sz)))) x=some sc:=hx
       rw[aN.bW q6] at hx ⊢
       cases hbx:Nat.beq d x with
       |true=>simpa[hbx] using hx
       |false =>
        simp only[hbx,cond_false] at hx ⊢
        rw[aN.kV,if_neg hxq] at hx
        exact hx
      obtain⟨k1,k2⟩:=hk.sto.1 x sc F2
      exact⟨k1.mono rfl (fun _ _=>rfl) (fun _ _=>rfl) hL (fun _ h=>h) (fun _ _ _=>rfl) (fun _ _ _ _=>rfl),k2⟩
   ·cases aP
  ·cases aP
end
end Go.Proofs.YtfjfekodeplcoaaGreat.Sym
