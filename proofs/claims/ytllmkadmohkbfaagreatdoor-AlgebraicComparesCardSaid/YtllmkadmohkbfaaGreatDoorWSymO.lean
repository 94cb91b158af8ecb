/- Lemmas for the statements of this seat. -/
import Derived.Test.YtllmkadmohkbfaaGreatDoorWSymN
namespace Go.Proofs.YtllmkadmohkbfaaGreatDoor.Sym
open Go Go.RowKit
inductive TE where
 |ba (hs:List Hint)
 |Y7 (fl hd:List Nat) (tl:List Nat) (hs:List Hint)
 |any (fl:List Nat) (hs:List Hint)
 |dec (d:Bool)
 |auto
 |aP (ts:List Nat)
 |drop (rs:List Nat)
 |iZ (t:Nat) (xs:List (List PV))
 |UQ (q j:Nat) (xs:List (List PV))
 |ju (t d sz:Nat)
 |MI (q j d sz:Nat)
 |cut (r k:Nat) (ps:List PV)
 |l7 (r r':Nat)
 |ord (rs:List Nat)
 |rel (t j:Nat) (xs:List (Option (List PV)))
 |N3
 |TU
 |Qx (t d sz:Nat)
def AJ(env:Env):List Nat→Env
 |[]=>[]
 |t::ts=>match env.get t with
  |some e=>(t,e)::AJ env ts
  |none=>AJ env ts
theorem z7{env:Env}{t:Nat}{e:EV} : ∀(ts:List Nat),(AJ env ts).get t=some e→env.get t=some e
 |[],h=>by simp[AJ,Env.get] at h
 |t'::ts,h=>by
  unfold AJ at h
  split at h
  ·rename_i e' mJ
   simp only[Env.get] at h
   cases hb:Nat.beq t' t with
   |true =>
    have:t'=t:=Nat.eq_of_beq_eq_true hb
    subst this
    simp only[hb,cond_true] at h
    rw[mJ];exact h
   |false =>
    simp only[hb,cond_false] at h
    exact z7 ts h
  ·exact z7 ts h
def setAt:List EV→Nat→EV→List EV
 |[],_,_=>[]
 |_::r,0,e=>e::r
 |x::r,n+1,e=>x::setAt r n e
theorem Ea:∀(l:List EV) (n:Nat) (e:EV) (j:Nat),(setAt l n e)[j]? = if j=n then (l[j]?).map (fun _=>e) else l[j]?
 |[],n,e,j=>by simp[setAt]
 |x::r,0,e,j=>by
  cases j with
  |zero=>simp[setAt]
  |succ j=>simp[setAt]
 |x::r,n+1,e,j=>by
  cases j with
  |zero=>simp[setAt]
  |succ j=>simp[setAt,Ea r n e j]
def vc(r r' x:Nat):Nat:=bif Nat.beq x r then r' else x
def GH(r r':Nat):EV→EV
 |.ptr x o => .ptr (vc r r' x) o
 |.row x o l z => .row (vc r r' x) o l z
 |.wj x o l z ps => .wj (vc r r' x) o l z ps
 |.H6 f x => .H6 f (vc r r' x)
 |e=>e
def EM(r r':Nat):SC→SC
 |.lit cs => .lit (cs.map (GH r r'))
 |sc=>sc
def Eb(r r':Nat):Env→Env
 |[]=>[]
 |(t,e)::env=>(t,GH r r' e)::Eb r r' env
def qq(r r':Nat):cq→cq
 |[]=>[]
 |(x,sc)::bp=>(vc r r' x,EM r r' sc)::qq r r' bp
def wy(bp:cq):List Nat→cq
 |[]=>[]
 |r::rs=>match bp.jG r with
  |some sc=>(r,sc)::wy bp rs
  |none=>wy bp rs
theorem yu(bp:cq):∀(rs:List Nat) (r:Nat),(wy bp rs).jG r=if r∈rs then bp.jG r else none
 |[],r=>by simp[wy,cq.jG]
 |q::rs,r=>by
  simp only[wy]
  cases hq:bp.jG q with
  |none =>
   simp only[yu bp rs r]
   by_cases h:r=q
   ·subst h;simp[hq]
   ·simp[h]
  |some sc =>
   simp only[cq.jG]
   cases hb:Nat.beq q r with
   |true =>
    have:q=r:=Nat.eq_of_beq_eq_true hb
    subst this
    simp[hq]
   |false =>
    have h:r≠q:=by intro e;subst e;simp at hb
    simp[yu bp rs r,h]
def uq(n:Nat)(s:St):TE→Option (St×List Prop)
 |.aP ts=>some (⟨AJ s.env ts,s.bp⟩,[])
 |.drop rs=>some (kK rs s,[])
 |.ord rs=>bif s.bp.all (fun x=>rs.contains x.1) then some (⟨s.env,wy s.bp rs⟩,[]) else none
 |.iZ t xs=>FJ n t xs s
 |.l7 r r'=>match s.bp.get r',s.bp.get r with
  |none,some _=>bif ((Nat.blt r n||Cw r)&&Nat.blt r 999999)&&Nat.blt r' n then some (⟨Eb r r' s.env,qq r r' s.bp⟩,[]) else none
  |_,_=>none
 |.cut r k ps'=>match s.bp.get r with
  |some (.pure ps)=>some (⟨s.env,cq.set s.bp r (.pure ps')⟩,[ps.take k=ps'])
  |_=>none
 |.UQ q j xs=>match s.bp.get q with
  |some (.lit cells)=>match cells[j]? with
   |some (.row r 0 len sz)=>match s.bp.get r,(kill r s).bp.get q with
    |some (.pure ps),some (.lit z8)=>bif Nat.blt r n then
      some (⟨(kill r s).env,cq.set (kill r s).bp q (.lit (setAt z8 j (.pv (.list xs))))⟩,[len=xs.length,ps=xs.flatten,∀row∈xs,row.length=sz]) else none
    |_,_=>none
   |_=>none
  |_=>none
 |.ju t d sz=>match s.env.get t,s.bp.get d with
  |some (.pv .gb),none=>bif Nat.blt d n&&Nat.blt t n then some (⟨(t,.row d 0 0 sz)::s.env,(d,.pure [])::s.bp⟩,[]) else none
  |_,_=>none
 |.MI q j d sz=>match s.bp.get q,s.bp.get d with
  |some (.lit cells),none=>match cells[j]? with
   |some (.pv .gb)=>bif Nat.blt d n then some (⟨s.env,(d,.pure [])::cq.set s.bp q (.lit (setAt cells j (.row d 0 0 sz)))⟩,[]) else none
   |_=>none
  |_,_=>none
 |_=>none
section
variable {P:Program} {T:qU} {Γ:Ctx} {s s':St} {a:Act} {w:World} {β:Nat→Option Nat} {I:Nat→Prop} {ob:List Prop}
theorem GI(r r':Nat):∀(env:Env) (t:Nat),(Eb r r' env).get t=(env.get t).map (GH r r')
 |[],t=>rfl
 |(t',e)::env,t=>by
  simp only[Eb,Env.get]
  cases Nat.beq t' t with
  |true=>rfl
  |false=>exact GI r r' env t
theorem GJ(n:Nat):Nat.beq n n=true:=Nat.beq_refl n
theorem AK{r r':Nat} : vc r r' r=r':=by unfold vc;rw[GJ];rfl
theorem pV{r r' x:Nat}(h:x≠r):vc r r' x=x:=by unfold vc;rw[mP h];rfl
theorem EN(r r':Nat):∀(bp:cq),bp.jG r'=none→(∀x sc,bp.jG x=some sc→(qq r r' bp).jG (vc r r' x)=some (EM r r' sc))∧(∀y sc',(qq r r' bp).jG y=some sc'→∃x sc,bp.jG x=some sc∧y=vc r r' x∧sc'=EM r r' sc)
 |[],_=>⟨fun x sc h=>by simp[cq.jG] at h,fun y sc' h=>by simp[qq,cq.jG] at h⟩
 |(x0,NZ)::bp,hn=>by
  have N4:x0≠r':=fun e=>by subst e;simp[cq.jG] at hn
  have WZ:cq.jG bp r'=none:=by simpa[cq.jG,mP N4] using hn
  obtain⟨ih1,W0⟩:=EN r r' bp WZ
  have inj:∀x,x≠r'→vc r r' x0=vc r r' x→x0=x:=by
   intro x hx h
   by_cases h1:x0=r
   ·by_cases h2:x=r
    ·rw[h1,h2]
    ·rw[h1,AK,pV h2] at h;exact absurd h.symm hx
   ·by_cases h2:x=r
    ·rw[h2,AK,pV h1] at h;exact absurd h N4
    ·rw[pV h1,pV h2] at h;exact h
  refine⟨fun x sc h => ?_,fun y sc' h => ?_⟩
  ·have Ii:x≠r':=fun e=>by subst e;rw[hn] at h;cases h
   simp only[cq.jG] at h
   simp only[qq,cq.jG]
   by_cases TV:x0=x
   ·subst TV
    rw[GJ] at h ⊢
    injection h with h;subst h;rfl
   ·rw[mP TV] at h
    rw[mP (fun e=>TV (inj x Ii e))]
    exact ih1 x sc h
  ·simp only[qq,cq.jG] at h
   by_cases hy:vc r r' x0=y
   ·subst hy
    rw[GJ] at h
    injection h with h
    exact⟨x0,NZ,by simp[cq.jG],rfl,h.symm⟩
   ·rw[mP hy] at h
    obtain⟨x,sc,h1,h2,h3⟩:=W0 y sc' h
    have TV:x0≠x:=fun e=>by subst e;exact hy h2.symm
    exact⟨x,sc,by simp only[cq.jG];rw[mP TV];exact h1,h2,h3⟩
theorem IW{r r':Nat}(hr:r<999999)(jn:r'<999999):∀(bp:cq),(qq r r' bp).jG 999999=(bp.jG 999999).map (EM r r')
 |[]=>rfl
 |(x0,NZ)::bp=>by
  simp only[qq,cq.jG,IW hr jn bp]
  by_cases h:x0=r
  ·subst h;rw[AK,mP (by omega),mP (by omega)];rfl
  ·rw[pV h];cases Nat.beq x0 999999<;>rfl
theorem MJ(r r':Nat)(hr:r<999999)(jn:r'<999999)(bp:cq)(hn:bp.get r'=none):(∀x sc,bp.get x=some sc→(qq r r' bp).get (vc r r' x)=some (EM r r' sc))∧(∀y sc',(qq r r' bp).get y=some sc'→∃x sc,bp.get x=some sc∧y=vc r r' x∧sc'=EM r r' sc):=by
 rw[cq.qZ jn] at hn
 obtain⟨g1,g2⟩:=EN r r' bp hn
 have hhp:(qq r r' bp).hp=bp.hp:=by
  unfold cq.hp
  rw[IW hr jn bp]
  cases bp.jG 999999 with
  |none=>rfl
  |some sc=>cases sc<;>rfl
 have Y8:∀x,x<999999→vc r r' x<999999:=fun x hx=>by
  by_cases h:x=r
  ·subst h;rw[AK];exact jn
  ·rw[pV h];exact hx
 have Pc:∀j,vc r r' (hc j)=hc j:=fun j=>pV (by unfold hc;omega)
 refine⟨fun x sc h => ?_,fun y sc' h => ?_⟩
 ·rcases KB x with hx|rfl|⟨j,rfl⟩
  ·rw[cq.qZ hx] at h
   rw[cq.qZ (Y8 x hx)]
   exact g1 x sc h
  ·rw[cq.mL] at h;cases h
  ·rw[cq.rJ] at h
   rw[Pc,cq.rJ,hhp,h]
   unfold yk at h
   split at h
   ·injection h with h;subst h;rfl
   ·cases h
 ·rcases KB y with hy|rfl|⟨j,rfl⟩
  ·rw[cq.qZ hy] at h
   obtain⟨x,sc,h1,h2,h3⟩:=g2 y sc' h
   have hx:x<999999:=by
    by_cases hx:x=r
    ·rw[hx];exact hr
    ·rw[pV hx] at h2;omega
   exact⟨x,sc,by rw[cq.qZ hx];exact h1,h2,h3⟩
  ·rw[cq.mL] at h;cases h
  ·rw[cq.rJ,hhp] at h
   refine⟨hc j,sc',by rw[cq.rJ];exact h,(Pc j).symm,?_⟩
   unfold yk at h
   split at h
   ·injection h with h;subst h;rfl
   ·cases h
theorem iA.l7{r r':Nat}(Qg:r<999999)(Y9:r'<999999)(hr:iA Γ s a w β I)(hn:s.bp.get r'=none)(SE:ee Γ.sin r→gv r)(Za:¬ee Γ.sin r') :
  iA Γ ⟨Eb r r' s.env,qq r r' s.bp⟩ a w (fun x=>if x=r' then β r else β x) I:=by
 obtain⟨g1,g2⟩:=MJ r r' Qg Y9 s.bp hn
 have hd:∀x,ee s.bp x→ee (qq r r' s.bp) (vc r r' x):=fun x hx=>by
  obtain⟨sc,we⟩:=Option.isSome_iff_exists.1 hx
  unfold ee;rw[g1 x sc we];rfl
 have hβ:∀x,ee s.bp x→(fun x=>if x=r' then β r else β x) (vc r r' x)=β x:=fun x hx=>by
  by_cases h1:x=r
  ·subst h1;rw[AK];simp
  ·have h2:x≠r':=fun e=>by subst e;unfold ee at hx;rw[hn] at hx;cases hx
   rw[pV h1];simp[h2]
 have TO:∀e v,RE β (ee s.bp) I w e v→RE (fun x=>if x=r' then β r else β x) (ee (qq r r' s.bp)) I w (GH r r' e) v:=by
  intro e v h
  cases e with
  |pv p=>exact h
  |ptr x off=>exact⟨hd x h.1,by rw[hβ x h.1];exact h.2⟩
  |row x off len sz=>exact⟨hd x h.1,by rw[hβ x h.1];exact h.2⟩
  |H6 f x=>exact⟨hd x h.1,by rw[hβ x h.1];exact h.2⟩
  |wj x off len sz ps =>
   obtain⟨us,g1,g2,⟨u,g3,g4,X5⟩,g5⟩:=h
   exact⟨us,g1,g2,⟨u,g3,hd x g4,by rw[hβ x g4];exact X5⟩,g5⟩
  |wi c=>exact h
  |dead=>exact h
  |xx j len sz =>
   have hj:vc r r' (hc j)=hc j:=pV (by unfold hc;omega)
   have h1:=hd (hc j) h.1
   have h2:=hβ (hc j) h.1
   rw[hj] at h1 h2
   exact⟨h1,by rw[h2];exact h.2⟩
  |u0 j off =>
   have hj:vc r r' (hc j)=hc j:=pV (by unfold hc;omega)
   have h1:=hd (hc j) h.1
   have h2:=hβ (hc j) h.1
   rw[hj] at h1 h2
   exact⟨h1,by rw[h2];exact h.2⟩
 have we:∀sc:SC,(EM r r' sc).zw=sc.zw.map (GH r r'):=fun sc=>by
  cases sc with
  |lit cs=>rfl
  |pure ps=>show ps.map EV.pv=(ps.map EV.pv).map (GH r r');rw[List.map_map];rfl
  |heap xs=>rfl
  |Mn hs sz=>simp[EM,SC.zw,GH]
 have back:∀y,ee (qq r r' s.bp) y→∃x,ee s.bp x∧y=vc r r' x:=fun y hy=>by
  obtain⟨sc',Pa⟩:=Option.isSome_iff_exists.1 hy
  obtain⟨x,sc,h1,h2,_⟩:=g2 y sc' Pa
  exact⟨x,by unfold ee;rw[h1];rfl,h2⟩
 refine⟨fun t e he => ?_,⟨fun y sc' hy => ?_,fun y y' b hy IV h1 h2 => ?_⟩,fun y hy Gk FK => ?_,fun y b hy Gk hb => ?_,hr.ib,hr.ii,hr.aP,hr.size,hr.defers⟩
 ·have he:(Eb r r' s.env).get t=some e:=he
  rw[GI] at he
  cases h0:s.env.get t with
  |none=>rw[h0] at he;cases he
  |some e0 =>
   rw[h0] at he
   injection he with he;subst he
   exact TO e0 _ (hr.env t e0 h0)
 ·obtain⟨x,sc,h1,h2,h3⟩:=g2 y sc' hy
  subst h2;subst h3
  have Ma:ee s.bp x:=by unfold ee;rw[h1];rfl
  obtain⟨k1,k2⟩:=hr.bp.1 x sc h1
  refine⟨?_,fun b hb=>k2 b (by rw[←hβ x Ma];exact hb)⟩
  rw[we]
  rcases k1 with ⟨c1,c2⟩|⟨b,arr,el,c1,c2,c3⟩
  ·exact .inl ⟨by rw[hβ x Ma];exact c1,by rw[c2];rfl⟩
  ·refine .inr ⟨b,arr,el,by rw[hβ x Ma];exact c1,c2,fun j e he => ?_⟩
   rw[List.getElem?_map] at he
   cases h0:sc.zw[j]? with
   |none=>rw[h0] at he;cases he
   |some e0 =>
    rw[h0] at he
    injection he with he;subst he
    obtain⟨u,d1,d2,d3⟩:=c3 j e0 h0
    exact⟨u,d1,d2,TO e0 u d3⟩
 ·obtain⟨x,hx,rfl⟩:=back y hy
  obtain⟨x',CR,rfl⟩:=back y' IV
  rw[hβ x hx] at h1
  rw[hβ x' CR] at h2
  rw[hr.bp.2 x x' b hx CR h1 h2]
 ·obtain⟨x,hx,rfl⟩:=back y hy
  refine(hβ x hx).trans ?_
  by_cases h1:x=r
  ·subst h1;rw[AK] at Gk;exact absurd Gk Za
  ·rw[pV h1] at Gk FK ⊢;exact hr.par x hx Gk FK
 ·obtain⟨x,hx,rfl⟩:=back y hy
  have ye:β x=some b:=(hβ x hx).symm.trans hb
  by_cases h1:x=r
  ·subst h1
   by_cases hd:ee Γ.sin x
   ·exact hr.new x b hx (.inr (SE hd)) ye
   ·exact hr.new x b hx (.inl hd) ye
  ·rw[pV h1] at Gk;exact hr.new x b hx Gk ye
theorem JD(hs:∀r,ee Γ.sin r→Γ.n≤r){te:TE}(hr:Rel Γ s a w)(bz:uq Γ.n s te=some (s',ob))(fK:je ob):Rel Γ s' a w:=by
 obtain⟨β,I,hr⟩:=hr
 cases te with
 |ba _=>cases bz
 |Y7 _ _ _ _=>cases bz
 |any _ _=>cases bz
 |dec _=>cases bz
 |auto=>cases bz
 |aP ts =>
  injection bz with bz;injection bz with h1 h2
  subst h1
  exact⟨β,I,fun t e he=>hr.env t e (z7 ts he),hr.bp,hr.par,hr.new,hr.ib,hr.ii,hr.aP,hr.size,hr.defers⟩
 |drop rs =>
  injection bz with bz;injection bz with h1 h2
  subst h1
  exact⟨β,I,iA.kK rs hr⟩
 |iZ t xs=>exact Bp hs ⟨β,I,hr⟩ bz fK
 |rel t j xs=>simp[uq] at bz
 |N3=>simp[uq] at bz
 |TU=>simp[uq] at bz
 |Qx t d sz=>simp[uq] at bz
 |ord rs =>
  simp only[uq] at bz
  cases hb:s.bp.all (fun x=>rs.contains x.1) with
  |false=>rw[hb] at bz;cases bz
  |true =>
   rw[hb] at bz
   injection bz with bz;injection bz with h1 h2
   subst h1
   refine Rel.SD (s:=s) ⟨fun _=>rfl,fun r => ?_⟩ ⟨β,I,hr⟩
   show(wy s.bp rs).get r=s.bp.get r
   have key:∀r,(wy s.bp rs).jG r=s.bp.jG r:=fun r=>by
    rw[yu]
    split
    ·rfl
    ·rename_i hn
     cases hg:s.bp.jG r with
     |none=>rfl
     |some sc =>
      rw[List.all_eq_true] at hb
      have:=hb _ (cq.CQ hg)
      exact absurd (by simpa using this) hn
   unfold cq.get cq.hp
   rw[key,key]
 |l7 r r' =>
  simp only[uq] at bz
  split at bz
  ·rename_i hn _
   cases hb:(((Nat.blt r Γ.n||Cw r)&&Nat.blt r 999999)&&Nat.blt r' Γ.n) with
   |false=>rw[hb] at bz;cases bz
   |true =>
    rw[hb] at bz
    injection bz with bz;injection bz with h1 h2
    subst h1
    rw[Bool.and_eq_true,Bool.and_eq_true,Bool.or_eq_true] at hb
    have hb9:=hb.1.2
    replace hb:=And.intro hb.1.1 hb.2
    exact⟨_,I,hr.l7 (Nat.le_of_ble_eq_true hb9) (Nat.lt_of_lt_of_le (Nat.le_of_ble_eq_true hb.2) Γ.small) hn (fun h=>hb.1.elim (fun hb=>absurd (hs r h) (Nat.not_le_of_lt (Nat.le_of_ble_eq_true hb))) (fun hb=>Nat.le_of_ble_eq_true hb)) (fun h=>absurd (hs r' h) (Nat.not_le_of_lt (Nat.le_of_ble_eq_true hb.2)))⟩
  ·cases bz
 |cut r k ps' =>
  simp only[uq] at bz
  split at bz
  ·rename_i ps uR
   injection bz with bz;injection bz with h1 h2
   subst h1;subst h2
   have fK:ps.take k=ps':=fK
   subst fK
   have hL:∀x,ee s.bp x→ee (cq.set s.bp r (.pure (ps.take k))) x:=fun x hx=>ml.2 hx
   refine⟨β,I,fun t e he=>(hr.env t e he).mono (fun _ _=>rfl) hL (fun _ h=>h) (fun _ _ _=>rfl) (fun _ _ _ _=>rfl),⟨fun x sc hx => ?_,fun x y b hx hy=>hr.bp.2 x y b (ml.1 hx) (ml.1 hy)⟩,
    fun x hx=>hr.par x (ml.1 hx),fun x b hx=>hr.new x b (ml.1 hx),hr.ib,hr.ii,hr.aP,hr.size,hr.defers⟩
   have hx:(cq.set s.bp r (.pure (ps.take k))).get x=some sc:=hx
   rw[cq.rL] at hx
   by_cases Ii:x=r∧r<999999
   ·obtain⟨rfl,Qg⟩:=Ii
    rw[if_pos ⟨rfl,Qg⟩,uR] at hx
    simp only[Option.map_some,Option.some.injEq] at hx
    subst hx
    obtain⟨k1,k2⟩:=hr.bp.1 x _ uR
    refine⟨?_,k2⟩
    rcases k1 with ⟨c1,c2⟩|⟨b,arr,el,c1,c2,c3⟩
    ·have c2:ps.map EV.pv=[]:=c2
     exact .inl ⟨c1,by show(ps.take k).map EV.pv=[];rw[List.map_take,c2];simp⟩
    ·refine .inr ⟨b,arr,el,c1,c2,fun i e he => ?_⟩
     have he:((ps.take k).map EV.pv)[i]? = some e:=he
     rw[List.map_take] at he
     have bH:=(List.getElem?_eq_some_iff.1 he).1
     rw[List.length_take] at bH
     rw[List.getElem?_take_of_lt (by omega)] at he
     obtain⟨u,d1,d2,d3⟩:=c3 i e he
     exact⟨u,d1,d2,d3.mono (fun _ _=>rfl) hL (fun _ h=>h) (fun _ _ _=>rfl) (fun _ _ _ _=>rfl)⟩
   ·rw[if_neg Ii] at hx
    obtain⟨k1,k2⟩:=hr.bp.1 x sc hx
    exact⟨k1.mono rfl (fun _ _=>rfl) (fun _ _=>rfl) hL (fun _ h=>h) (fun _ _ _=>rfl) (fun _ _ _ _=>rfl),k2⟩
  ·cases bz
 |UQ q j xs =>
  simp only[uq] at bz
  split at bz
  ·rename_i cells hq
   split at bz
   ·rename_i r len sz hj
    split at bz
    ·rename_i ps z8 uR AL
     cases hb:Nat.blt r Γ.n with
     |false=>simp[hb] at bz
     |true =>
      simp only[hb,cond_true] at bz
      have SE:r<Γ.n:=Nat.le_of_ble_eq_true hb
      injection bz with bz;injection bz with h1 h2
      subst h1;subst h2
      obtain⟨g1,fK⟩:=fK.cons
      obtain⟨g2,g3⟩:=fK.cons
      have NV:=(hr.bp.1 r _ uR).1
      have DW:ee s.bp r:=by unfold ee;rw[uR];rfl
      have KO:¬ee Γ.sin r:=fun h=>absurd (hs r h) (Nat.not_le_of_lt SE)
      have fin:∀I',(∀b,I b→I' b)→(∀b,β r=some b→I' b)→iA Γ (kill r s) a w β I'→Rel Γ ⟨(kill r s).env,cq.set (kill r s).bp q (.lit (setAt z8 j (.pv (.list xs))))⟩ a w:=by
       intro I' hI YX hk
       have hL:∀x,ee (kill r s).bp x→ee (cq.set (kill r s).bp q (.lit (setAt z8 j (.pv (.list xs))))) x:=fun x hx=>ml.2 hx
       refine⟨β,I',fun t e he=>(hk.env t e he).mono (fun _ _=>rfl) hL (fun _ h=>h) (fun _ _ _=>rfl) (fun _ _ _ _=>rfl),⟨fun x sc hx => ?_,fun x y b hx hy=>hk.bp.2 x y b (ml.1 hx) (ml.1 hy)⟩,
        fun x hx=>hk.par x (ml.1 hx),fun x b hx=>hk.new x b (ml.1 hx),hk.ib,hk.ii,hk.aP,hk.size,hk.defers⟩
       have hx:(cq.set (kill r s).bp q (.lit (setAt z8 j (.pv (.list xs))))).get x=some sc:=hx
       rw[cq.rL] at hx
       by_cases hxq:x=q∧q<999999
       ·obtain⟨rfl,Zb⟩:=hxq
        rw[if_pos ⟨rfl,Zb⟩,AL] at hx
        simp only[Option.map_some,Option.some.injEq] at hx
        subst hx
        obtain⟨k1,k2⟩:=hk.bp.1 x _ AL
        refine⟨?_,k2⟩
        rcases k1 with ⟨c1,c2⟩|⟨b,arr,el,c1,c2,c3⟩
        ·have c2:z8=[]:=c2
         exact .inl ⟨c1,by subst c2;rfl⟩
        ·refine .inr ⟨b,arr,el,c1,c2,fun i e he => ?_⟩
         have he:(setAt z8 j (.pv (.list xs)))[i]? = some e:=he
         rw[Ea] at he
         by_cases Bh:i=j
         ·subst Bh
          rw[if_pos rfl] at he
          cases hc:z8[i]? with
          |none=>simp[hc] at he
          |some e' =>
           simp[hc] at he
           subst he
           obtain⟨u,d1,d2,_⟩:=c3 i e' hc
           obtain⟨o1,o2⟩:=hr.bp.1 x _ hq
           obtain⟨zQ,el',p1,_,p3⟩:=o1.block c1
           rw[c2] at p1
           injection p1 with p1;injection p1 with p1 _
           subst p1
           obtain⟨u',q1,_,q3⟩:=p3 i _ hj
           have:u'=u:=by rw[d1] at q1;injection q1 with q1;exact q1.symm
           subst this
           exact⟨u',d1,d2,Gx q3 NV g1 g2 g3 hI YX⟩
         ·rw[if_neg Bh] at he
          obtain⟨u,d1,d2,d3⟩:=c3 i e he
          exact⟨u,d1,d2,d3.mono (fun _ _=>rfl) hL (fun _ h=>h) (fun _ _ _=>rfl) (fun _ _ _ _=>rfl)⟩
       ·rw[if_neg hxq] at hx
        obtain⟨k1,k2⟩:=hk.bp.1 x sc hx
        exact⟨k1.mono rfl (fun _ _=>rfl) (fun _ _=>rfl) hL (fun _ h=>h) (fun _ _ _=>rfl) (fun _ _ _ _=>rfl),k2⟩
      cases uI:β r with
      |none=>exact fin I (fun _ h=>h) (fun b kI=>by rw[uI] at kI;cases kI) (hr.kill r)
      |some b =>
       exact fin _ (fun _ h => .inl h) (fun b' kI=>by rw[uI] at kI;injection kI with kI;exact .inr kI.symm)
        ((hr.kill r).WT (b:=b) ((hr.bp.1 r _ uR).2 b uI).1 (hr.new r b DW (.inl KO) uI) (fun x hx e=>(kd.1 hx).2 (hr.bp.2 x r b (kd.1 hx).1 DW e uI)))
    ·cases bz
   ·cases bz
  ·cases bz
 |ju t d sz =>
  simp only[uq] at bz
  split at bz
  ·rename_i he hd
   cases hb:(Nat.blt d Γ.n&&Nat.blt t Γ.n) with
   |false=>simp[hb] at bz
   |true =>
    simp only[hb,cond_true] at bz
    simp only[Bool.and_eq_true] at hb
    have Bn:d<Γ.n:=Nat.le_of_ble_eq_true hb.1
    injection bz with bz;injection bz with h1 h2
    subst h1
    have DY:¬ee s.bp d:=by unfold ee;rw[hd];simp
    have KO:¬ee Γ.sin d:=fun h=>absurd (hs d h) (Nat.not_le_of_lt Bn)
    have hv:Rd I w .gb (a.tmps.getD t undef):=hr.env t _ he
    have zG:d<999999:=Nat.lt_of_lt_of_le Bn Γ.small
    have h2:=hr.site (d:=d) (sc := .pure []) zG DY KO (β':=fun x=>if x=d then none else β x) (fun x hx=>if_neg hx) (fun b kI=>by simp at kI) (.inl ⟨by simp,rfl⟩)
    refine⟨_,_,h2.UM ⟨(jf zG).2 (.inl rfl),.inl ⟨by simp,rfl,?_⟩⟩⟩
    generalize a.tmps.getD t undef=v at hv
    cases hv;rfl
  ·cases bz
 |MI q j d sz =>
  simp only[uq] at bz
  split at bz
  ·rename_i cells hq hd
   split at bz
   ·rename_i hj
    cases hb:Nat.blt d Γ.n with
    |false=>simp[hb] at bz
    |true =>
     simp only[hb,cond_true] at bz
     have Bn:d<Γ.n:=Nat.le_of_ble_eq_true hb
     injection bz with bz;injection bz with h1 h2
     subst h1
     have DY:¬ee s.bp d:=by unfold ee;rw[hd];simp
     have KO:¬ee Γ.sin d:=fun h=>absurd (hs d h) (Nat.not_le_of_lt Bn)
     have zG:d<999999:=Nat.lt_of_lt_of_le Bn Γ.small
     have hk:=hr.site (d:=d) (sc := .pure []) zG DY KO (β':=fun x=>if x=d then none else β x) (fun x hx=>if_neg hx) (fun b kI=>by simp at kI) (.inl ⟨by simp,rfl⟩)
     have hdq:q≠d:=fun e=>by subst e;rw[hq] at hd;cases hd
     have hL:∀x,ee ((d,SC.pure [])::s.bp) x→ee ((d,SC.pure [])::cq.set s.bp q (.lit (setAt cells j (.row d 0 0 sz)))) x:=fun x hx=>by
      rcases(jf zG).1 hx with hx|hx
      ·exact(jf zG).2 (.inl hx)
      ·exact(jf zG).2 (.inr (ml.2 hx))
     have Ye:∀x,ee ((d,SC.pure [])::cq.set s.bp q (.lit (setAt cells j (.row d 0 0 sz)))) x→ee ((d,SC.pure [])::s.bp) x:=fun x hx=>by
      rcases(jf zG).1 hx with hx|hx
      ·exact(jf zG).2 (.inl hx)
      ·exact(jf zG).2 (.inr (ml.1 hx))
     refine⟨_,I,fun t e he=>(hk.env t e he).mono (fun _ _=>rfl) hL (fun _ h=>h) (fun _ _ _=>rfl) (fun _ _ _ _=>rfl),⟨fun x sc hx => ?_,fun x y b hx hy=>hk.bp.2 x y b (Ye x hx) (Ye y hy)⟩,
      fun x hx=>hk.par x (Ye x hx),fun x b hx=>hk.new x b (Ye x hx),hk.ib,hk.ii,hk.aP,hk.size,hk.defers⟩
     by_cases hxq:x=q∧q<999999
     ·obtain⟨rfl,Zb⟩:=hxq
      have hx:cq.get ((d,SC.pure [])::cq.set s.bp x (.lit (setAt cells j (.row d 0 0 sz)))) x=some sc:=hx
      rw[cq.qH zG,mP (Ne.symm hdq),cond_false,cq.rL,if_pos ⟨rfl,Zb⟩,hq] at hx
      simp only[Option.map_some,Option.some.injEq] at hx
      subst hx
      obtain⟨k1,k2⟩:=hk.bp.1 x (.lit cells) (by show cq.get ((d,SC.pure [])::s.bp) x=_;rw[cq.qH zG,mP (Ne.symm hdq),cond_false];exact hq)
      refine⟨?_,k2⟩
      rcases k1 with ⟨c1,c2⟩|⟨b,arr,el,c1,c2,c3⟩
      ·have c2:cells=[]:=c2
       exact .inl ⟨c1,by subst c2;rfl⟩
      ·refine .inr ⟨b,arr,el,c1,c2,fun i e he => ?_⟩
       have he:(setAt cells j (.row d 0 0 sz))[i]? = some e:=he
       rw[Ea] at he
       by_cases Bh:i=j
       ·subst Bh
        rw[if_pos rfl,hj] at he
        simp only[Option.map_some,Option.some.injEq] at he
        subst he
        obtain⟨u,d1,d2,d3⟩:=c3 i _ hj
        have d3:Rd I w .gb u:=d3
        refine⟨u,d1,d2,hL _ ((jf zG).2 (.inl rfl)),.inl ⟨by simp,rfl,?_⟩⟩
        cases d3;rfl
       ·rw[if_neg Bh] at he
        obtain⟨u,d1,d2,d3⟩:=c3 i e he
        exact⟨u,d1,d2,d3.mono (fun _ _=>rfl) hL (fun _ h=>h) (fun _ _ _=>rfl) (fun _ _ _ _=>rfl)⟩
     ·have Fu:cq.get ((d,SC.pure [])::s.bp) x=some sc:=by
       have hx:cq.get ((d,SC.pure [])::cq.set s.bp q (.lit (setAt cells j (.row d 0 0 sz)))) x=some sc:=hx
       rw[cq.qH zG] at hx ⊢
       cases hbx:Nat.beq d x with
       |true=>simpa[hbx] using hx
       |false =>
        simp only[hbx,cond_false] at hx ⊢
        rw[cq.rL,if_neg hxq] at hx
        exact hx
      obtain⟨k1,k2⟩:=hk.bp.1 x sc Fu
      exact⟨k1.mono rfl (fun _ _=>rfl) (fun _ _=>rfl) hL (fun _ h=>h) (fun _ _ _=>rfl) (fun _ _ _ _=>rfl),k2⟩
   ·cases bz
  ·cases bz
end
end Go.Proofs.YtllmkadmohkbfaaGreatDoor.Sym
