/- Lemmas for the statements of this seat. -/
import Derived.Test.YtneklnlpgfeplaaGreatW8
import Derived.Laws.AppendOwn
namespace Go.Proofs.YtneklnlpgfeplaaGreat.Sym
open Go Go.RowKit
theorem gm{a b:Nat}(h:a≠b):Nat.beq a b=false:=by
 cases hb:Nat.beq a b with
 |false=>rfl
 |true=>exact absurd (abO hb) h
abbrev Env:=List (Nat×EV)
def Env.get:Env→Nat→Option EV
 |[],_=>none
 |(t',e)::r,t=>bif Nat.beq t' t then some e else Env.get r t
structure St where
 env:Env
 aP:aY
def Du:Value→Option PV
 |.bool b=>some (.bool b)
 |.int k n=>some (.int k n)
 |.string s=>some (.str s)
 |.nilIface=>some .ar
 |.slice none 0 0=>some (.list [])
 |.nilFunc=>some .bD
 |.pointer none=>some .uv
 |_=>none
theorem Gl{v:Value}{p:PV}(h:Du v=some p)(I:Nat→Prop)(w:World):Rd I w p v:=by
 unfold Du at h;split at h<;>first|(cases h;done)|(injection h with h;subst h)
 ·exact .bool _
 ·exact .int _ _
 ·exact .str _
 ·exact .ar
 ·exact .nil _ _
 ·exact .bD
 ·exact .uv
def cU(env:Env):Operand→Option EV
 |.tmp t=>env.get t
 |.const v=>match Du v with
  |some p=>some (.pv p)
  |none=>none
 |.func f=>some (.pv (.fn f))
 |.global _=>none
def bz(s:aY)(r:Nat):Prop:=(s.get r).isSome=true
theorem aY.get_nil(x:Nat):aY.get [] x=none:=by
 rcases Dn x with h|rfl|⟨j,rfl⟩
 ·rw[aY.jB h];rfl
 ·rfl
 ·rw[aY.kI];rfl
theorem jU{x:Nat} : ¬bz [] x:=fun h=>by unfold bz at h;rw[aY.get_nil] at h;cases h
def mw(β:Nat→Option Nat)(I:Nat→Prop)(w:World)(aP:aY):Prop :=
 (∀r sc,aP.get r=some sc→RB β (bz aP) I w r sc.oe∧∀b,β r=some b→b<w.heap.size∧¬I b) ∧
 ∀r r' b,bz aP r→bz aP r'→β r=some b→β r'=some b→r=r'
def kh(_:aY)(_:Nat→Option Nat)(_:World):Prop:=True
theorem kh.mono{sin JX:aY}{β β':Nat→Option Nat}{w w':World}(_:kh sin β w)(_:∀k,k<w.heap.size→(∀x,bz sin x→β x≠some k)→w'.heap[k]? = w.heap[k]?)
  (_:∀x b,bz JX x→β' x=some b→w.heap.size≤b∨∃y,bz sin y∧β y=some b):kh JX β' w':=True.intro
theorem kh.uy{sin:aY}{β:Nat→Option Nat}{w:World} : kh sin β w:=True.intro
theorem kh.sub{sin JX:aY}{β β':Nat→Option Nat}{w:World}(h:kh sin β w)(hd:∀x b,bz JX x→β' x=some b→∃y,bz sin y∧β y=some b):kh JX β' w :=
 h.mono (fun _ _ _=>rfl) (fun x b hx hb => .inr (hd x b hx hb))
theorem kh.nil{sin:aY}{β β':Nat→Option Nat}{w:World}(h:kh sin β w):kh [] β' w:=h.sub (fun _ _ hx=>absurd hx jU)
structure Ctx where
 w0:World
 I0:Nat→Prop
 sin:aY
 β0:Nat→Option Nat
 n:Nat
 small:n≤999999
 lay:kh sin β0 w0
def Ctx.M(Γ:Ctx)(b:Nat):Prop:=∃r,bz Γ.sin r∧Γ.β0 r=some b
structure gV (M:Nat→Prop) (w w':World):Prop where
 os:w'.os=w.os
 tape:w'.tape=w.tape
 output:w'.output=w.output
 size:w.heap.size≤w'.heap.size
 block:∀k,k<w.heap.size→¬M k→w'.heap[k]? = w.heap[k]?
 shape:∀k,k<w.heap.size→w'.shape? k=w.shape? k
 drawn:Yb→w.drawn≤w'.drawn
theorem gV.refl(M:Nat→Prop)(w:World):gV M w w:=⟨rfl,rfl,rfl,abW _,fun _ _ _=>rfl,fun _ _=>rfl,fun _=>abW _⟩
theorem gV.trans{M M':Nat→Prop}{a b c:World}(h:gV M a b)(k:gV M' b c)(hM:∀x,x<a.heap.size→M' x→M x):gV M a c :=
 ⟨k.os.trans h.os,k.tape.trans h.tape,k.output.trans h.output,abZ h.size k.size,
  fun i hi hm=>(k.block i (ac4 hi h.size) (fun Rn=>hm (hM i hi Rn))).trans (h.block i hi hm),
  fun i hi=>(k.shape i (ac4 hi h.size)).trans (h.shape i hi),fun s=>abZ (h.drawn s) (k.drawn s)⟩
theorem gV.wb{M:Nat→Prop}{w w':World}(h:yK w.heap.size w w'):gV M w w' :=
 ⟨h.os,h.tape,h.output,h.size,fun k hk _=>h.block k hk,fun k hk=>kH (h.block k hk),h.drawn⟩
def gv(x:Nat):Prop:=200000≤x
def B3(sin:aY)(β:Nat→Option Nat)(b:Nat):Prop:=∃x,gv x∧bz sin x∧β x=some b
def Ctx.Nw(Γ:Ctx)(b:Nat):Prop:=Γ.w0.heap.size≤b∨B3 Γ.sin Γ.β0 b
theorem Ctx.Nw.m{Γ:Ctx}{b:Nat}(h:Γ.Nw b)(hb:b<Γ.w0.heap.size):Γ.M b:=by
 rcases h with h|⟨x,_,h1,h2⟩
 ·omega
 ·exact⟨x,h1,h2⟩
structure dh (Γ:Ctx) (s:St) (a:Act) (w:World) (β:Nat→Option Nat) (I:Nat→Prop):Prop where
 env:∀t e,s.env.get t=some e→RE β (bz s.aP) I w e (a.tmps.getD t undef)
 aP:mw β I w s.aP
 par:∀r,bz s.aP r→bz Γ.sin r→¬gv r→β r=Γ.β0 r
 new:∀r b,bz s.aP r→(¬bz Γ.sin r∨gv r)→β r=some b→Γ.Nw b
 ib:∀b,I b→b<w.heap.size
 ii:∀b,I b→Γ.I0 b∨fresh Γ.w0 w b∨B3 Γ.sin Γ.β0 b
 aW:gV Γ.M Γ.w0 w
 size:a.tmps.size=Γ.n
 defers:a.defers=[]
def Rel(Γ:Ctx)(s:St)(a:Act)(w:World):Prop:=∃β I,dh Γ s a w β I
theorem dh.lay{Γ:Ctx}{s:St}{a:Act}{w:World}{β:Nat→Option Nat}{I:Nat→Prop}(h:dh Γ s a w β I):kh s.aP β w :=
 Γ.lay.mono (fun k hk hn=>h.aW.block k hk (fun ⟨x,hx,hb⟩=>hn x hx hb)) (fun x b hx hb=>by
  by_cases h1:bz Γ.sin x∧¬gv x
  ·exact .inr ⟨x,h1.1,(h.par x hx h1.1 h1.2).symm.trans hb⟩
  ·rcases h.new x b hx (by
    by_cases h2:bz Γ.sin x
    ·exact .inr (aco fun h3=>h1 ⟨h2,h3⟩)
    ·exact .inl h2) hb with h4|⟨y,_,hy,yY⟩
   ·exact .inl h4
   ·exact .inr ⟨y,hy,yY⟩)
theorem MM{a:Act}{d:Nat}{v:Value}(hd:d<a.tmps.size)(t:Nat):(a.put (some d) v).tmps.getD t undef=if t=d then v else a.tmps.getD t undef:=by
 show(a.tmps.setIfInBounds d v).getD t undef=_;simp only[Array.getD_eq_getD_getElem?,Array.getElem?_setIfInBounds];by_cases h:d=t
 ·subst h;simp[hd]
 ·rw[ac3 h,ac3 (fun e=>h e.symm)]
theorem nj(a:Act)(d:Option Tmp)(v:Value):(a.put d v).tmps.size=a.tmps.size:=by cases d<;>simp[Act.put]
theorem put_defers(a:Act)(d:Option Tmp)(v:Value):(a.put d v).defers=a.defers:=by cases d<;>rfl
section
variable {Γ:Ctx} {s:St} {a:Act} {w:World} {β:Nat→Option Nat} {I:Nat→Prop}
theorem dh.lb(h:dh Γ s a w β I):∀r b,bz s.aP r→β r=some b→b<w.heap.size:=by intro r b hr hb;obtain⟨sc,gS⟩:=abP.1 hr;exact((h.aP.1 r sc gS).2 b hb).1
theorem dh.zZ(h:dh Γ s a w β I)(x:Operand)(e:EV)(he:Sym.cU s.env x=some e):RE β (bz s.aP) I w e (a.eval x):=by
 cases x with
 |tmp t=>exact h.env t e he
 |const v =>
  simp only[Sym.cU] at he;split at he
  ·rename_i p hp;injection he with he;subst he
   exact Gl hp I w
  ·cases he
 |func f=>injection he with he;subst he;exact Rd.fn f
 |global g=>cases he
theorem dh.pre(h:dh Γ s a w β I):xZ a w β (bz s.aP) I s.aP (cU s.env) :=
 ⟨fun x e he=>dh.zZ h x e he,fun r sc hr _=>(h.aP.1 r sc hr).1,h.lb,h.ib⟩
theorem dh.grow(h:dh Γ s a w β I){w':World}{I':Nat→Prop}(hb:yK w.heap.size w w')(h1:∀b,I b→I' b)(h2:∀b,I' b→I b∨fresh w w' b):dh Γ s a w' β I':=by
 have hw:∀b o,I b→w'.cell? ⟨b,o,none⟩=w.cell? ⟨b,o,none⟩:=fun b o hI=>fh (hb.block b (h.ib b hI)) o
 have hs:∀r b,bz s.aP r→β r=some b→w'.shape? b=w.shape? b:=fun r b hr lA=>kH (hb.block b (h.lb r b hr lA))
 refine⟨fun t e he=>(h.env t e he).mono (fun _ _=>rfl) (fun _ h=>h) h1 hw hs,⟨fun r sc hr => ?_,h.aP.2⟩,h.par,h.new,fun b hI => ?_,fun b hI => ?_,h.aW.trans (gV.wb hb) (fun _ _ h=>h),h.size,h.defers⟩
 ·obtain⟨g1,g2⟩:=h.aP.1 r sc hr;have hd:bz s.aP r:=by unfold bz;rw[hr];rfl
  refine⟨g1.mono rfl (fun b lA=>hb.block b (h.lb r b hd lA)) (fun _ _=>rfl) (fun _ h=>h) h1 hw hs,fun b lA=>⟨ac4 (g2 b lA).1 hb.size,fun hI => ?_⟩⟩;rcases h2 b hI with hI|hf
  ·exact(g2 b lA).2 hI
  ·have:=(g2 b lA).1;have:=hf.1;omega
 ·rcases h2 b hI with hI|hf
  ·exact ac4 (h.ib b hI) hb.size
  ·exact hf.2
 ·rcases h2 b hI with hI|hf
  ·rcases h.ii b hI with h3|h3
   ·exact .inl h3
   ·exact .inr (h3.imp (fun h3=>⟨h3.1,ac4 h3.2 hb.size⟩) id)
  ·exact .inr (.inl ⟨abZ h.aW.size hf.1,hf.2⟩)
def nN(env:Env)(dst:Option Nat)(e:EV):Env:=match dst with
 |none=>env
 |some d=>(d,e)::env
theorem dh.put(h:dh Γ s a w β I){dst:Option Nat}{e:EV}{v:Value}(hd:∀d,dst=some d→d<Γ.n)(he:RE β (bz s.aP) I w e v) :
  dh Γ ⟨nN s.env dst e,s.aP⟩ (a.put dst v) w β I:=by
 refine⟨fun t e' gi => ?_,h.aP,h.par,h.new,h.ib,h.ii,h.aW,by rw[nj];exact h.size,by rw[put_defers];exact h.defers⟩;cases dst with
 |none=>exact h.env t e' gi
 |some d =>
  rw[MM (by rw[h.size];exact hd d rfl)];simp only[nN,Env.get] at gi;by_cases ht:t=d
  ·subst ht;simp only[Nat.beq_refl,cond_true] at gi;injection gi with gi;subst gi
   simpa using he
  ·have:Nat.beq d t=false:=gm (Ne.symm ht);simp only[this,cond_false] at gi;rw[ac3 ht];exact h.env t e' gi
def FE.at(r:Nat):FE→Bool
 |.pv _=>false
 |.row x _ _ _=>Nat.beq x r
 |.ig j _ _=>bif Nat.blt r 1000000 then false else Nat.beq (hc j) r
def gK(r:Nat):EV→EV
 |.lz fs=>bif fs.any (FE.at r) then .dead else .lz fs
 |.ptr r' off=>bif Nat.beq r' r then .dead else .ptr r' off
 |.row r' off len sz=>bif Nat.beq r' r then .dead else .row r' off len sz
 |.jA r' off len sz ps=>bif Nat.beq r' r then .dead else .jA r' off len sz ps
 |.mD f r'=>bif Nat.beq r' r then .dead else .mD f r'
 |.iu r' off ps=>bif Nat.beq r' r then .dead else .iu r' off ps
 |.cM f bs rs=>bif (bs++rs).any (fun x=>Nat.beq x r) then .dead else .cM f bs rs
 |.ig j len sz=>bif Nat.blt r 1000000 then .ig j len sz else bif Nat.beq (hc j) r then .dead else .ig j len sz
 |.mE j off=>bif Nat.blt r 1000000 then .mE j off else bif Nat.beq (hc j) r then .dead else .mE j off
 |e=>e
def kJ(r:Nat):SC→SC
 |.lit cs => .lit (cs.map (gK r))
 |.pure ps => .pure ps
 |.heap xs=>bif Nat.blt r 1000000 then .heap xs else .heap (xs.set (r-1000000) none)
 |.Ew hs sz=>bif Nat.blt r 1000000 then .Ew hs sz else .lit ((hs.map fun x=>EV.ig x.1 x.2 sz).map (gK r))
 |.Ex hs sz=>bif Nat.blt r 1000000 then .Ex hs sz else .lit ((JQ hs sz).map (gK r))
def dE(r:Nat):aY→aY
 |[]=>[]
 |(r',c)::s=>bif Nat.beq r' r&&Nat.blt r 999999 then dE r s else (r',kJ r c)::dE r s
def wc(r:Nat):Env→Env
 |[]=>[]
 |(t,e)::s=>(t,gK r e)::wc r s
def kill(r:Nat)(s:St):St:=⟨wc r s.env,dE r s.aP⟩
theorem lC(r:Nat):∀(s:aY) (x:Nat),(dE r s).cD x=if x=r∧r<999999 then none else (s.cD x).map (kJ r)
 |[],x=>by simp[dE,aY.cD]
 |(r',c)::s,x=>by
  simp only[dE];by_cases hr:r<999999
  ·have dx:Nat.blt r 999999=true:=acN hr;simp only[dx,Bool.and_true,hr,and_true];cases hb:Nat.beq r' r with
   |true =>
    have:r'=r:=abO hb;subst this;simp only[cond_true,lC r' s x,aY.cD,hr,and_true];by_cases hx:x=r'
    ·simp[hx]
    ·have h2:Nat.beq r' x=false:=gm (Ne.symm hx);simp[hx,h2]
   |false =>
    simp only[cond_false,aY.cD,lC r s x,hr,and_true];cases h2:Nat.beq r' x with
    |true =>
     have:r'=x:=abO h2;subst this;have nZ:r'≠r:=by intro e;subst e;simp at hb
     simp[nZ]
    |false=>simp
  ·have dx:Nat.blt r 999999=false:=acX.2 (fun h=>hr (abM h));simp only[dx,Bool.and_false,cond_false,aY.cD,lC r s x,hr,and_false,if_false];cases h2:Nat.beq r' x<;>simp
theorem Gm(r:Nat)(s:aY):(dE r s).hp=if r<1000000 then s.hp else s.hp.set (r-1000000) none:=by
 unfold aY.hp;rw[lC,ac3 (fun h=>by omega)];cases hg:s.cD 999999 with
 |none=>simp
 |some sc =>
  cases sc with
  |lit cs=>simp[kJ]
  |pure ps=>simp[kJ]
  |Ew hs sz=>simp only[Option.map_some,kJ];cases Nat.blt r 1000000<;>simp
  |Ex hs sz=>simp only[Option.map_some,kJ];cases Nat.blt r 1000000<;>simp
  |heap xs =>
   simp only[Option.map_some,kJ];by_cases hr:r<1000000
   ·rw[show Nat.blt r 1000000=true from acN hr];simp[hr]
   ·rw[show Nat.blt r 1000000=false from acX.2 (fun h=>hr (abM h))];simp[hr]
theorem x5(r:Nat)(s:aY)(x:Nat):(dE r s).get x=if x=r then none else (s.get x).map (kJ r):=by
 rcases Dn x with h|rfl|⟨j,rfl⟩
 ·rw[aY.jB h,aY.jB h,lC];by_cases hx:x=r
  ·subst hx;simp[h]
  ·simp[hx]
 ·rw[aY.gu,aY.gu];simp
 ·rw[aY.kI,aY.kI,Gm];unfold qh hc;by_cases hr:r<1000000
  ·rw[ac7 hr,ac3 (by omega)];split<;>simp[kJ]
  ·rw[ac3 hr];by_cases hx:1000000+j=r
   ·rw[ac7 hx,←hx,aek];by_cases hl:j<s.hp.length
    ·simp[hl]
    ·rw[List.set_eq_of_length_le (by omega),aez (by omega)]
   ·rw[ac3 hx,acY (by omega)];split<;>simp[kJ]
theorem x6(r:Nat):∀(s:Env) (t:Nat),(wc r s).get t=(s.get t).map (gK r)
 |[],t=>rfl
 |(t',e)::s,t=>by simp only[wc,Env.get];cases Nat.beq t' t<;>simp[x6 r s t]
theorem Cv{r:Nat}{L L':Nat→Prop}{e:EV}{v:Value}(h:RE β L I w e v)(hL:∀x,L x→x≠r→L' x):RE β L' I w (gK r e) v:=by
 cases e with
 |pv p=>exact h
 |mC c=>exact h
 |dead=>exact h
 |ptr r' off =>
  simp only[gK];cases hb:Nat.beq r' r with
  |true=>exact True.intro
  |false=>exact⟨hL _ h.1 (by intro e;subst e;simp at hb),h.2⟩
 |mD f r' =>
  simp only[gK];cases hb:Nat.beq r' r with
  |true=>exact True.intro
  |false=>exact⟨hL _ h.1 (by intro e;subst e;simp at hb),h.2⟩
 |ig j len sz =>
  simp only[gK];cases Gb:Nat.blt r 1000000 with
  |true=>exact⟨hL _ h.1 (by have:=abM Gb;unfold hc;omega),h.2⟩
  |false =>
   simp only[cond_false];cases hb:Nat.beq (hc j) r with
   |true=>exact True.intro
   |false=>exact⟨hL _ h.1 (by intro e;rw[e] at hb;simp at hb),h.2⟩
 |mE j off =>
  simp only[gK];cases Gb:Nat.blt r 1000000 with
  |true=>exact⟨hL _ h.1 (by have:=abM Gb;unfold hc;omega),h.2⟩
  |false =>
   simp only[cond_false];cases hb:Nat.beq (hc j) r with
   |true=>exact True.intro
   |false=>exact⟨hL _ h.1 (by intro e;rw[e] at hb;simp at hb),h.2⟩
 |row r' off len sz =>
  simp only[gK];cases hb:Nat.beq r' r with
  |true=>exact True.intro
  |false=>exact⟨hL _ h.1 (by intro e;subst e;simp at hb),h.2⟩
 |jA r' off len sz ps =>
  simp only[gK];cases hb:Nat.beq r' r with
  |true=>exact True.intro
  |false =>obtain⟨us,g1,g2,⟨u,g3,g4,MN⟩,g5⟩:=h;exact⟨us,g1,g2,⟨u,g3,hL _ g4 (by intro e;subst e;simp at hb),MN⟩,g5⟩
 |iu r' off ps =>
  simp only[gK];cases hb:Nat.beq r' r with
  |true=>exact True.intro
  |false =>obtain⟨us,g1,g2,⟨u,g3,g4,MN⟩,g5⟩:=h;exact⟨us,g1,g2,⟨u,g3,hL _ g4 (by intro e;subst e;simp at hb),MN⟩,g5⟩
 |cM f bs rs =>
  simp only[gK];cases hb:(bs++rs).any (fun x=>Nat.beq x r) with
  |true=>exact True.intro
  |false =>obtain⟨h1,h2⟩:=h;refine⟨fun x hx=>hL x (h1 x hx) (fun e => ?_),h2⟩;subst e;have:=af4.1 hb x hx;simp at this
 |lz fs =>
  simp only[gK];cases hb:fs.any (FE.at r) with
  |true=>exact True.intro
  |false =>
   obtain⟨us,g1,g2,g3⟩:=h;refine⟨us,g1,g2,fun j f u h1 h2 => ?_⟩;have h3:=g3 j f u h1 h2;cases f with
   |pv p=>exact h3
   |row x off len sz =>refine⟨hL _ h3.1 (fun e => ?_),h3.2⟩;subst e;have:=af4.1 hb _ (ac5 h1);simp[FE.at] at this
   |ig k len sz =>refine⟨hL _ h3.1 (fun e => ?_),h3.2⟩;subst e;have:=af4.1 hb _ (ac5 h1);simp[FE.at,show Nat.blt (hc k) 1000000=false from Bool.eq_false_iff.2 (fun h=>by have:=Nat.le_of_ble_eq_true h;unfold hc at this;omega)] at this
theorem Gn(r:Nat)(sc:SC):(kJ r sc).oe=sc.oe.map (gK r):=by
 cases sc with
 |lit cs=>rfl
 |pure ps=>simp[kJ,SC.oe,gK]
 |heap xs=>unfold kJ;cases Nat.blt r 1000000<;>rfl
 |Ew hs sz =>
  unfold kJ;cases hb:Nat.blt r 1000000 with
  |false=>rfl
  |true=>simp[SC.oe,gK,hb]
 |Ex hs sz =>
  unfold kJ;cases hb:Nat.blt r 1000000 with
  |false=>rfl
  |true =>
   simp only[SC.oe,cond_true];have:∀e∈JQ hs sz,gK r e=e:=fun e he=>by
    unfold JQ at he;obtain⟨x,_,hx⟩:=af7.1 he;rcases ac0.1 hx with rfl|hx
    ·rfl
    ·rcases ac0.1 hx with rfl|hx
     ·simp[gK,hb]
     ·cases hx
   rw[adS (g:=id) (fun e he=>this e he),List.map_id]
theorem Pc{r x:Nat}{L L':Nat→Prop}{cells:List EV}(h:RB β L I w x cells)(hL:∀x,L x→x≠r→L' x):RB β L' I w x (cells.map (gK r)):=by
 rcases h with ⟨h1,h2⟩|⟨b,arr,el,hb,h1,h2⟩
 ·exact .inl ⟨h1,by rw[h2];rfl⟩
 ·refine .inr ⟨b,arr,el,hb,h1,fun j e he => ?_⟩;rw[abR] at he;cases hc:cells[j]? with
  |none=>simp[hc] at he
  |some c =>simp[hc] at he;subst he;obtain⟨u,g1,g2,g3⟩:=h2 j c hc;exact⟨u,g1,g2,Cv g3 hL⟩
theorem fe{r x:Nat}{s:aY} : bz (dE r s) x↔bz s x∧x≠r:=by
 unfold bz;rw[x5];by_cases h:x=r
 ·simp[h]
 ·simp[h]
theorem dh.kill(h:dh Γ s a w β I)(r:Nat):dh Γ (kill r s) a w β I:=by
 have hL:∀x,bz s.aP x→x≠r→bz (dE r s.aP) x:=fun x hx nZ=>fe.2 ⟨hx,nZ⟩
 refine⟨fun t e he => ?_,⟨fun x sc hx => ?_,fun x y b hx hy=>h.aP.2 x y b (fe.1 hx).1 (fe.1 hy).1⟩,fun x hx=>h.par x (fe.1 hx).1,fun x b hx=>h.new x b (fe.1 hx).1,h.ib,h.ii,h.aW,h.size,h.defers⟩
 ·have he:(wc r s.env).get t=some e:=he;rw[x6] at he;cases hg:s.env.get t with
  |none=>simp[hg] at he
  |some e' =>simp[hg] at he;subst he;exact Cv (h.env t e' hg) hL
 ·have hx:(dE r s.aP).get x=some sc:=hx;rw[x5] at hx;by_cases B4:x=r
  ·simp[B4] at hx
  ·rw[ac3 B4] at hx;cases hg:s.aP.get x with
   |none=>simp[hg] at hx
   |some sc' =>simp[hg] at hx;subst hx;obtain⟨g1,g2⟩:=h.aP.1 x sc' hg;exact⟨by rw[Gn];exact Pc g1 hL,g2⟩
theorem aY.fg{r x:Nat}{sc:SC}{s:aY}(hr:r<999999):aY.get ((r,sc)::s) x=bif Nat.beq r x then some sc else s.get x:=by
 rcases Dn x with h|rfl|⟨j,rfl⟩
 ·rw[aY.jB h,aY.jB h];rfl
 ·rw[aY.gu,aY.gu,gm (by omega)];rfl
 ·rw[aY.kI,aY.kI,gm (by unfold hc;omega)];unfold aY.hp;simp only[aY.cD,gm (show r≠999999 by omega),cond_false]
theorem ei{r x:Nat}{sc:SC}{s:aY}(hr:r<999999):bz ((r,sc)::s) x↔x=r∨bz s x:=by
 unfold bz;rw[aY.fg hr];cases hb:Nat.beq r x with
 |true =>have:r=x:=abO hb;simp[this]
 |false =>
  have:x≠r:=by intro e;subst e;simp at hb
  simp[this]
theorem dh.site(h:dh Γ s a w β I){d:Nat}{sc:SC}(qX:d<999999)(hd:¬bz s.aP d)(hn:¬bz Γ.sin d){β':Nat→Option Nat}(hβ:∀r,r≠d→β' r=β r)
  (hb:∀b,β' d=some b→b<w.heap.size∧¬I b∧Γ.Nw b∧∀r,bz s.aP r→β r≠some b) (gS:RB β' (fun r=>bz s.aP r∨r=d) I w d sc.oe) :
  dh Γ ⟨s.env,(d,sc)::s.aP⟩ a w β' I:=by
 have B5:∀r,bz s.aP r→β' r=β r:=fun r hr=>hβ r (fun e=>hd (e ▸ hr))
 have hL:∀r,bz s.aP r→bz ((d,sc)::s.aP) r:=fun r hr=>(ei qX).2 (.inr hr)
 have Vl:∀r,(bz s.aP r∨r=d)→bz ((d,sc)::s.aP) r:=fun r hr=>(ei qX).2 (hr.elim .inr .inl)
 refine⟨fun t e he=>(h.env t e he).mono B5 hL (fun _ h=>h) (fun _ _ _=>rfl) (fun _ _ _ _=>rfl),⟨fun r sc' hr => ?_,fun r r' b hr dx e1 e2 => ?_⟩,fun r hr hs hg => ?_,fun r b hr hs fc => ?_,h.ib,h.ii,h.aW,h.size,h.defers⟩
 ·rw[aY.fg qX] at hr;cases hbq:Nat.beq d r with
  |true =>
   have:d=r:=abO hbq;subst this;simp only[hbq,cond_true] at hr;injection hr with hr;subst hr
   exact⟨gS.mono rfl (fun _ _=>rfl) (fun _ _=>rfl) Vl (fun _ h=>h) (fun _ _ _=>rfl) (fun _ _ _ _=>rfl),fun b fc=>⟨(hb b fc).1,(hb b fc).2.1⟩⟩
  |false =>
   simp only[hbq,cond_false] at hr;have we:bz s.aP r:=by unfold bz;rw[hr];rfl
   obtain⟨g1,g2⟩:=h.aP.1 r sc' hr;exact⟨g1.mono (B5 r we) (fun _ _=>rfl) B5 hL (fun _ h=>h) (fun _ _ _=>rfl) (fun _ _ _ _=>rfl),fun b fc=>g2 b (by rw[←B5 r we];exact fc)⟩
 ·rcases(ei qX).1 hr with h1|h1
  ·rcases(ei qX).1 dx with h2|h2
   ·rw[h1,h2]
   ·rw[h1] at e1;rw[B5 r' h2] at e2;exact absurd e2 ((hb b e1).2.2.2 r' h2)
  ·rcases(ei qX).1 dx with h2|h2
   ·rw[h2] at e2;rw[B5 r h1] at e1;exact absurd e1 ((hb b e2).2.2.2 r h1)
   ·rw[B5 r h1] at e1;rw[B5 r' h2] at e2;exact h.aP.2 r r' b h1 h2 e1 e2
 ·rcases(ei qX).1 hr with rfl|hr
  ·exact absurd hs hn
  ·rw[B5 r hr];exact h.par r hr hs hg
 ·rcases(ei qX).1 hr with rfl|hr
  ·exact(hb b fc).2.2.1
  ·rw[B5 r hr] at fc;exact h.new r b hr hs fc
end
end Go.Proofs.YtneklnlpgfeplaaGreat.Sym
