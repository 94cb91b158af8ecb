/- Lemmas for the statements of this seat. -/
import Derived.Test.YtfjfekodeplcoaaGreatWSymI
import Derived.Laws.AppendOwn
namespace Go.Proofs.YtfjfekodeplcoaaGreat.Sym
open Go Go.RowKit
theorem di{a b:Nat}(h:a≠b):Nat.beq a b=false:=by
 cases hb:Nat.beq a b with
 |false=>rfl
 |true=>exact absurd (Nat.eq_of_beq_eq_true hb) h
abbrev Env:=List (Nat×EV)
def Env.get:Env→Nat→Option EV
 |[],_=>none
 |(t',e)::r,t=>bif Nat.beq t' t then some e else Env.get r t
structure St where
 env:Env
 sto:aG
def BH:Value→Option PV
 |.bool b=>some (.bool b)
 |.int k n=>some (.int k n)
 |.string s=>some (.str s)
 |.nilIface=>some .cd
 |.slice none 0 0=>some (.list [])
 |_=>none
theorem EF{v:Value}{p:PV}(h:BH v=some p)(I:Nat→Prop)(w:World):Rd I w p v:=by
 unfold BH at h
 split at h<;>first|(cases h;done)|(injection h with h;subst h)
 ·exact .bool _
 ·exact .int _ _
 ·exact .str _
 ·exact .cd
 ·exact .nil _ _
def cA(env:Env):Operand→Option EV
 |.tmp t=>env.get t
 |.const v=>match BH v with
  |some p=>some (.pv p)
  |none=>none
 |.func f=>some (.pv (.fn f))
 |.global _=>none
def aS(s:aG)(r:Nat):Prop:=(s.get r).isSome=true
theorem aG.get_nil(x:Nat):aG.get [] x=none:=by
 rcases sQ x with h|rfl|⟨j,rfl⟩
 ·rw[aG.dX h];rfl
 ·rfl
 ·rw[aG.cU];rfl
theorem ez{x:Nat} : ¬aS [] x:=fun h=>by unfold aS at h;rw[aG.get_nil] at h;cases h
def tg(β:Nat→Option Nat)(I:Nat→Prop)(w:World)(sto:aG):Prop :=
 (∀r sc,sto.get r=some sc→RB β (aS sto) I w r sc.jc∧∀b,β r=some b→b<w.heap.size∧¬I b) ∧
 ∀r r' b,aS sto r→aS sto r'→β r=some b→β r'=some b→r=r'
def ra(_:aG)(_:Nat→Option Nat)(_:World):Prop:=True
theorem ra.mono{sin HT:aG}{β β':Nat→Option Nat}{w w':World}(_:ra sin β w)(_:∀k,k<w.heap.size→(∀x,aS sin x→β x≠some k)→w'.heap[k]? = w.heap[k]?)
  (_:∀x b,aS HT x→β' x=some b→w.heap.size≤b∨∃y,aS sin y∧β y=some b):ra HT β' w':=True.intro
theorem ra.Mz{sin:aG}{β:Nat→Option Nat}{w:World} : ra sin β w:=True.intro
theorem ra.sub{sin HT:aG}{β β':Nat→Option Nat}{w:World}(h:ra sin β w)(hd:∀x b,aS HT x→β' x=some b→∃y,aS sin y∧β y=some b):ra HT β' w :=
 h.mono (fun _ _ _=>rfl) (fun x b hx hb => .inr (hd x b hx hb))
theorem ra.nil{sin:aG}{β β':Nat→Option Nat}{w:World}(h:ra sin β w):ra [] β' w:=h.sub (fun _ _ hx=>absurd hx ez)
structure Ctx where
 w0:World
 I0:Nat→Prop
 sin:aG
 β0:Nat→Option Nat
 n:Nat
 small:n≤999999
 lay:ra sin β0 w0
def Ctx.M(Γ:Ctx)(b:Nat):Prop:=∃r,aS Γ.sin r∧Γ.β0 r=some b
structure gS (M:Nat→Prop) (w w':World):Prop where
 os:w'.os=w.os
 tape:w'.tape=w.tape
 output:w'.output=w.output
 size:w.heap.size≤w'.heap.size
 block:∀k,k<w.heap.size→¬M k→w'.heap[k]? = w.heap[k]?
 shape:∀k,k<w.heap.size→w'.shape? k=w.shape? k
 drawn:Ou→w.drawn≤w'.drawn
theorem gS.refl(M:Nat→Prop)(w:World):gS M w w:=⟨rfl,rfl,rfl,Nat.le_refl _,fun _ _ _=>rfl,fun _ _=>rfl,fun _=>Nat.le_refl _⟩
theorem gS.trans{M M':Nat→Prop}{a b c:World}(h:gS M a b)(k:gS M' b c)(hM:∀x,x<a.heap.size→M' x→M x):gS M a c :=
 ⟨k.os.trans h.os,k.tape.trans h.tape,k.output.trans h.output,Nat.le_trans h.size k.size,
  fun i hi hm=>(k.block i (Nat.lt_of_lt_of_le hi h.size) (fun GM=>hm (hM i hi GM))).trans (h.block i hi hm),
  fun i hi=>(k.shape i (Nat.lt_of_lt_of_le hi h.size)).trans (h.shape i hi),fun s=>Nat.le_trans (h.drawn s) (k.drawn s)⟩
theorem gS.yC{M:Nat→Prop}{w w':World}(h:ur w.heap.size w w'):gS M w w' :=
 ⟨h.os,h.tape,h.output,h.size,fun k hk _=>h.block k hk,fun k hk=>gU (h.block k hk),h.drawn⟩
def gv(x:Nat):Prop:=200000≤x
def xy(sin:aG)(β:Nat→Option Nat)(b:Nat):Prop:=∃x,gv x∧aS sin x∧β x=some b
def Ctx.Nw(Γ:Ctx)(b:Nat):Prop:=Γ.w0.heap.size≤b∨xy Γ.sin Γ.β0 b
theorem Ctx.Nw.m{Γ:Ctx}{b:Nat}(h:Γ.Nw b)(hb:b<Γ.w0.heap.size):Γ.M b:=by
 rcases h with h|⟨x,_,h1,h2⟩
 ·omega
 ·exact⟨x,h1,h2⟩
structure cq (Γ:Ctx) (s:St) (a:Act) (w:World) (β:Nat→Option Nat) (I:Nat→Prop):Prop where
 env:∀t e,s.env.get t=some e→RE β (aS s.sto) I w e (a.tmps.getD t undef)
 sto:tg β I w s.sto
 par:∀r,aS s.sto r→aS Γ.sin r→¬gv r→β r=Γ.β0 r
 new:∀r b,aS s.sto r→(¬aS Γ.sin r∨gv r)→β r=some b→Γ.Nw b
 ib:∀b,I b→b<w.heap.size
 ii:∀b,I b→Γ.I0 b∨fresh Γ.w0 w b∨xy Γ.sin Γ.β0 b
 aN:gS Γ.M Γ.w0 w
 size:a.tmps.size=Γ.n
 defers:a.defers=[]
def Rel(Γ:Ctx)(s:St)(a:Act)(w:World):Prop:=∃β I,cq Γ s a w β I
theorem cq.lay{Γ:Ctx}{s:St}{a:Act}{w:World}{β:Nat→Option Nat}{I:Nat→Prop}(h:cq Γ s a w β I):ra s.sto β w :=
 Γ.lay.mono (fun k hk hn=>h.aN.block k hk (fun ⟨x,hx,hb⟩=>hn x hx hb)) (fun x b hx hb=>by
  by_cases h1:aS Γ.sin x∧¬gv x
  ·exact .inr ⟨x,h1.1,(h.par x hx h1.1 h1.2).symm.trans hb⟩
  ·rcases h.new x b hx (by
    by_cases h2:aS Γ.sin x
    ·exact .inr (Classical.byContradiction fun h3=>h1 ⟨h2,h3⟩)
    ·exact .inl h2) hb with h4|⟨y,_,hy,qT⟩
   ·exact .inl h4
   ·exact .inr ⟨y,hy,qT⟩)
theorem Ku{a:Act}{d:Nat}{v:Value}(hd:d<a.tmps.size)(t:Nat):(a.put (some d) v).tmps.getD t undef=if t=d then v else a.tmps.getD t undef:=by
 show(a.tmps.setIfInBounds d v).getD t undef=_
 simp only[Array.getD_eq_getD_getElem?,Array.getElem?_setIfInBounds]
 by_cases h:d=t
 ·subst h;simp[hd]
 ·rw[if_neg h,if_neg (fun e=>h e.symm)]
theorem HU(a:Act)(d:Option Tmp)(v:Value):(a.put d v).tmps.size=a.tmps.size:=by
 cases d<;>simp[Act.put]
theorem put_defers(a:Act)(d:Option Tmp)(v:Value):(a.put d v).defers=a.defers:=by
 cases d<;>rfl
section
variable {Γ:Ctx} {s:St} {a:Act} {w:World} {β:Nat→Option Nat} {I:Nat→Prop}
theorem cq.lb(h:cq Γ s a w β I):∀r b,aS s.sto r→β r=some b→b<w.heap.size:=by
 intro r b hr hb
 obtain⟨sc,gD⟩:=Option.isSome_iff_exists.1 hr
 exact((h.sto.1 r sc gD).2 b hb).1
theorem cq.uD(h:cq Γ s a w β I)(x:Operand)(e:EV)(he:Sym.cA s.env x=some e):RE β (aS s.sto) I w e (a.eval x):=by
 cases x with
 |tmp t=>exact h.env t e he
 |const v =>
  simp only[Sym.cA] at he
  split at he
  ·rename_i p hp
   injection he with he;subst he
   exact EF hp I w
  ·cases he
 |func f=>injection he with he;subst he;exact Rd.fn f
 |global g=>cases he
theorem cq.pre(h:cq Γ s a w β I):xu a w β (aS s.sto) I s.sto (cA s.env) :=
 ⟨fun x e he=>cq.uD h x e he,fun r sc hr _=>(h.sto.1 r sc hr).1,h.lb,h.ib⟩
theorem cq.grow(h:cq Γ s a w β I){w':World}{I':Nat→Prop}(hb:ur w.heap.size w w')(h1:∀b,I b→I' b)(h2:∀b,I' b→I b∨fresh w w' b):cq Γ s a w' β I':=by
 have hw:∀b o,I b→w'.cell? ⟨b,o,none⟩=w.cell? ⟨b,o,none⟩:=fun b o hI=>dM (hb.block b (h.ib b hI)) o
 have hs:∀r b,aS s.sto r→β r=some b→w'.shape? b=w.shape? b:=fun r b hr j5=>gU (hb.block b (h.lb r b hr j5))
 refine⟨fun t e he=>(h.env t e he).mono (fun _ _=>rfl) (fun _ h=>h) h1 hw hs,⟨fun r sc hr => ?_,h.sto.2⟩,h.par,h.new,fun b hI => ?_,fun b hI => ?_,h.aN.trans (gS.yC hb) (fun _ _ h=>h),h.size,h.defers⟩
 ·obtain⟨g1,g2⟩:=h.sto.1 r sc hr
  have hd:aS s.sto r:=by unfold aS;rw[hr];rfl
  refine⟨g1.mono rfl (fun b j5=>hb.block b (h.lb r b hd j5)) (fun _ _=>rfl) (fun _ h=>h) h1 hw hs,fun b j5=>⟨Nat.lt_of_lt_of_le (g2 b j5).1 hb.size,fun hI => ?_⟩⟩
  rcases h2 b hI with hI|hf
  ·exact(g2 b j5).2 hI
  ·have:=(g2 b j5).1;have:=hf.1;omega
 ·rcases h2 b hI with hI|hf
  ·exact Nat.lt_of_lt_of_le (h.ib b hI) hb.size
  ·exact hf.2
 ·rcases h2 b hI with hI|hf
  ·rcases h.ii b hI with h3|h3
   ·exact .inl h3
   ·exact .inr (h3.imp (fun h3=>⟨h3.1,Nat.lt_of_lt_of_le h3.2 hb.size⟩) id)
  ·exact .inr (.inl ⟨Nat.le_trans h.aN.size hf.1,hf.2⟩)
def jg(env:Env)(dst:Option Nat)(e:EV):Env:=match dst with
 |none=>env
 |some d=>(d,e)::env
theorem cq.put(h:cq Γ s a w β I){dst:Option Nat}{e:EV}{v:Value}(hd:∀d,dst=some d→d<Γ.n)(he:RE β (aS s.sto) I w e v) :
  cq Γ ⟨jg s.env dst e,s.sto⟩ (a.put dst v) w β I:=by
 refine⟨fun t e' fj => ?_,h.sto,h.par,h.new,h.ib,h.ii,h.aN,by rw[HU];exact h.size,by rw[put_defers];exact h.defers⟩
 cases dst with
 |none=>exact h.env t e' fj
 |some d =>
  rw[Ku (by rw[h.size];exact hd d rfl)]
  simp only[jg,Env.get] at fj
  by_cases ht:t=d
  ·subst ht
   simp only[Nat.beq_refl,cond_true] at fj
   injection fj with fj;subst fj
   simpa using he
  ·have:Nat.beq d t=false:=di (Ne.symm ht)
   simp only[this,cond_false] at fj
   rw[if_neg ht]
   exact h.env t e' fj
def FE.at(r:Nat):FE→Bool
 |.pv _=>false
 |.row x _ _ _=>Nat.beq x r
 |.cv j _ _=>bif Nat.blt r 1000000 then false else Nat.beq (hc j) r
def gW(r:Nat):EV→EV
 |.dV fs=>bif fs.any (FE.at r) then .dead else .dV fs
 |.ptr r' off=>bif Nat.beq r' r then .dead else .ptr r' off
 |.row r' off len sz=>bif Nat.beq r' r then .dead else .row r' off len sz
 |.kN r' off len sz ps=>bif Nat.beq r' r then .dead else .kN r' off len sz ps
 |.mM f r'=>bif Nat.beq r' r then .dead else .mM f r'
 |.cv j len sz=>bif Nat.blt r 1000000 then .cv j len sz else bif Nat.beq (hc j) r then .dead else .cv j len sz
 |.kf j off=>bif Nat.blt r 1000000 then .kf j off else bif Nat.beq (hc j) r then .dead else .kf j off
 |e=>e
def jh(r:Nat):SC→SC
 |.lit cs => .lit (cs.map (gW r))
 |.pure ps => .pure ps
 |.heap xs=>bif Nat.blt r 1000000 then .heap xs else .heap (xs.set (r-1000000) none)
 |.gk hs sz=>bif Nat.blt r 1000000 then .gk hs sz else .lit ((hs.map fun x=>EV.cv x.1 x.2 sz).map (gW r))
 |.fY hs sz=>bif Nat.blt r 1000000 then .fY hs sz else .lit ((bodE hs sz).map (gW r))
def bz(r:Nat):aG→aG
 |[]=>[]
 |(r',c)::s=>bif Nat.beq r' r&&Nat.blt r 999999 then bz r s else (r',jh r c)::bz r s
def uE(r:Nat):Env→Env
 |[]=>[]
 |(t,e)::s=>(t,gW r e)::uE r s
def kill(r:Nat)(s:St):St:=⟨uE r s.env,bz r s.sto⟩
theorem gX(r:Nat):∀(s:aG) (x:Nat),(bz r s).cp x=if x=r∧r<999999 then none else (s.cp x).map (jh r)
 |[],x=>by simp[bz,aG.cp]
 |(r',c)::s,x=>by
  simp only[bz]
  by_cases hr:r<999999
  ·have dy:Nat.blt r 999999=true:=Nat.ble_eq_true_of_le hr
   simp only[dy,Bool.and_true,hr,and_true]
   cases hb:Nat.beq r' r with
   |true =>
    have:r'=r:=Nat.eq_of_beq_eq_true hb
    subst this
    simp only[cond_true,gX r' s x,aG.cp,hr,and_true]
    by_cases hx:x=r'
    ·simp[hx]
    ·have h2:Nat.beq r' x=false:=di (Ne.symm hx)
     simp[hx,h2]
   |false =>
    simp only[cond_false,aG.cp,gX r s x,hr,and_true]
    cases h2:Nat.beq r' x with
    |true =>
     have:r'=x:=Nat.eq_of_beq_eq_true h2
     subst this
     have iO:r'≠r:=by intro e;subst e;simp at hb
     simp[iO]
    |false=>simp
  ·have dy:Nat.blt r 999999=false:=Bool.eq_false_iff.2 (fun h=>hr (Nat.le_of_ble_eq_true h))
   simp only[dy,Bool.and_false,cond_false,aG.cp,gX r s x,hr,and_false,if_false]
   cases h2:Nat.beq r' x<;>simp
theorem tE(r:Nat)(s:aG):(bz r s).hp=if r<1000000 then s.hp else s.hp.set (r-1000000) none:=by
 unfold aG.hp
 rw[gX,if_neg (fun h=>by omega)]
 cases hg:s.cp 999999 with
 |none=>simp
 |some sc =>
  cases sc with
  |lit cs=>simp[jh]
  |pure ps=>simp[jh]
  |gk hs sz=>simp only[Option.map_some,jh];cases Nat.blt r 1000000<;>simp
  |fY hs sz=>simp only[Option.map_some,jh];cases Nat.blt r 1000000<;>simp
  |heap xs =>
   simp only[Option.map_some,jh]
   by_cases hr:r<1000000
   ·rw[show Nat.blt r 1000000=true from Nat.ble_eq_true_of_le hr]
    simp[hr]
   ·rw[show Nat.blt r 1000000=false from Bool.eq_false_iff.2 (fun h=>hr (Nat.le_of_ble_eq_true h))]
    simp[hr]
theorem wP(r:Nat)(s:aG)(x:Nat):(bz r s).get x=if x=r then none else (s.get x).map (jh r):=by
 rcases sQ x with h|rfl|⟨j,rfl⟩
 ·rw[aG.dX h,aG.dX h,gX]
  by_cases hx:x=r
  ·subst hx;simp[h]
  ·simp[hx]
 ·rw[aG.cM,aG.cM];simp
 ·rw[aG.cU,aG.cU,tE]
  unfold cY hc
  by_cases hr:r<1000000
  ·rw[if_pos hr,if_neg (by omega)]
   split<;>simp[jh]
  ·rw[if_neg hr]
   by_cases hx:1000000+j=r
   ·rw[if_pos hx,←hx,Nat.add_sub_cancel_left]
    by_cases hl:j<s.hp.length
    ·simp[hl]
    ·rw[List.set_eq_of_length_le (by omega),List.getElem?_eq_none (by omega)]
   ·rw[if_neg hx,List.getElem?_set_ne (by omega)]
    split<;>simp[jh]
theorem wQ(r:Nat):∀(s:Env) (t:Nat),(uE r s).get t=(s.get t).map (gW r)
 |[],t=>rfl
 |(t',e)::s,t=>by
  simp only[uE,Env.get]
  cases Nat.beq t' t<;>simp[wQ r s t]
theorem A0{r:Nat}{L L':Nat→Prop}{e:EV}{v:Value}(h:RE β L I w e v)(hL:∀x,L x→x≠r→L' x):RE β L' I w (gW r e) v:=by
 cases e with
 |pv p=>exact h
 |mL c=>exact h
 |dead=>exact h
 |ptr r' off =>
  simp only[gW]
  cases hb:Nat.beq r' r with
  |true=>exact True.intro
  |false=>exact⟨hL _ h.1 (by intro e;subst e;simp at hb),h.2⟩
 |mM f r' =>
  simp only[gW]
  cases hb:Nat.beq r' r with
  |true=>exact True.intro
  |false=>exact⟨hL _ h.1 (by intro e;subst e;simp at hb),h.2⟩
 |cv j len sz =>
  simp only[gW]
  cases ux:Nat.blt r 1000000 with
  |true=>exact⟨hL _ h.1 (by have:=Nat.le_of_ble_eq_true ux;unfold hc;omega),h.2⟩
  |false =>
   simp only[cond_false]
   cases hb:Nat.beq (hc j) r with
   |true=>exact True.intro
   |false=>exact⟨hL _ h.1 (by intro e;rw[e] at hb;simp at hb),h.2⟩
 |kf j off =>
  simp only[gW]
  cases ux:Nat.blt r 1000000 with
  |true=>exact⟨hL _ h.1 (by have:=Nat.le_of_ble_eq_true ux;unfold hc;omega),h.2⟩
  |false =>
   simp only[cond_false]
   cases hb:Nat.beq (hc j) r with
   |true=>exact True.intro
   |false=>exact⟨hL _ h.1 (by intro e;rw[e] at hb;simp at hb),h.2⟩
 |row r' off len sz =>
  simp only[gW]
  cases hb:Nat.beq r' r with
  |true=>exact True.intro
  |false=>exact⟨hL _ h.1 (by intro e;subst e;simp at hb),h.2⟩
 |kN r' off len sz ps =>
  simp only[gW]
  cases hb:Nat.beq r' r with
  |true=>exact True.intro
  |false =>
   obtain⟨us,g1,g2,⟨u,g3,g4,Oz⟩,g5⟩:=h
   exact⟨us,g1,g2,⟨u,g3,hL _ g4 (by intro e;subst e;simp at hb),Oz⟩,g5⟩
 |dV fs =>
  simp only[gW]
  cases hb:fs.any (FE.at r) with
  |true=>exact True.intro
  |false =>
   obtain⟨us,g1,g2,g3⟩:=h
   refine⟨us,g1,g2,fun j f u h1 h2 => ?_⟩
   have h3:=g3 j f u h1 h2
   cases f with
   |pv p=>exact h3
   |row x off len sz =>
    refine⟨hL _ h3.1 (fun e => ?_),h3.2⟩
    subst e
    have:=List.any_eq_false.1 hb _ (List.mem_of_getElem? h1)
    simp[FE.at] at this
   |cv k len sz =>
    refine⟨hL _ h3.1 (fun e => ?_),h3.2⟩
    subst e
    have:=List.any_eq_false.1 hb _ (List.mem_of_getElem? h1)
    simp[FE.at,show Nat.blt (hc k) 1000000=false from Bool.eq_false_iff.2 (fun h=>by have:=Nat.le_of_ble_eq_true h;unfold hc at this;omega)] at this
theorem EG(r:Nat)(sc:SC):(jh r sc).jc=sc.jc.map (gW r):=by
 cases sc with
 |lit cs=>rfl
 |pure ps=>simp[jh,SC.jc,gW]
 |heap xs=>unfold jh;cases Nat.blt r 1000000<;>rfl
 |gk hs sz =>
  unfold jh
  cases hb:Nat.blt r 1000000 with
  |false=>rfl
  |true=>simp[SC.jc,gW,hb]
 |fY hs sz =>
  unfold jh
  cases hb:Nat.blt r 1000000 with
  |false=>rfl
  |true =>
   simp only[SC.jc,cond_true]
   have:∀e∈bodE hs sz,gW r e=e:=fun e he=>by
    unfold bodE at he
    obtain⟨x,_,hx⟩:=List.mem_flatMap.1 he
    rcases List.mem_cons.1 hx with rfl|hx
    ·rfl
    ·rcases List.mem_cons.1 hx with rfl|hx
     ·simp[gW,hb]
     ·cases hx
   rw[List.map_congr_left (g:=id) (fun e he=>this e he),List.map_id]
theorem MA{r x:Nat}{L L':Nat→Prop}{cells:List EV}(h:RB β L I w x cells)(hL:∀x,L x→x≠r→L' x):RB β L' I w x (cells.map (gW r)):=by
 rcases h with ⟨h1,h2⟩|⟨b,arr,el,hb,h1,h2⟩
 ·exact .inl ⟨h1,by rw[h2];rfl⟩
 ·refine .inr ⟨b,arr,el,hb,h1,fun j e he => ?_⟩
  rw[List.getElem?_map] at he
  cases hc:cells[j]? with
  |none=>simp[hc] at he
  |some c =>
   simp[hc] at he
   subst he
   obtain⟨u,g1,g2,g3⟩:=h2 j c hc
   exact⟨u,g1,g2,A0 g3 hL⟩
theorem bW{r x:Nat}{s:aG} : aS (bz r s) x↔aS s x∧x≠r:=by
 unfold aS
 rw[wP]
 by_cases h:x=r
 ·simp[h]
 ·simp[h]
theorem cq.kill(h:cq Γ s a w β I)(r:Nat):cq Γ (kill r s) a w β I:=by
 have hL:∀x,aS s.sto x→x≠r→aS (bz r s.sto) x:=fun x hx iO=>bW.2 ⟨hx,iO⟩
 refine⟨fun t e he => ?_,⟨fun x sc hx => ?_,fun x y b hx hy=>h.sto.2 x y b (bW.1 hx).1 (bW.1 hy).1⟩,fun x hx=>h.par x (bW.1 hx).1,fun x b hx=>h.new x b (bW.1 hx).1,h.ib,h.ii,h.aN,h.size,h.defers⟩
 ·have he:(uE r s.env).get t=some e:=he
  rw[wQ] at he
  cases hg:s.env.get t with
  |none=>simp[hg] at he
  |some e' =>
   simp[hg] at he
   subst he
   exact A0 (h.env t e' hg) hL
 ·have hx:(bz r s.sto).get x=some sc:=hx
  rw[wP] at hx
  by_cases xX:x=r
  ·simp[xX] at hx
  ·rw[if_neg xX] at hx
   cases hg:s.sto.get x with
   |none=>simp[hg] at hx
   |some sc' =>
    simp[hg] at hx
    subst hx
    obtain⟨g1,g2⟩:=h.sto.1 x sc' hg
    exact⟨by rw[EG];exact MA g1 hL,g2⟩
theorem aG.bY{r x:Nat}{sc:SC}{s:aG}(hr:r<999999):aG.get ((r,sc)::s) x=bif Nat.beq r x then some sc else s.get x:=by
 rcases sQ x with h|rfl|⟨j,rfl⟩
 ·rw[aG.dX h,aG.dX h];rfl
 ·rw[aG.cM,aG.cM,di (by omega)];rfl
 ·rw[aG.cU,aG.cU,di (by unfold hc;omega)]
  unfold aG.hp
  simp only[aG.cp,di (show r≠999999 by omega),cond_false]
theorem cZ{r x:Nat}{sc:SC}{s:aG}(hr:r<999999):aS ((r,sc)::s) x↔x=r∨aS s x:=by
 unfold aS
 rw[aG.bY hr]
 cases hb:Nat.beq r x with
 |true =>
  have:r=x:=Nat.eq_of_beq_eq_true hb
  simp[this]
 |false =>
  have:x≠r:=by intro e;subst e;simp at hb
  simp[this]
theorem cq.site(h:cq Γ s a w β I){d:Nat}{sc:SC}(mh:d<999999)(hd:¬aS s.sto d)(hn:¬aS Γ.sin d){β':Nat→Option Nat}(hβ:∀r,r≠d→β' r=β r)
  (hb:∀b,β' d=some b→b<w.heap.size∧¬I b∧Γ.Nw b∧∀r,aS s.sto r→β r≠some b) (gD:RB β' (fun r=>aS s.sto r∨r=d) I w d sc.jc) :
  cq Γ ⟨s.env,(d,sc)::s.sto⟩ a w β' I:=by
 have pk:∀r,aS s.sto r→β' r=β r:=fun r hr=>hβ r (fun e=>hd (e ▸ hr))
 have hL:∀r,aS s.sto r→aS ((d,sc)::s.sto) r:=fun r hr=>(cZ mh).2 (.inr hr)
 have US:∀r,(aS s.sto r∨r=d)→aS ((d,sc)::s.sto) r:=fun r hr=>(cZ mh).2 (hr.elim .inr .inl)
 refine⟨fun t e he=>(h.env t e he).mono pk hL (fun _ h=>h) (fun _ _ _=>rfl) (fun _ _ _ _=>rfl),⟨fun r sc' hr => ?_,fun r r' b hr dy e1 e2 => ?_⟩,fun r hr hs hg => ?_,fun r b hr hs cI => ?_,h.ib,h.ii,h.aN,h.size,h.defers⟩
 ·rw[aG.bY mh] at hr
  cases HV:Nat.beq d r with
  |true =>
   have:d=r:=Nat.eq_of_beq_eq_true HV
   subst this
   simp only[HV,cond_true] at hr
   injection hr with hr;subst hr
   exact⟨gD.mono rfl (fun _ _=>rfl) (fun _ _=>rfl) US (fun _ h=>h) (fun _ _ _=>rfl) (fun _ _ _ _=>rfl),fun b cI=>⟨(hb b cI).1,(hb b cI).2.1⟩⟩
  |false =>
   simp only[HV,cond_false] at hr
   have sq:aS s.sto r:=by unfold aS;rw[hr];rfl
   obtain⟨g1,g2⟩:=h.sto.1 r sc' hr
   exact⟨g1.mono (pk r sq) (fun _ _=>rfl) pk hL (fun _ h=>h) (fun _ _ _=>rfl) (fun _ _ _ _=>rfl),fun b cI=>g2 b (by rw[←pk r sq];exact cI)⟩
 ·rcases(cZ mh).1 hr with h1|h1
  ·rcases(cZ mh).1 dy with h2|h2
   ·rw[h1,h2]
   ·rw[h1] at e1
    rw[pk r' h2] at e2
    exact absurd e2 ((hb b e1).2.2.2 r' h2)
  ·rcases(cZ mh).1 dy with h2|h2
   ·rw[h2] at e2
    rw[pk r h1] at e1
    exact absurd e1 ((hb b e2).2.2.2 r h1)
   ·rw[pk r h1] at e1
    rw[pk r' h2] at e2
    exact h.sto.2 r r' b h1 h2 e1 e2
 ·rcases(cZ mh).1 hr with rfl|hr
  ·exact absurd hs hn
  ·rw[pk r hr];exact h.par r hr hs hg
 ·rcases(cZ mh).1 hr with rfl|hr
  ·exact(hb b cI).2.2.1
  ·rw[pk r hr] at cI;exact h.new r b hr hs cI
end
end Go.Proofs.YtfjfekodeplcoaaGreat.Sym
