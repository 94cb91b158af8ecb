/- Lemmas for the statements of this seat. -/
import Derived.Test.YtnjhplhbmapclaaGreatDoorWSymI
import Derived.Laws.AppendOwn
namespace Go.Proofs.YtnjhplhbmapclaaGreatDoor.Sym
open Go Go.RowKit
theorem dU{a b:Nat}(h:a≠b):Nat.beq a b=false:=by
 cases hb:Nat.beq a b with
 |false=>rfl
 |true=>exact absurd (Nat.eq_of_beq_eq_true hb) h
abbrev Env:=List (Nat×EV)
def Env.get:Env→Nat→Option EV
 |[],_=>none
 |(t',e)::r,t=>bif Nat.beq t' t then some e else Env.get r t
structure St where
 env:Env
 aw:aD
def v8:Value→Option PV
 |.bool b=>some (.bool b)
 |.int k n=>some (.int k n)
 |.string s=>some (.str s)
 |.nilIface=>some .bD
 |.slice none 0 0=>some (.list [])
 |_=>none
theorem yX{v:Value}{p:PV}(h:v8 v=some p)(I:Nat→Prop)(w:World):Rd I w p v:=by
 unfold v8 at h
 split at h<;>first|(cases h;done)|(injection h with h;subst h)
 ·exact .bool _
 ·exact .int _ _
 ·exact .str _
 ·exact .bD
 ·exact .nil _ _
def bL(env:Env):Operand→Option EV
 |.tmp t=>env.get t
 |.const v=>match v8 v with
  |some p=>some (.pv p)
  |none=>none
 |.func f=>some (.pv (.fn f))
 |.global _=>none
def aT(s:aD)(r:Nat):Prop:=(s.get r).isSome=true
theorem aD.get_nil(x:Nat):aD.get [] x=none:=by
 rcases xi x with h|rfl|⟨j,rfl⟩
 ·rw[aD.gm h];rfl
 ·rfl
 ·rw[aD.gQ];rfl
theorem jH{x:Nat} : ¬aT [] x:=fun h=>by unfold aT at h;rw[aD.get_nil] at h;cases h
def ph(β:Nat→Option Nat)(I:Nat→Prop)(w:World)(aw:aD):Prop :=
 (∀r sc,aw.get r=some sc→RB β (aT aw) I w r sc.mw∧∀b,β r=some b→b<w.heap.size∧¬I b) ∧
 ∀r r' b,aT aw r→aT aw r'→β r=some b→β r'=some b→r=r'
def yY:Array Value:=((List.range 20).map fun i=>Value.int .u64 ((10^i:Nat):Int)).toArray
def mM(sin:aD)(β:Nat→Option Nat)(w:World):Prop :=
 (∃el sh,w.heap[0]? = some (.cells yY el sh))∧∀x,aT sin x→β x≠some 0
theorem mM.mono{sin CE:aD}{β β':Nat→Option Nat}{w w':World}(h:mM sin β w)(hw:∀k,k<w.heap.size→(∀x,aT sin x→β x≠some k)→w'.heap[k]? = w.heap[k]?)
  (hd:∀x b,aT CE x→β' x=some b→w.heap.size≤b∨∃y,aT sin y∧β y=some b):mM CE β' w':=by
 obtain⟨⟨el,sh,h1⟩,h2⟩:=h
 have hs:0<w.heap.size:=(Array.getElem?_eq_some_iff.1 h1).1
 refine⟨⟨el,sh,(hw _ hs h2).trans h1⟩,fun x hx hb => ?_⟩
 rcases hd x _ hx hb with h|⟨y,hy,xw⟩
 ·omega
 ·exact h2 y hy xw
theorem mM.sub{sin CE:aD}{β β':Nat→Option Nat}{w:World}(h:mM sin β w)(hd:∀x b,aT CE x→β' x=some b→∃y,aT sin y∧β y=some b):mM CE β' w :=
 h.mono (fun _ _ _=>rfl) (fun x b hx hb => .inr (hd x b hx hb))
theorem mM.nil{sin:aD}{β β':Nat→Option Nat}{w:World}(h:mM sin β w):mM [] β' w:=h.sub (fun _ _ hx=>absurd hx jH)
structure Ctx where
 w0:World
 I0:Nat→Prop
 sin:aD
 β0:Nat→Option Nat
 n:Nat
 small:n≤999999
 lay:mM sin β0 w0
def Ctx.M(Γ:Ctx)(b:Nat):Prop:=∃r,aT Γ.sin r∧Γ.β0 r=some b
structure gF (M:Nat→Prop) (w w':World):Prop where
 os:w'.os=w.os
 tape:w'.tape=w.tape
 output:w'.output=w.output
 size:w.heap.size≤w'.heap.size
 block:∀k,k<w.heap.size→¬M k→w'.heap[k]? = w.heap[k]?
 shape:∀k,k<w.heap.size→w'.shape? k=w.shape? k
 drawn:Km→w.drawn≤w'.drawn
theorem gF.refl(M:Nat→Prop)(w:World):gF M w w:=⟨rfl,rfl,rfl,Nat.le_refl _,fun _ _ _=>rfl,fun _ _=>rfl,fun _=>Nat.le_refl _⟩
theorem gF.trans{M M':Nat→Prop}{a b c:World}(h:gF M a b)(k:gF M' b c)(hM:∀x,x<a.heap.size→M' x→M x):gF M a c :=
 ⟨k.os.trans h.os,k.tape.trans h.tape,k.output.trans h.output,Nat.le_trans h.size k.size,
  fun i hi hm=>(k.block i (Nat.lt_of_lt_of_le hi h.size) (fun KC=>hm (hM i hi KC))).trans (h.block i hi hm),
  fun i hi=>(k.shape i (Nat.lt_of_lt_of_le hi h.size)).trans (h.shape i hi),fun s=>Nat.le_trans (h.drawn s) (k.drawn s)⟩
theorem gF.xx{M:Nat→Prop}{w w':World}(h:uE w.heap.size w w'):gF M w w' :=
 ⟨h.os,h.tape,h.output,h.size,fun k hk _=>h.block k hk,fun k hk=>lH (h.block k hk),h.drawn⟩
def gv(x:Nat):Prop:=200000≤x
def Br(sin:aD)(β:Nat→Option Nat)(b:Nat):Prop:=∃x,gv x∧aT sin x∧β x=some b
def Ctx.Nw(Γ:Ctx)(b:Nat):Prop:=Γ.w0.heap.size≤b∨Br Γ.sin Γ.β0 b
theorem Ctx.Nw.m{Γ:Ctx}{b:Nat}(h:Γ.Nw b)(hb:b<Γ.w0.heap.size):Γ.M b:=by
 rcases h with h|⟨x,_,h1,h2⟩
 ·omega
 ·exact⟨x,h1,h2⟩
structure bK (Γ:Ctx) (s:St) (a:Act) (w:World) (β:Nat→Option Nat) (I:Nat→Prop):Prop where
 env:∀t e,s.env.get t=some e→RE β (aT s.aw) I w e (a.tmps.getD t undef)
 aw:ph β I w s.aw
 par:∀r,aT s.aw r→aT Γ.sin r→¬gv r→β r=Γ.β0 r
 new:∀r b,aT s.aw r→(¬aT Γ.sin r∨gv r)→β r=some b→Γ.Nw b
 ib:∀b,I b→b<w.heap.size
 ii:∀b,I b→Γ.I0 b∨fresh Γ.w0 w b∨Br Γ.sin Γ.β0 b
 aB:gF Γ.M Γ.w0 w
 size:a.tmps.size=Γ.n
 defers:a.defers=[]
def Rel(Γ:Ctx)(s:St)(a:Act)(w:World):Prop:=∃β I,bK Γ s a w β I
theorem bK.lay{Γ:Ctx}{s:St}{a:Act}{w:World}{β:Nat→Option Nat}{I:Nat→Prop}(h:bK Γ s a w β I):mM s.aw β w :=
 Γ.lay.mono (fun k hk hn=>h.aB.block k hk (fun ⟨x,hx,hb⟩=>hn x hx hb)) (fun x b hx hb=>by
  by_cases h1:aT Γ.sin x∧¬gv x
  ·exact .inr ⟨x,h1.1,(h.par x hx h1.1 h1.2).symm.trans hb⟩
  ·rcases h.new x b hx (by
    by_cases h2:aT Γ.sin x
    ·exact .inr (Classical.byContradiction fun h3=>h1 ⟨h2,h3⟩)
    ·exact .inl h2) hb with h4|⟨y,_,hy,xw⟩
   ·exact .inl h4
   ·exact .inr ⟨y,hy,xw⟩)
theorem EL{a:Act}{d:Nat}{v:Value}(hd:d<a.tmps.size)(t:Nat):(a.put (some d) v).tmps.getD t undef=if t=d then v else a.tmps.getD t undef:=by
 show(a.tmps.setIfInBounds d v).getD t undef=_
 simp only[Array.getD_eq_getD_getElem?,Array.getElem?_setIfInBounds]
 by_cases h:d=t
 ·subst h;simp[hd]
 ·rw[if_neg h,if_neg (fun e=>h e.symm)]
theorem CF(a:Act)(d:Option Tmp)(v:Value):(a.put d v).tmps.size=a.tmps.size:=by
 cases d<;>simp[Act.put]
theorem put_defers(a:Act)(d:Option Tmp)(v:Value):(a.put d v).defers=a.defers:=by
 cases d<;>rfl
section
variable {Γ:Ctx} {s:St} {a:Act} {w:World} {β:Nat→Option Nat} {I:Nat→Prop}
theorem bK.lb(h:bK Γ s a w β I):∀r b,aT s.aw r→β r=some b→b<w.heap.size:=by
 intro r b hr hb
 obtain⟨sc,jP⟩:=Option.isSome_iff_exists.1 hr
 exact((h.aw.1 r sc jP).2 b hb).1
theorem bK.xb(h:bK Γ s a w β I)(x:Operand)(e:EV)(he:Sym.bL s.env x=some e):RE β (aT s.aw) I w e (a.eval x):=by
 cases x with
 |tmp t=>exact h.env t e he
 |const v =>
  simp only[Sym.bL] at he
  split at he
  ·rename_i p hp
   injection he with he;subst he
   exact yX hp I w
  ·cases he
 |func f=>injection he with he;subst he;exact Rd.fn f
 |global g=>cases he
theorem bK.pre(h:bK Γ s a w β I):rW a w β (aT s.aw) I s.aw (bL s.env) :=
 ⟨fun x e he=>bK.xb h x e he,fun r sc hr _=>(h.aw.1 r sc hr).1,h.lb,h.ib⟩
theorem bK.grow(h:bK Γ s a w β I){w':World}{I':Nat→Prop}(hb:uE w.heap.size w w')(h1:∀b,I b→I' b)(h2:∀b,I' b→I b∨fresh w w' b):bK Γ s a w' β I':=by
 have hw:∀b o,I b→w'.cell? ⟨b,o,none⟩=w.cell? ⟨b,o,none⟩:=fun b o hI=>dS (hb.block b (h.ib b hI)) o
 have hs:∀r b,aT s.aw r→β r=some b→w'.shape? b=w.shape? b:=fun r b hr jw=>lH (hb.block b (h.lb r b hr jw))
 refine⟨fun t e he=>(h.env t e he).mono (fun _ _=>rfl) (fun _ h=>h) h1 hw hs,⟨fun r sc hr => ?_,h.aw.2⟩,h.par,h.new,fun b hI => ?_,fun b hI => ?_,h.aB.trans (gF.xx hb) (fun _ _ h=>h),h.size,h.defers⟩
 ·obtain⟨g1,g2⟩:=h.aw.1 r sc hr
  have hd:aT s.aw r:=by unfold aT;rw[hr];rfl
  refine⟨g1.mono rfl (fun b jw=>hb.block b (h.lb r b hd jw)) (fun _ _=>rfl) (fun _ h=>h) h1 hw hs,fun b jw=>⟨Nat.lt_of_lt_of_le (g2 b jw).1 hb.size,fun hI => ?_⟩⟩
  rcases h2 b hI with hI|hf
  ·exact(g2 b jw).2 hI
  ·have:=(g2 b jw).1;have:=hf.1;omega
 ·rcases h2 b hI with hI|hf
  ·exact Nat.lt_of_lt_of_le (h.ib b hI) hb.size
  ·exact hf.2
 ·rcases h2 b hI with hI|hf
  ·rcases h.ii b hI with h3|h3
   ·exact .inl h3
   ·exact .inr (h3.imp (fun h3=>⟨h3.1,Nat.lt_of_lt_of_le h3.2 hb.size⟩) id)
  ·exact .inr (.inl ⟨Nat.le_trans h.aB.size hf.1,hf.2⟩)
def jU(env:Env)(dst:Option Nat)(e:EV):Env:=match dst with
 |none=>env
 |some d=>(d,e)::env
theorem bK.put(h:bK Γ s a w β I){dst:Option Nat}{e:EV}{v:Value}(hd:∀d,dst=some d→d<Γ.n)(he:RE β (aT s.aw) I w e v) :
  bK Γ ⟨jU s.env dst e,s.aw⟩ (a.put dst v) w β I:=by
 refine⟨fun t e' dN => ?_,h.aw,h.par,h.new,h.ib,h.ii,h.aB,by rw[CF];exact h.size,by rw[put_defers];exact h.defers⟩
 cases dst with
 |none=>exact h.env t e' dN
 |some d =>
  rw[EL (by rw[h.size];exact hd d rfl)]
  simp only[jU,Env.get] at dN
  by_cases ht:t=d
  ·subst ht
   simp only[Nat.beq_refl,cond_true] at dN
   injection dN with dN;subst dN
   simpa using he
  ·have:Nat.beq d t=false:=dU (Ne.symm ht)
   simp only[this,cond_false] at dN
   rw[if_neg ht]
   exact h.env t e' dN
def FE.at(r:Nat):FE→Bool
 |.pv _=>false
 |.row x _ _ _=>Nat.beq x r
def fQ(r:Nat):EV→EV
 |.jF fs=>bif fs.any (FE.at r) then .dead else .jF fs
 |.ptr r' off=>bif Nat.beq r' r then .dead else .ptr r' off
 |.row r' off len sz=>bif Nat.beq r' r then .dead else .row r' off len sz
 |.jE r' off len sz ps=>bif Nat.beq r' r then .dead else .jE r' off len sz ps
 |.sk f r'=>bif Nat.beq r' r then .dead else .sk f r'
 |.km j len sz=>bif Nat.blt r 1000000 then .km j len sz else bif Nat.beq (hc j) r then .dead else .km j len sz
 |.jg j off=>bif Nat.blt r 1000000 then .jg j off else bif Nat.beq (hc j) r then .dead else .jg j off
 |e=>e
def ix(r:Nat):SC→SC
 |.lit cs => .lit (cs.map (fQ r))
 |.pure ps => .pure ps
 |.heap xs=>bif Nat.blt r 1000000 then .heap xs else .heap (xs.set (r-1000000) none)
 |.yO hs sz=>bif Nat.blt r 1000000 then .yO hs sz else .lit ((hs.map fun x=>EV.km x.1 x.2 sz).map (fQ r))
def bQ(r:Nat):aD→aD
 |[]=>[]
 |(r',c)::s=>bif Nat.beq r' r&&Nat.blt r 999999 then bQ r s else (r',ix r c)::bQ r s
def pj(r:Nat):Env→Env
 |[]=>[]
 |(t,e)::s=>(t,fQ r e)::pj r s
def kill(r:Nat)(s:St):St:=⟨pj r s.env,bQ r s.aw⟩
theorem gS(r:Nat):∀(s:aD) (x:Nat),(bQ r s).cp x=if x=r∧r<999999 then none else (s.cp x).map (ix r)
 |[],x=>by simp[bQ,aD.cp]
 |(r',c)::s,x=>by
  simp only[bQ]
  by_cases hr:r<999999
  ·have bU:Nat.blt r 999999=true:=Nat.ble_eq_true_of_le hr
   simp only[bU,Bool.and_true,hr,and_true]
   cases hb:Nat.beq r' r with
   |true =>
    have:r'=r:=Nat.eq_of_beq_eq_true hb
    subst this
    simp only[cond_true,gS r' s x,aD.cp,hr,and_true]
    by_cases hx:x=r'
    ·simp[hx]
    ·have h2:Nat.beq r' x=false:=dU (Ne.symm hx)
     simp[hx,h2]
   |false =>
    simp only[cond_false,aD.cp,gS r s x,hr,and_true]
    cases h2:Nat.beq r' x with
    |true =>
     have:r'=x:=Nat.eq_of_beq_eq_true h2
     subst this
     have fP:r'≠r:=by intro e;subst e;simp at hb
     simp[fP]
    |false=>simp
  ·have bU:Nat.blt r 999999=false:=Bool.eq_false_iff.2 (fun h=>hr (Nat.le_of_ble_eq_true h))
   simp only[bU,Bool.and_false,cond_false,aD.cp,gS r s x,hr,and_false,if_false]
   cases h2:Nat.beq r' x<;>simp
theorem yZ(r:Nat)(s:aD):(bQ r s).hp=if r<1000000 then s.hp else s.hp.set (r-1000000) none:=by
 unfold aD.hp
 rw[gS,if_neg (fun h=>by omega)]
 cases hg:s.cp 999999 with
 |none=>simp
 |some sc =>
  cases sc with
  |lit cs=>simp[ix]
  |pure ps=>simp[ix]
  |yO hs sz=>simp only[Option.map_some,ix];cases Nat.blt r 1000000<;>simp
  |heap xs =>
   simp only[Option.map_some,ix]
   by_cases hr:r<1000000
   ·rw[show Nat.blt r 1000000=true from Nat.ble_eq_true_of_le hr]
    simp[hr]
   ·rw[show Nat.blt r 1000000=false from Bool.eq_false_iff.2 (fun h=>hr (Nat.le_of_ble_eq_true h))]
    simp[hr]
theorem rk(r:Nat)(s:aD)(x:Nat):(bQ r s).get x=if x=r then none else (s.get x).map (ix r):=by
 rcases xi x with h|rfl|⟨j,rfl⟩
 ·rw[aD.gm h,aD.gm h,gS]
  by_cases hx:x=r
  ·subst hx;simp[h]
  ·simp[hx]
 ·rw[aD.dP,aD.dP];simp
 ·rw[aD.gQ,aD.gQ,yZ]
  unfold lL hc
  by_cases hr:r<1000000
  ·rw[if_pos hr,if_neg (by omega)]
   split<;>simp[ix]
  ·rw[if_neg hr]
   by_cases hx:1000000+j=r
   ·rw[if_pos hx,←hx,Nat.add_sub_cancel_left]
    by_cases hl:j<s.hp.length
    ·simp[hl]
    ·rw[List.set_eq_of_length_le (by omega),List.getElem?_eq_none (by omega)]
   ·rw[if_neg hx,List.getElem?_set_ne (by omega)]
    split<;>simp[ix]
theorem rl(r:Nat):∀(s:Env) (t:Nat),(pj r s).get t=(s.get t).map (fQ r)
 |[],t=>rfl
 |(t',e)::s,t=>by
  simp only[pj,Env.get]
  cases Nat.beq t' t<;>simp[rl r s t]
theorem ve{r:Nat}{L L':Nat→Prop}{e:EV}{v:Value}(h:RE β L I w e v)(hL:∀x,L x→x≠r→L' x):RE β L' I w (fQ r e) v:=by
 cases e with
 |pv p=>exact h
 |jD c=>exact h
 |dead=>exact h
 |ptr r' off =>
  simp only[fQ]
  cases hb:Nat.beq r' r with
  |true=>exact True.intro
  |false=>exact⟨hL _ h.1 (by intro e;subst e;simp at hb),h.2⟩
 |sk f r' =>
  simp only[fQ]
  cases hb:Nat.beq r' r with
  |true=>exact True.intro
  |false=>exact⟨hL _ h.1 (by intro e;subst e;simp at hb),h.2⟩
 |km j len sz =>
  simp only[fQ]
  cases so:Nat.blt r 1000000 with
  |true=>exact⟨hL _ h.1 (by have:=Nat.le_of_ble_eq_true so;unfold hc;omega),h.2⟩
  |false =>
   simp only[cond_false]
   cases hb:Nat.beq (hc j) r with
   |true=>exact True.intro
   |false=>exact⟨hL _ h.1 (by intro e;rw[e] at hb;simp at hb),h.2⟩
 |jg j off =>
  simp only[fQ]
  cases so:Nat.blt r 1000000 with
  |true=>exact⟨hL _ h.1 (by have:=Nat.le_of_ble_eq_true so;unfold hc;omega),h.2⟩
  |false =>
   simp only[cond_false]
   cases hb:Nat.beq (hc j) r with
   |true=>exact True.intro
   |false=>exact⟨hL _ h.1 (by intro e;rw[e] at hb;simp at hb),h.2⟩
 |row r' off len sz =>
  simp only[fQ]
  cases hb:Nat.beq r' r with
  |true=>exact True.intro
  |false=>exact⟨hL _ h.1 (by intro e;subst e;simp at hb),h.2⟩
 |jE r' off len sz ps =>
  simp only[fQ]
  cases hb:Nat.beq r' r with
  |true=>exact True.intro
  |false =>
   obtain⟨us,g1,g2,⟨u,g3,g4,JX⟩,g5⟩:=h
   exact⟨us,g1,g2,⟨u,g3,hL _ g4 (by intro e;subst e;simp at hb),JX⟩,g5⟩
 |jF fs =>
  simp only[fQ]
  cases hb:fs.any (FE.at r) with
  |true=>exact True.intro
  |false =>
   obtain⟨us,g1,g2,g3⟩:=h
   refine⟨us,g1,g2,fun j f u h1 h2 => ?_⟩
   have h3:=g3 j f u h1 h2
   cases f with
   |pv p=>exact h3
   |row x off len sz =>
    refine⟨hL _ h3.1 (fun e => ?_),h3.2⟩
    subst e
    have:=List.any_eq_false.1 hb _ (List.mem_of_getElem? h1)
    simp[FE.at] at this
theorem y0(r:Nat)(sc:SC):(ix r sc).mw=sc.mw.map (fQ r):=by
 cases sc with
 |lit cs=>rfl
 |pure ps=>simp[ix,SC.mw,fQ]
 |heap xs=>unfold ix;cases Nat.blt r 1000000<;>rfl
 |yO hs sz =>
  unfold ix
  cases hb:Nat.blt r 1000000 with
  |false=>rfl
  |true=>simp[SC.mw,fQ,hb]
theorem GJ{r x:Nat}{L L':Nat→Prop}{cells:List EV}(h:RB β L I w x cells)(hL:∀x,L x→x≠r→L' x):RB β L' I w x (cells.map (fQ r)):=by
 rcases h with ⟨h1,h2⟩|⟨b,arr,el,hb,h1,h2⟩
 ·exact .inl ⟨h1,by rw[h2];rfl⟩
 ·refine .inr ⟨b,arr,el,hb,h1,fun j e he => ?_⟩
  rw[List.getElem?_map] at he
  cases hc:cells[j]? with
  |none=>simp[hc] at he
  |some c =>
   simp[hc] at he
   subst he
   obtain⟨u,g1,g2,g3⟩:=h2 j c hc
   exact⟨u,g1,g2,ve g3 hL⟩
theorem cC{r x:Nat}{s:aD} : aT (bQ r s) x↔aT s x∧x≠r:=by
 unfold aT
 rw[rk]
 by_cases h:x=r
 ·simp[h]
 ·simp[h]
theorem bK.kill(h:bK Γ s a w β I)(r:Nat):bK Γ (kill r s) a w β I:=by
 have hL:∀x,aT s.aw x→x≠r→aT (bQ r s.aw) x:=fun x hx fP=>cC.2 ⟨hx,fP⟩
 refine⟨fun t e he => ?_,⟨fun x sc hx => ?_,fun x y b hx hy=>h.aw.2 x y b (cC.1 hx).1 (cC.1 hy).1⟩,fun x hx=>h.par x (cC.1 hx).1,fun x b hx=>h.new x b (cC.1 hx).1,h.ib,h.ii,h.aB,h.size,h.defers⟩
 ·have he:(pj r s.env).get t=some e:=he
  rw[rl] at he
  cases hg:s.env.get t with
  |none=>simp[hg] at he
  |some e' =>
   simp[hg] at he
   subst he
   exact ve (h.env t e' hg) hL
 ·have hx:(bQ r s.aw).get x=some sc:=hx
  rw[rk] at hx
  by_cases uK:x=r
  ·simp[uK] at hx
  ·rw[if_neg uK] at hx
   cases hg:s.aw.get x with
   |none=>simp[hg] at hx
   |some sc' =>
    simp[hg] at hx
    subst hx
    obtain⟨g1,g2⟩:=h.aw.1 x sc' hg
    exact⟨by rw[y0];exact GJ g1 hL,g2⟩
theorem aD.fY{r x:Nat}{sc:SC}{s:aD}(hr:r<999999):aD.get ((r,sc)::s) x=bif Nat.beq r x then some sc else s.get x:=by
 rcases xi x with h|rfl|⟨j,rfl⟩
 ·rw[aD.gm h,aD.gm h];rfl
 ·rw[aD.dP,aD.dP,dU (by omega)];rfl
 ·rw[aD.gQ,aD.gQ,dU (by unfold hc;omega)]
  unfold aD.hp
  simp only[aD.cp,dU (show r≠999999 by omega),cond_false]
theorem bW{r x:Nat}{sc:SC}{s:aD}(hr:r<999999):aT ((r,sc)::s) x↔x=r∨aT s x:=by
 unfold aT
 rw[aD.fY hr]
 cases hb:Nat.beq r x with
 |true =>
  have:r=x:=Nat.eq_of_beq_eq_true hb
  simp[this]
 |false =>
  have:x≠r:=by intro e;subst e;simp at hb
  simp[this]
theorem bK.site(h:bK Γ s a w β I){d:Nat}{sc:SC}(mz:d<999999)(hd:¬aT s.aw d)(hn:¬aT Γ.sin d){β':Nat→Option Nat}(hβ:∀r,r≠d→β' r=β r)
  (hb:∀b,β' d=some b→b<w.heap.size∧¬I b∧Γ.Nw b∧∀r,aT s.aw r→β r≠some b) (jP:RB β' (fun r=>aT s.aw r∨r=d) I w d sc.mw) :
  bK Γ ⟨s.env,(d,sc)::s.aw⟩ a w β' I:=by
 have uL:∀r,aT s.aw r→β' r=β r:=fun r hr=>hβ r (fun e=>hd (e ▸ hr))
 have hL:∀r,aT s.aw r→aT ((d,sc)::s.aw) r:=fun r hr=>(bW mz).2 (.inr hr)
 have NB:∀r,(aT s.aw r∨r=d)→aT ((d,sc)::s.aw) r:=fun r hr=>(bW mz).2 (hr.elim .inr .inl)
 refine⟨fun t e he=>(h.env t e he).mono uL hL (fun _ h=>h) (fun _ _ _=>rfl) (fun _ _ _ _=>rfl),⟨fun r sc' hr => ?_,fun r r' b hr bU e1 e2 => ?_⟩,fun r hr hs hg => ?_,fun r b hr hs cQ => ?_,h.ib,h.ii,h.aB,h.size,h.defers⟩
 ·rw[aD.fY mz] at hr
  cases hbq:Nat.beq d r with
  |true =>
   have:d=r:=Nat.eq_of_beq_eq_true hbq
   subst this
   simp only[hbq,cond_true] at hr
   injection hr with hr;subst hr
   exact⟨jP.mono rfl (fun _ _=>rfl) (fun _ _=>rfl) NB (fun _ h=>h) (fun _ _ _=>rfl) (fun _ _ _ _=>rfl),fun b cQ=>⟨(hb b cQ).1,(hb b cQ).2.1⟩⟩
  |false =>
   simp only[hbq,cond_false] at hr
   have r6:aT s.aw r:=by unfold aT;rw[hr];rfl
   obtain⟨g1,g2⟩:=h.aw.1 r sc' hr
   exact⟨g1.mono (uL r r6) (fun _ _=>rfl) uL hL (fun _ h=>h) (fun _ _ _=>rfl) (fun _ _ _ _=>rfl),fun b cQ=>g2 b (by rw[←uL r r6];exact cQ)⟩
 ·rcases(bW mz).1 hr with h1|h1
  ·rcases(bW mz).1 bU with h2|h2
   ·rw[h1,h2]
   ·rw[h1] at e1
    rw[uL r' h2] at e2
    exact absurd e2 ((hb b e1).2.2.2 r' h2)
  ·rcases(bW mz).1 bU with h2|h2
   ·rw[h2] at e2
    rw[uL r h1] at e1
    exact absurd e1 ((hb b e2).2.2.2 r h1)
   ·rw[uL r h1] at e1
    rw[uL r' h2] at e2
    exact h.aw.2 r r' b h1 h2 e1 e2
 ·rcases(bW mz).1 hr with rfl|hr
  ·exact absurd hs hn
  ·rw[uL r hr];exact h.par r hr hs hg
 ·rcases(bW mz).1 hr with rfl|hr
  ·exact(hb b cQ).2.2.1
  ·rw[uL r hr] at cQ;exact h.new r b hr hs cQ
end
end Go.Proofs.YtnjhplhbmapclaaGreatDoor.Sym
