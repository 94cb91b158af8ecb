/- Bezout and Accepts of the program answer as the reference does. -/
import Derived.Test.YtboilcfohmmpbaaGreatDoorYSymI
import Derived.Laws.AppendOwn
namespace Go.Proofs.YtboilcfohmmpbaaGreatDoor.Sym
open Go Go.RowKit
theorem beq_ne{a b:Nat}(h:a≠b):Nat.beq a b=false:=by
 cases hb:Nat.beq a b with
 |false=>rfl
 |true=>exact absurd (Nat.eq_of_beq_eq_true hb) h
abbrev Env:=List (Nat×EV)
def Env.get:Env→Nat→Option EV
 |[],_=>none
 |(t',e)::r,t=>bif Nat.beq t' t then some e else Env.get r t
structure St where
 env:Env
 sto:Sto
def constPV:Value→Option PV
 |.bool b=>some (.bool b)
 |.int k n=>some (.int k n)
 |.string s=>some (.str s)
 |.nilIface=>some .nilI
 |.slice none 0 0=>some (.list [])
 |_=>none
theorem constPV_rd{v:Value}{p:PV}(h:constPV v=some p)(I:Nat→Prop)(w:World):Rd I w p v:=by
 unfold constPV at h
 split at h<;>first|(cases h;done)|(injection h with h;subst h)
 ·exact .bool _
 ·exact .int _ _
 ·exact .str _
 ·exact .nilI
 ·exact .nil _ _
def evalO(env:Env):Operand→Option EV
 |.tmp t=>env.get t
 |.const v=>match constPV v with
  |some p=>some (.pv p)
  |none=>none
 |.func f=>some (.pv (.fn f))
 |.global _=>none
def dom(s:Sto)(r:Nat):Prop:=(s.get r).isSome=true
theorem Sto.get_nil(x:Nat):Sto.get [] x=none:=by
 rcases num3 x with h|rfl|⟨j,rfl⟩
 ·rw[Sto.get_lt h];rfl
 ·rfl
 ·rw[Sto.get_hc];rfl
theorem dom_nil{x:Nat} : ¬dom [] x:=fun h=>by unfold dom at h;rw[Sto.get_nil] at h;cases h
def StoOk(β:Nat→Option Nat)(I:Nat→Prop)(w:World)(sto:Sto):Prop :=
 (∀r sc,sto.get r=some sc→RB β (dom sto) I w r sc.evs∧∀b,β r=some b→b<w.heap.size∧¬I b) ∧
 ∀r r' b,dom sto r→dom sto r'→β r=some b→β r'=some b→r=r'
structure Ctx where
 w0:World
 I0:Nat→Prop
 sin:Sto
 β0:Nat→Option Nat
 n:Nat
 small:n≤999999
def Ctx.M(Γ:Ctx)(b:Nat):Prop:=∃r,dom Γ.sin r∧Γ.β0 r=some b
structure Keeps (M:Nat→Prop) (w w':World):Prop where
 os:w'.os=w.os
 tape:w'.tape=w.tape
 output:w'.output=w.output
 size:w.heap.size≤w'.heap.size
 block:∀k,k<w.heap.size→¬M k→w'.heap[k]? = w.heap[k]?
 shape:∀k,k<w.heap.size→w'.shape? k=w.shape? k
 drawn:Str→w.drawn≤w'.drawn
theorem Keeps.refl(M:Nat→Prop)(w:World):Keeps M w w:=⟨rfl,rfl,rfl,Nat.le_refl _,fun _ _ _=>rfl,fun _ _=>rfl,fun _=>Nat.le_refl _⟩
theorem Keeps.trans{M M':Nat→Prop}{a b c:World}(h:Keeps M a b)(k:Keeps M' b c)(hM:∀x,x<a.heap.size→M' x→M x):Keeps M a c :=
 ⟨k.os.trans h.os,k.tape.trans h.tape,k.output.trans h.output,Nat.le_trans h.size k.size,
  fun i hi hm=>(k.block i (Nat.lt_of_lt_of_le hi h.size) (fun hm'=>hm (hM i hi hm'))).trans (h.block i hi hm),
  fun i hi=>(k.shape i (Nat.lt_of_lt_of_le hi h.size)).trans (h.shape i hi),fun s=>Nat.le_trans (h.drawn s) (k.drawn s)⟩
theorem Keeps.of_below{M:Nat→Prop}{w w':World}(h:Bel w.heap.size w w'):Keeps M w w' :=
 ⟨h.os,h.tape,h.output,h.size,fun k hk _=>h.block k hk,fun k hk=>shape_heap (h.block k hk),h.drawn⟩
def gv(x:Nat):Prop:=200000≤x
def Gvn(sin:Sto)(β:Nat→Option Nat)(b:Nat):Prop:=∃x,gv x∧dom sin x∧β x=some b
def Ctx.Nw(Γ:Ctx)(b:Nat):Prop:=Γ.w0.heap.size≤b∨Gvn Γ.sin Γ.β0 b
theorem Ctx.Nw.m{Γ:Ctx}{b:Nat}(h:Γ.Nw b)(hb:b<Γ.w0.heap.size):Γ.M b:=by
 rcases h with h|⟨x,_,h1,h2⟩
 ·omega
 ·exact⟨x,h1,h2⟩
structure RelB (Γ:Ctx) (s:St) (a:Act) (w:World) (β:Nat→Option Nat) (I:Nat→Prop):Prop where
 env:∀t e,s.env.get t=some e→RE β (dom s.sto) I w e (a.tmps.getD t undef)
 sto:StoOk β I w s.sto
 par:∀r,dom s.sto r→dom Γ.sin r→¬gv r→β r=Γ.β0 r
 new:∀r b,dom s.sto r→(¬dom Γ.sin r∨gv r)→β r=some b→Γ.Nw b
 ib:∀b,I b→b<w.heap.size
 ii:∀b,I b→Γ.I0 b∨fresh Γ.w0 w b∨Gvn Γ.sin Γ.β0 b
 keep:Keeps Γ.M Γ.w0 w
 size:a.tmps.size=Γ.n
 defers:a.defers=[]
def Rel(Γ:Ctx)(s:St)(a:Act)(w:World):Prop:=∃β I,RelB Γ s a w β I
theorem put_get{a:Act}{d:Nat}{v:Value}(hd:d<a.tmps.size)(t:Nat):(a.put (some d) v).tmps.getD t undef=if t=d then v else a.tmps.getD t undef:=by
 show(a.tmps.setIfInBounds d v).getD t undef=_
 simp only[Array.getD_eq_getD_getElem?,Array.getElem?_setIfInBounds]
 by_cases h:d=t
 ·subst h;simp[hd]
 ·rw[if_neg h,if_neg (fun e=>h e.symm)]
theorem put_size(a:Act)(d:Option Tmp)(v:Value):(a.put d v).tmps.size=a.tmps.size:=by
 cases d<;>simp[Act.put]
theorem put_defers(a:Act)(d:Option Tmp)(v:Value):(a.put d v).defers=a.defers:=by
 cases d<;>rfl
section
variable {Γ:Ctx} {s:St} {a:Act} {w:World} {β:Nat→Option Nat} {I:Nat→Prop}
theorem RelB.lb(h:RelB Γ s a w β I):∀r b,dom s.sto r→β r=some b→b<w.heap.size:=by
 intro r b hr hb
 obtain⟨sc,hsc⟩:=Option.isSome_iff_exists.1 hr
 exact((h.sto.1 r sc hsc).2 b hb).1
theorem RelB.evO(h:RelB Γ s a w β I)(x:Operand)(e:EV)(he:Sym.evalO s.env x=some e):RE β (dom s.sto) I w e (a.eval x):=by
 cases x with
 |tmp t=>exact h.env t e he
 |const v =>
  simp only[Sym.evalO] at he
  split at he
  ·rename_i p hp
   injection he with he;subst he
   exact constPV_rd hp I w
  ·cases he
 |func f=>injection he with he;subst he;exact Rd.fn f
 |global g=>cases he
theorem RelB.pre(h:RelB Γ s a w β I):Pre a w β (dom s.sto) I s.sto (evalO s.env) :=
 ⟨fun x e he=>RelB.evO h x e he,fun r sc hr _=>(h.sto.1 r sc hr).1,h.lb,h.ib⟩
theorem RelB.grow(h:RelB Γ s a w β I){w':World}{I':Nat→Prop}(hb:Bel w.heap.size w w')(h1:∀b,I b→I' b)(h2:∀b,I' b→I b∨fresh w w' b):RelB Γ s a w' β I':=by
 have hw:∀b o,I b→w'.cell? ⟨b,o,none⟩=w.cell? ⟨b,o,none⟩:=fun b o hI=>cell_heap (hb.block b (h.ib b hI)) o
 have hs:∀r b,dom s.sto r→β r=some b→w'.shape? b=w.shape? b:=fun r b hr hbr=>shape_heap (hb.block b (h.lb r b hr hbr))
 refine⟨fun t e he=>(h.env t e he).mono (fun _ _=>rfl) (fun _ h=>h) h1 hw hs,⟨fun r sc hr => ?_,h.sto.2⟩,h.par,h.new,fun b hI => ?_,fun b hI => ?_,h.keep.trans (Keeps.of_below hb) (fun _ _ h=>h),h.size,h.defers⟩
 ·obtain⟨g1,g2⟩:=h.sto.1 r sc hr
  have hd:dom s.sto r:=by unfold dom;rw[hr];rfl
  refine⟨g1.mono rfl (fun b hbr=>hb.block b (h.lb r b hd hbr)) (fun _ _=>rfl) (fun _ h=>h) h1 hw hs,fun b hbr=>⟨Nat.lt_of_lt_of_le (g2 b hbr).1 hb.size,fun hI => ?_⟩⟩
  rcases h2 b hI with hI|hf
  ·exact(g2 b hbr).2 hI
  ·have:=(g2 b hbr).1;have:=hf.1;omega
 ·rcases h2 b hI with hI|hf
  ·exact Nat.lt_of_lt_of_le (h.ib b hI) hb.size
  ·exact hf.2
 ·rcases h2 b hI with hI|hf
  ·rcases h.ii b hI with h3|h3
   ·exact .inl h3
   ·exact .inr (h3.imp (fun h3=>⟨h3.1,Nat.lt_of_lt_of_le h3.2 hb.size⟩) id)
  ·exact .inr (.inl ⟨Nat.le_trans h.keep.size hf.1,hf.2⟩)
def setD(env:Env)(dst:Option Nat)(e:EV):Env:=match dst with
 |none=>env
 |some d=>(d,e)::env
theorem RelB.put(h:RelB Γ s a w β I){dst:Option Nat}{e:EV}{v:Value}(hd:∀d,dst=some d→d<Γ.n)(he:RE β (dom s.sto) I w e v) :
  RelB Γ ⟨setD s.env dst e,s.sto⟩ (a.put dst v) w β I:=by
 refine⟨fun t e' he' => ?_,h.sto,h.par,h.new,h.ib,h.ii,h.keep,by rw[put_size];exact h.size,by rw[put_defers];exact h.defers⟩
 cases dst with
 |none=>exact h.env t e' he'
 |some d =>
  rw[put_get (by rw[h.size];exact hd d rfl)]
  simp only[setD,Env.get] at he'
  by_cases ht:t=d
  ·subst ht
   simp only[Nat.beq_refl,cond_true] at he'
   injection he' with he';subst he'
   simpa using he
  ·have:Nat.beq d t=false:=beq_ne (Ne.symm ht)
   simp only[this,cond_false] at he'
   rw[if_neg ht]
   exact h.env t e' he'
def killEV(r:Nat):EV→EV
 |.ptr r' off=>bif Nat.beq r' r then .dead else .ptr r' off
 |.row r' off len sz=>bif Nat.beq r' r then .dead else .row r' off len sz
 |.rowT r' off len sz ps=>bif Nat.beq r' r then .dead else .rowT r' off len sz ps
 |.clo f r'=>bif Nat.beq r' r then .dead else .clo f r'
 |.mrow j len sz=>bif Nat.blt r 1000000 then .mrow j len sz else bif Nat.beq (hc j) r then .dead else .mrow j len sz
 |.mptr j off=>bif Nat.blt r 1000000 then .mptr j off else bif Nat.beq (hc j) r then .dead else .mptr j off
 |e=>e
def killSC(r:Nat):SC→SC
 |.lit cs => .lit (cs.map (killEV r))
 |.pure ps => .pure ps
 |.heap xs=>bif Nat.blt r 1000000 then .heap xs else .heap (xs.set (r-1000000) none)
 |.mats hs sz=>bif Nat.blt r 1000000 then .mats hs sz else .lit ((hs.map fun x=>EV.mrow x.1 x.2 sz).map (killEV r))
def killSto(r:Nat):Sto→Sto
 |[]=>[]
 |(r',c)::s=>bif Nat.beq r' r&&Nat.blt r 999999 then killSto r s else (r',killSC r c)::killSto r s
def killEnv(r:Nat):Env→Env
 |[]=>[]
 |(t,e)::s=>(t,killEV r e)::killEnv r s
def kill(r:Nat)(s:St):St:=⟨killEnv r s.env,killSto r s.sto⟩
theorem killSto_get0(r:Nat):∀(s:Sto) (x:Nat),(killSto r s).get0 x=if x=r∧r<999999 then none else (s.get0 x).map (killSC r)
 |[],x=>by simp[killSto,Sto.get0]
 |(r',c)::s,x=>by
  simp only[killSto]
  by_cases hr:r<999999
  ·have hr':Nat.blt r 999999=true:=Nat.ble_eq_true_of_le hr
   simp only[hr',Bool.and_true,hr,and_true]
   cases hb:Nat.beq r' r with
   |true =>
    have:r'=r:=Nat.eq_of_beq_eq_true hb
    subst this
    simp only[cond_true,killSto_get0 r' s x,Sto.get0,hr,and_true]
    by_cases hx:x=r'
    ·simp[hx]
    ·have h2:Nat.beq r' x=false:=beq_ne (Ne.symm hx)
     simp[hx,h2]
   |false =>
    simp only[cond_false,Sto.get0,killSto_get0 r s x,hr,and_true]
    cases h2:Nat.beq r' x with
    |true =>
     have:r'=x:=Nat.eq_of_beq_eq_true h2
     subst this
     have hne:r'≠r:=by intro e;subst e;simp at hb
     simp[hne]
    |false=>simp
  ·have hr':Nat.blt r 999999=false:=Bool.eq_false_iff.2 (fun h=>hr (Nat.le_of_ble_eq_true h))
   simp only[hr',Bool.and_false,cond_false,Sto.get0,killSto_get0 r s x,hr,and_false,if_false]
   cases h2:Nat.beq r' x<;>simp
theorem killSto_hp(r:Nat)(s:Sto):(killSto r s).hp=if r<1000000 then s.hp else s.hp.set (r-1000000) none:=by
 unfold Sto.hp
 rw[killSto_get0,if_neg (fun h=>by omega)]
 cases hg:s.get0 999999 with
 |none=>simp
 |some sc =>
  cases sc with
  |lit cs=>simp[killSC]
  |pure ps=>simp[killSC]
  |mats hs sz=>simp only[Option.map_some,killSC];cases Nat.blt r 1000000<;>simp
  |heap xs =>
   simp only[Option.map_some,killSC]
   by_cases hr:r<1000000
   ·rw[show Nat.blt r 1000000=true from Nat.ble_eq_true_of_le hr]
    simp[hr]
   ·rw[show Nat.blt r 1000000=false from Bool.eq_false_iff.2 (fun h=>hr (Nat.le_of_ble_eq_true h))]
    simp[hr]
theorem killSto_get(r:Nat)(s:Sto)(x:Nat):(killSto r s).get x=if x=r then none else (s.get x).map (killSC r):=by
 rcases num3 x with h|rfl|⟨j,rfl⟩
 ·rw[Sto.get_lt h,Sto.get_lt h,killSto_get0]
  by_cases hx:x=r
  ·subst hx;simp[h]
  ·simp[hx]
 ·rw[Sto.get_mid,Sto.get_mid];simp
 ·rw[Sto.get_hc,Sto.get_hc,killSto_hp]
  unfold heapAt hc
  by_cases hr:r<1000000
  ·rw[if_pos hr,if_neg (by omega)]
   split<;>simp[killSC]
  ·rw[if_neg hr]
   by_cases hx:1000000+j=r
   ·rw[if_pos hx,←hx,Nat.add_sub_cancel_left]
    by_cases hl:j<s.hp.length
    ·simp[hl]
    ·rw[List.set_eq_of_length_le (by omega),List.getElem?_eq_none (by omega)]
   ·rw[if_neg hx,List.getElem?_set_ne (by omega)]
    split<;>simp[killSC]
theorem killEnv_get(r:Nat):∀(s:Env) (t:Nat),(killEnv r s).get t=(s.get t).map (killEV r)
 |[],t=>rfl
 |(t',e)::s,t=>by
  simp only[killEnv,Env.get]
  cases Nat.beq t' t<;>simp[killEnv_get r s t]
theorem killEV_re{r:Nat}{L L':Nat→Prop}{e:EV}{v:Value}(h:RE β L I w e v)(hL:∀x,L x→x≠r→L' x):RE β L' I w (killEV r e) v:=by
 cases e with
 |pv p=>exact h
 |cptr c=>exact h
 |dead=>exact h
 |ptr r' off =>
  simp only[killEV]
  cases hb:Nat.beq r' r with
  |true=>exact True.intro
  |false=>exact⟨hL _ h.1 (by intro e;subst e;simp at hb),h.2⟩
 |clo f r' =>
  simp only[killEV]
  cases hb:Nat.beq r' r with
  |true=>exact True.intro
  |false=>exact⟨hL _ h.1 (by intro e;subst e;simp at hb),h.2⟩
 |mrow j len sz =>
  simp only[killEV]
  cases hb1:Nat.blt r 1000000 with
  |true=>exact⟨hL _ h.1 (by have:=Nat.le_of_ble_eq_true hb1;unfold hc;omega),h.2⟩
  |false =>
   simp only[cond_false]
   cases hb:Nat.beq (hc j) r with
   |true=>exact True.intro
   |false=>exact⟨hL _ h.1 (by intro e;rw[e] at hb;simp at hb),h.2⟩
 |mptr j off =>
  simp only[killEV]
  cases hb1:Nat.blt r 1000000 with
  |true=>exact⟨hL _ h.1 (by have:=Nat.le_of_ble_eq_true hb1;unfold hc;omega),h.2⟩
  |false =>
   simp only[cond_false]
   cases hb:Nat.beq (hc j) r with
   |true=>exact True.intro
   |false=>exact⟨hL _ h.1 (by intro e;rw[e] at hb;simp at hb),h.2⟩
 |row r' off len sz =>
  simp only[killEV]
  cases hb:Nat.beq r' r with
  |true=>exact True.intro
  |false=>exact⟨hL _ h.1 (by intro e;subst e;simp at hb),h.2⟩
 |rowT r' off len sz ps =>
  simp only[killEV]
  cases hb:Nat.beq r' r with
  |true=>exact True.intro
  |false =>
   obtain⟨us,g1,g2,⟨u,g3,g4,g4'⟩,g5⟩:=h
   exact⟨us,g1,g2,⟨u,g3,hL _ g4 (by intro e;subst e;simp at hb),g4'⟩,g5⟩
theorem killSC_evs(r:Nat)(sc:SC):(killSC r sc).evs=sc.evs.map (killEV r):=by
 cases sc with
 |lit cs=>rfl
 |pure ps=>simp[killSC,SC.evs,killEV]
 |heap xs=>unfold killSC;cases Nat.blt r 1000000<;>rfl
 |mats hs sz =>
  unfold killSC
  cases hb:Nat.blt r 1000000 with
  |false=>rfl
  |true=>simp[SC.evs,killEV,hb]
theorem killRB{r x:Nat}{L L':Nat→Prop}{cells:List EV}(h:RB β L I w x cells)(hL:∀x,L x→x≠r→L' x):RB β L' I w x (cells.map (killEV r)):=by
 rcases h with ⟨h1,h2⟩|⟨b,arr,el,hb,h1,h2⟩
 ·exact .inl ⟨h1,by rw[h2];rfl⟩
 ·refine .inr ⟨b,arr,el,hb,h1,fun j e he => ?_⟩
  rw[List.getElem?_map] at he
  cases hc:cells[j]? with
  |none=>simp[hc] at he
  |some c =>
   simp[hc] at he
   subst he
   obtain⟨u,g1,g2,g3⟩:=h2 j c hc
   exact⟨u,g1,g2,killEV_re g3 hL⟩
theorem dom_kill{r x:Nat}{s:Sto} : dom (killSto r s) x↔dom s x∧x≠r:=by
 unfold dom
 rw[killSto_get]
 by_cases h:x=r
 ·simp[h]
 ·simp[h]
theorem RelB.kill(h:RelB Γ s a w β I)(r:Nat):RelB Γ (kill r s) a w β I:=by
 have hL:∀x,dom s.sto x→x≠r→dom (killSto r s.sto) x:=fun x hx hne=>dom_kill.2 ⟨hx,hne⟩
 refine⟨fun t e he => ?_,⟨fun x sc hx => ?_,fun x y b hx hy=>h.sto.2 x y b (dom_kill.1 hx).1 (dom_kill.1 hy).1⟩,fun x hx=>h.par x (dom_kill.1 hx).1,fun x b hx=>h.new x b (dom_kill.1 hx).1,h.ib,h.ii,h.keep,h.size,h.defers⟩
 ·have he:(killEnv r s.env).get t=some e:=he
  rw[killEnv_get] at he
  cases hg:s.env.get t with
  |none=>simp[hg] at he
  |some e' =>
   simp[hg] at he
   subst he
   exact killEV_re (h.env t e' hg) hL
 ·have hx:(killSto r s.sto).get x=some sc:=hx
  rw[killSto_get] at hx
  by_cases hxr:x=r
  ·simp[hxr] at hx
  ·rw[if_neg hxr] at hx
   cases hg:s.sto.get x with
   |none=>simp[hg] at hx
   |some sc' =>
    simp[hg] at hx
    subst hx
    obtain⟨g1,g2⟩:=h.sto.1 x sc' hg
    exact⟨by rw[killSC_evs];exact killRB g1 hL,g2⟩
theorem Sto.get_cons{r x:Nat}{sc:SC}{s:Sto}(hr:r<999999):Sto.get ((r,sc)::s) x=bif Nat.beq r x then some sc else s.get x:=by
 rcases num3 x with h|rfl|⟨j,rfl⟩
 ·rw[Sto.get_lt h,Sto.get_lt h];rfl
 ·rw[Sto.get_mid,Sto.get_mid,beq_ne (by omega)];rfl
 ·rw[Sto.get_hc,Sto.get_hc,beq_ne (by unfold hc;omega)]
  unfold Sto.hp
  simp only[Sto.get0,beq_ne (show r≠999999 by omega),cond_false]
theorem dom_cons{r x:Nat}{sc:SC}{s:Sto}(hr:r<999999):dom ((r,sc)::s) x↔x=r∨dom s x:=by
 unfold dom
 rw[Sto.get_cons hr]
 cases hb:Nat.beq r x with
 |true =>
  have:r=x:=Nat.eq_of_beq_eq_true hb
  simp[this]
 |false =>
  have:x≠r:=by intro e;subst e;simp at hb
  simp[this]
theorem RelB.site(h:RelB Γ s a w β I){d:Nat}{sc:SC}(hd9:d<999999)(hd:¬dom s.sto d)(hn:¬dom Γ.sin d){β':Nat→Option Nat}(hβ:∀r,r≠d→β' r=β r)
  (hb:∀b,β' d=some b→b<w.heap.size∧¬I b∧Γ.Nw b∧∀r,dom s.sto r→β r≠some b) (hsc:RB β' (fun r=>dom s.sto r∨r=d) I w d sc.evs) :
  RelB Γ ⟨s.env,(d,sc)::s.sto⟩ a w β' I:=by
 have hβ':∀r,dom s.sto r→β' r=β r:=fun r hr=>hβ r (fun e=>hd (e ▸ hr))
 have hL:∀r,dom s.sto r→dom ((d,sc)::s.sto) r:=fun r hr=>(dom_cons hd9).2 (.inr hr)
 have hL2:∀r,(dom s.sto r∨r=d)→dom ((d,sc)::s.sto) r:=fun r hr=>(dom_cons hd9).2 (hr.elim .inr .inl)
 refine⟨fun t e he=>(h.env t e he).mono hβ' hL (fun _ h=>h) (fun _ _ _=>rfl) (fun _ _ _ _=>rfl),⟨fun r sc' hr => ?_,fun r r' b hr hr' e1 e2 => ?_⟩,fun r hr hs hg => ?_,fun r b hr hs hb' => ?_,h.ib,h.ii,h.keep,h.size,h.defers⟩
 ·rw[Sto.get_cons hd9] at hr
  cases hbq:Nat.beq d r with
  |true =>
   have:d=r:=Nat.eq_of_beq_eq_true hbq
   subst this
   simp only[hbq,cond_true] at hr
   injection hr with hr;subst hr
   exact⟨hsc.mono rfl (fun _ _=>rfl) (fun _ _=>rfl) hL2 (fun _ h=>h) (fun _ _ _=>rfl) (fun _ _ _ _=>rfl),fun b hb'=>⟨(hb b hb').1,(hb b hb').2.1⟩⟩
  |false =>
   simp only[hbq,cond_false] at hr
   have hdr:dom s.sto r:=by unfold dom;rw[hr];rfl
   obtain⟨g1,g2⟩:=h.sto.1 r sc' hr
   exact⟨g1.mono (hβ' r hdr) (fun _ _=>rfl) hβ' hL (fun _ h=>h) (fun _ _ _=>rfl) (fun _ _ _ _=>rfl),fun b hb'=>g2 b (by rw[←hβ' r hdr];exact hb')⟩
 ·rcases(dom_cons hd9).1 hr with h1|h1
  ·rcases(dom_cons hd9).1 hr' with h2|h2
   ·rw[h1,h2]
   ·rw[h1] at e1
    rw[hβ' r' h2] at e2
    exact absurd e2 ((hb b e1).2.2.2 r' h2)
  ·rcases(dom_cons hd9).1 hr' with h2|h2
   ·rw[h2] at e2
    rw[hβ' r h1] at e1
    exact absurd e1 ((hb b e2).2.2.2 r h1)
   ·rw[hβ' r h1] at e1
    rw[hβ' r' h2] at e2
    exact h.sto.2 r r' b h1 h2 e1 e2
 ·rcases(dom_cons hd9).1 hr with rfl|hr
  ·exact absurd hs hn
  ·rw[hβ' r hr];exact h.par r hr hs hg
 ·rcases(dom_cons hd9).1 hr with rfl|hr
  ·exact(hb b hb').2.2.1
  ·rw[hβ' r hr] at hb';exact h.new r b hr hs hb'
end
end Go.Proofs.YtboilcfohmmpbaaGreatDoor.Sym
