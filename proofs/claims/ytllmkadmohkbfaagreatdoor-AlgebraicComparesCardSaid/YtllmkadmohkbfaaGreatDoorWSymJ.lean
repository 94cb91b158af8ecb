/- Lemmas for the statements of this seat. -/
import Derived.Test.YtllmkadmohkbfaaGreatDoorWSymI
import Derived.Laws.AppendOwn
namespace Go.Proofs.YtllmkadmohkbfaaGreatDoor.Sym
open Go Go.RowKit
theorem mP{a b:Nat}(h:a≠b):Nat.beq a b=false:=by
 cases hb:Nat.beq a b with
 |false=>rfl
 |true=>exact absurd (Nat.eq_of_beq_eq_true hb) h
abbrev Env:=List (Nat×EV)
def Env.get:Env→Nat→Option EV
 |[],_=>none
 |(t',e)::r,t=>bif Nat.beq t' t then some e else Env.get r t
structure St where
 env:Env
 bp:cq
def JA:Value→Option PV
 |.bool b=>some (.bool b)
 |.int k n=>some (.int k n)
 |.string s=>some (.str s)
 |.nilIface=>some .aq
 |.slice none 0 0=>some (.list [])
 |_=>none
theorem Mw{v:Value}{p:PV}(h:JA v=some p)(I:Nat→Prop)(w:World):Rd I w p v:=by
 unfold JA at h
 split at h<;>first|(cases h;done)|(injection h with h;subst h)
 ·exact .bool _
 ·exact .int _ _
 ·exact .str _
 ·exact .aq
 ·exact .nil _ _
def iq(env:Env):Operand→Option EV
 |.tmp t=>env.get t
 |.const v=>match JA v with
  |some p=>some (.pv p)
  |none=>none
 |.func f=>some (.pv (.fn f))
 |.global _=>none
def ee(s:cq)(r:Nat):Prop:=(s.get r).isSome=true
theorem cq.get_nil(x:Nat):cq.get [] x=none:=by
 rcases KB x with h|rfl|⟨j,rfl⟩
 ·rw[cq.qZ h];rfl
 ·rfl
 ·rw[cq.rJ];rfl
theorem tE{x:Nat} : ¬ee [] x:=fun h=>by unfold ee at h;rw[cq.get_nil] at h;cases h
def CH(β:Nat→Option Nat)(I:Nat→Prop)(w:World)(bp:cq):Prop :=
 (∀r sc,bp.get r=some sc→RB β (ee bp) I w r sc.zw∧∀b,β r=some b→b<w.heap.size∧¬I b) ∧
 ∀r r' b,ee bp r→ee bp r'→β r=some b→β r'=some b→r=r'
structure Ctx where
 w0:World
 I0:Nat→Prop
 sin:cq
 β0:Nat→Option Nat
 n:Nat
 small:n≤999999
def Ctx.M(Γ:Ctx)(b:Nat):Prop:=∃r,ee Γ.sin r∧Γ.β0 r=some b
structure o8 (M:Nat→Prop) (w w':World):Prop where
 os:w'.os=w.os
 tape:w'.tape=w.tape
 output:w'.output=w.output
 size:w.heap.size≤w'.heap.size
 block:∀k,k<w.heap.size→¬M k→w'.heap[k]? = w.heap[k]?
 shape:∀k,k<w.heap.size→w'.shape? k=w.shape? k
 drawn:YA→w.drawn≤w'.drawn
theorem o8.refl(M:Nat→Prop)(w:World):o8 M w w:=⟨rfl,rfl,rfl,Nat.le_refl _,fun _ _ _=>rfl,fun _ _=>rfl,fun _=>Nat.le_refl _⟩
theorem o8.trans{M M':Nat→Prop}{a b c:World}(h:o8 M a b)(k:o8 M' b c)(hM:∀x,x<a.heap.size→M' x→M x):o8 M a c :=
 ⟨k.os.trans h.os,k.tape.trans h.tape,k.output.trans h.output,Nat.le_trans h.size k.size,
  fun i hi hm=>(k.block i (Nat.lt_of_lt_of_le hi h.size) (fun YO=>hm (hM i hi YO))).trans (h.block i hi hm),
  fun i hi=>(k.shape i (Nat.lt_of_lt_of_le hi h.size)).trans (h.shape i hi),fun s=>Nat.le_trans (h.drawn s) (k.drawn s)⟩
theorem o8.KM{M:Nat→Prop}{w w':World}(h:Ib w.heap.size w w'):o8 M w w' :=
 ⟨h.os,h.tape,h.output,h.size,fun k hk _=>h.block k hk,fun k hk=>yg (h.block k hk),h.drawn⟩
def gv(x:Nat):Prop:=200000≤x
def O4(sin:cq)(β:Nat→Option Nat)(b:Nat):Prop:=∃x,gv x∧ee sin x∧β x=some b
def Ctx.Nw(Γ:Ctx)(b:Nat):Prop:=Γ.w0.heap.size≤b∨O4 Γ.sin Γ.β0 b
theorem Ctx.Nw.m{Γ:Ctx}{b:Nat}(h:Γ.Nw b)(hb:b<Γ.w0.heap.size):Γ.M b:=by
 rcases h with h|⟨x,_,h1,h2⟩
 ·omega
 ·exact⟨x,h1,h2⟩
structure iA (Γ:Ctx) (s:St) (a:Act) (w:World) (β:Nat→Option Nat) (I:Nat→Prop):Prop where
 env:∀t e,s.env.get t=some e→RE β (ee s.bp) I w e (a.tmps.getD t undef)
 bp:CH β I w s.bp
 par:∀r,ee s.bp r→ee Γ.sin r→¬gv r→β r=Γ.β0 r
 new:∀r b,ee s.bp r→(¬ee Γ.sin r∨gv r)→β r=some b→Γ.Nw b
 ib:∀b,I b→b<w.heap.size
 ii:∀b,I b→Γ.I0 b∨fresh Γ.w0 w b∨O4 Γ.sin Γ.β0 b
 aP:o8 Γ.M Γ.w0 w
 size:a.tmps.size=Γ.n
 defers:a.defers=[]
def Rel(Γ:Ctx)(s:St)(a:Act)(w:World):Prop:=∃β I,iA Γ s a w β I
theorem Sw{a:Act}{d:Nat}{v:Value}(hd:d<a.tmps.size)(t:Nat):(a.put (some d) v).tmps.getD t undef=if t=d then v else a.tmps.getD t undef:=by
 show(a.tmps.setIfInBounds d v).getD t undef=_
 simp only[Array.getD_eq_getD_getElem?,Array.getElem?_setIfInBounds]
 by_cases h:d=t
 ·subst h;simp[hd]
 ·rw[if_neg h,if_neg (fun e=>h e.symm)]
theorem Qf(a:Act)(d:Option Tmp)(v:Value):(a.put d v).tmps.size=a.tmps.size:=by
 cases d<;>simp[Act.put]
theorem put_defers(a:Act)(d:Option Tmp)(v:Value):(a.put d v).defers=a.defers:=by
 cases d<;>rfl
section
variable {Γ:Ctx} {s:St} {a:Act} {w:World} {β:Nat→Option Nat} {I:Nat→Prop}
theorem iA.lb(h:iA Γ s a w β I):∀r b,ee s.bp r→β r=some b→b<w.heap.size:=by
 intro r b hr hb
 obtain⟨sc,we⟩:=Option.isSome_iff_exists.1 hr
 exact((h.bp.1 r sc we).2 b hb).1
theorem iA.Ih(h:iA Γ s a w β I)(x:Operand)(e:EV)(he:Sym.iq s.env x=some e):RE β (ee s.bp) I w e (a.eval x):=by
 cases x with
 |tmp t=>exact h.env t e he
 |const v =>
  simp only[Sym.iq] at he
  split at he
  ·rename_i p hp
   injection he with he;subst he
   exact Mw hp I w
  ·cases he
 |func f=>injection he with he;subst he;exact Rd.fn f
 |global g=>cases he
theorem iA.pre(h:iA Γ s a w β I):Fk a w β (ee s.bp) I s.bp (iq s.env) :=
 ⟨fun x e he=>iA.Ih h x e he,fun r sc hr _=>(h.bp.1 r sc hr).1,h.lb,h.ib⟩
theorem iA.grow(h:iA Γ s a w β I){w':World}{I':Nat→Prop}(hb:Ib w.heap.size w w')(h1:∀b,I b→I' b)(h2:∀b,I' b→I b∨fresh w w' b):iA Γ s a w' β I':=by
 have hw:∀b o,I b→w'.cell? ⟨b,o,none⟩=w.cell? ⟨b,o,none⟩:=fun b o hI=>mN (hb.block b (h.ib b hI)) o
 have hs:∀r b,ee s.bp r→β r=some b→w'.shape? b=w.shape? b:=fun r b hr uI=>yg (hb.block b (h.lb r b hr uI))
 refine⟨fun t e he=>(h.env t e he).mono (fun _ _=>rfl) (fun _ h=>h) h1 hw hs,⟨fun r sc hr => ?_,h.bp.2⟩,h.par,h.new,fun b hI => ?_,fun b hI => ?_,h.aP.trans (o8.KM hb) (fun _ _ h=>h),h.size,h.defers⟩
 ·obtain⟨g1,g2⟩:=h.bp.1 r sc hr
  have hd:ee s.bp r:=by unfold ee;rw[hr];rfl
  refine⟨g1.mono rfl (fun b uI=>hb.block b (h.lb r b hd uI)) (fun _ _=>rfl) (fun _ h=>h) h1 hw hs,fun b uI=>⟨Nat.lt_of_lt_of_le (g2 b uI).1 hb.size,fun hI => ?_⟩⟩
  rcases h2 b hI with hI|hf
  ·exact(g2 b uI).2 hI
  ·have:=(g2 b uI).1;have:=hf.1;omega
 ·rcases h2 b hI with hI|hf
  ·exact Nat.lt_of_lt_of_le (h.ib b hI) hb.size
  ·exact hf.2
 ·rcases h2 b hI with hI|hf
  ·rcases h.ii b hI with h3|h3
   ·exact .inl h3
   ·exact .inr (h3.imp (fun h3=>⟨h3.1,Nat.lt_of_lt_of_le h3.2 hb.size⟩) id)
  ·exact .inr (.inl ⟨Nat.le_trans h.aP.size hf.1,hf.2⟩)
def u6(env:Env)(dst:Option Nat)(e:EV):Env:=match dst with
 |none=>env
 |some d=>(d,e)::env
theorem iA.put(h:iA Γ s a w β I){dst:Option Nat}{e:EV}{v:Value}(hd:∀d,dst=some d→d<Γ.n)(he:RE β (ee s.bp) I w e v) :
  iA Γ ⟨u6 s.env dst e,s.bp⟩ (a.put dst v) w β I:=by
 refine⟨fun t e' mJ => ?_,h.bp,h.par,h.new,h.ib,h.ii,h.aP,by rw[Qf];exact h.size,by rw[put_defers];exact h.defers⟩
 cases dst with
 |none=>exact h.env t e' mJ
 |some d =>
  rw[Sw (by rw[h.size];exact hd d rfl)]
  simp only[u6,Env.get] at mJ
  by_cases ht:t=d
  ·subst ht
   simp only[Nat.beq_refl,cond_true] at mJ
   injection mJ with mJ;subst mJ
   simpa using he
  ·have:Nat.beq d t=false:=mP (Ne.symm ht)
   simp only[this,cond_false] at mJ
   rw[if_neg ht]
   exact h.env t e' mJ
def q7(r:Nat):EV→EV
 |.ptr r' off=>bif Nat.beq r' r then .dead else .ptr r' off
 |.row r' off len sz=>bif Nat.beq r' r then .dead else .row r' off len sz
 |.wj r' off len sz ps=>bif Nat.beq r' r then .dead else .wj r' off len sz ps
 |.H6 f r'=>bif Nat.beq r' r then .dead else .H6 f r'
 |.xx j len sz=>bif Nat.blt r 1000000 then .xx j len sz else bif Nat.beq (hc j) r then .dead else .xx j len sz
 |.u0 j off=>bif Nat.blt r 1000000 then .u0 j off else bif Nat.beq (hc j) r then .dead else .u0 j off
 |e=>e
def sV(r:Nat):SC→SC
 |.lit cs => .lit (cs.map (q7 r))
 |.pure ps => .pure ps
 |.heap xs=>bif Nat.blt r 1000000 then .heap xs else .heap (xs.set (r-1000000) none)
 |.Mn hs sz=>bif Nat.blt r 1000000 then .Mn hs sz else .lit ((hs.map fun x=>EV.xx x.1 x.2 sz).map (q7 r))
def iB(r:Nat):cq→cq
 |[]=>[]
 |(r',c)::s=>bif Nat.beq r' r&&Nat.blt r 999999 then iB r s else (r',sV r c)::iB r s
def CI(r:Nat):Env→Env
 |[]=>[]
 |(t,e)::s=>(t,q7 r e)::CI r s
def kill(r:Nat)(s:St):St:=⟨CI r s.env,iB r s.bp⟩
theorem rK(r:Nat):∀(s:cq) (x:Nat),(iB r s).jG x=if x=r∧r<999999 then none else (s.jG x).map (sV r)
 |[],x=>by simp[iB,cq.jG]
 |(r',c)::s,x=>by
  simp only[iB]
  by_cases hr:r<999999
  ·have jn:Nat.blt r 999999=true:=Nat.ble_eq_true_of_le hr
   simp only[jn,Bool.and_true,hr,and_true]
   cases hb:Nat.beq r' r with
   |true =>
    have:r'=r:=Nat.eq_of_beq_eq_true hb
    subst this
    simp only[cond_true,rK r' s x,cq.jG,hr,and_true]
    by_cases hx:x=r'
    ·simp[hx]
    ·have h2:Nat.beq r' x=false:=mP (Ne.symm hx)
     simp[hx,h2]
   |false =>
    simp only[cond_false,cq.jG,rK r s x,hr,and_true]
    cases h2:Nat.beq r' x with
    |true =>
     have:r'=x:=Nat.eq_of_beq_eq_true h2
     subst this
     have dk:r'≠r:=by intro e;subst e;simp at hb
     simp[dk]
    |false=>simp
  ·have jn:Nat.blt r 999999=false:=Bool.eq_false_iff.2 (fun h=>hr (Nat.le_of_ble_eq_true h))
   simp only[jn,Bool.and_false,cond_false,cq.jG,rK r s x,hr,and_false,if_false]
   cases h2:Nat.beq r' x<;>simp
theorem Mx(r:Nat)(s:cq):(iB r s).hp=if r<1000000 then s.hp else s.hp.set (r-1000000) none:=by
 unfold cq.hp
 rw[rK,if_neg (fun h=>by omega)]
 cases hg:s.jG 999999 with
 |none=>simp
 |some sc =>
  cases sc with
  |lit cs=>simp[sV]
  |pure ps=>simp[sV]
  |Mn hs sz=>simp only[Option.map_some,sV];cases Nat.blt r 1000000<;>simp
  |heap xs =>
   simp only[Option.map_some,sV]
   by_cases hr:r<1000000
   ·rw[show Nat.blt r 1000000=true from Nat.ble_eq_true_of_le hr]
    simp[hr]
   ·rw[show Nat.blt r 1000000=false from Bool.eq_false_iff.2 (fun h=>hr (Nat.le_of_ble_eq_true h))]
    simp[hr]
theorem EH(r:Nat)(s:cq)(x:Nat):(iB r s).get x=if x=r then none else (s.get x).map (sV r):=by
 rcases KB x with h|rfl|⟨j,rfl⟩
 ·rw[cq.qZ h,cq.qZ h,rK]
  by_cases hx:x=r
  ·subst hx;simp[h]
  ·simp[hx]
 ·rw[cq.mL,cq.mL];simp
 ·rw[cq.rJ,cq.rJ,Mx]
  unfold yk hc
  by_cases hr:r<1000000
  ·rw[if_pos hr,if_neg (by omega)]
   split<;>simp[sV]
  ·rw[if_neg hr]
   by_cases hx:1000000+j=r
   ·rw[if_pos hx,←hx,Nat.add_sub_cancel_left]
    by_cases hl:j<s.hp.length
    ·simp[hl]
    ·rw[List.set_eq_of_length_le (by omega),List.getElem?_eq_none (by omega)]
   ·rw[if_neg hx,List.getElem?_set_ne (by omega)]
    split<;>simp[sV]
theorem EI(r:Nat):∀(s:Env) (t:Nat),(CI r s).get t=(s.get t).map (q7 r)
 |[],t=>rfl
 |(t',e)::s,t=>by
  simp only[CI,Env.get]
  cases Nat.beq t' t<;>simp[EI r s t]
theorem IQ{r:Nat}{L L':Nat→Prop}{e:EV}{v:Value}(h:RE β L I w e v)(hL:∀x,L x→x≠r→L' x):RE β L' I w (q7 r e) v:=by
 cases e with
 |pv p=>exact h
 |wi c=>exact h
 |dead=>exact h
 |ptr r' off =>
  simp only[q7]
  cases hb:Nat.beq r' r with
  |true=>exact True.intro
  |false=>exact⟨hL _ h.1 (by intro e;subst e;simp at hb),h.2⟩
 |H6 f r' =>
  simp only[q7]
  cases hb:Nat.beq r' r with
  |true=>exact True.intro
  |false=>exact⟨hL _ h.1 (by intro e;subst e;simp at hb),h.2⟩
 |xx j len sz =>
  simp only[q7]
  cases mO:Nat.blt r 1000000 with
  |true=>exact⟨hL _ h.1 (by have:=Nat.le_of_ble_eq_true mO;unfold hc;omega),h.2⟩
  |false =>
   simp only[cond_false]
   cases hb:Nat.beq (hc j) r with
   |true=>exact True.intro
   |false=>exact⟨hL _ h.1 (by intro e;rw[e] at hb;simp at hb),h.2⟩
 |u0 j off =>
  simp only[q7]
  cases mO:Nat.blt r 1000000 with
  |true=>exact⟨hL _ h.1 (by have:=Nat.le_of_ble_eq_true mO;unfold hc;omega),h.2⟩
  |false =>
   simp only[cond_false]
   cases hb:Nat.beq (hc j) r with
   |true=>exact True.intro
   |false=>exact⟨hL _ h.1 (by intro e;rw[e] at hb;simp at hb),h.2⟩
 |row r' off len sz =>
  simp only[q7]
  cases hb:Nat.beq r' r with
  |true=>exact True.intro
  |false=>exact⟨hL _ h.1 (by intro e;subst e;simp at hb),h.2⟩
 |wj r' off len sz ps =>
  simp only[q7]
  cases hb:Nat.beq r' r with
  |true=>exact True.intro
  |false =>
   obtain⟨us,g1,g2,⟨u,g3,g4,X5⟩,g5⟩:=h
   exact⟨us,g1,g2,⟨u,g3,hL _ g4 (by intro e;subst e;simp at hb),X5⟩,g5⟩
theorem My(r:Nat)(sc:SC):(sV r sc).zw=sc.zw.map (q7 r):=by
 cases sc with
 |lit cs=>rfl
 |pure ps=>simp[sV,SC.zw,q7]
 |heap xs=>unfold sV;cases Nat.blt r 1000000<;>rfl
 |Mn hs sz =>
  unfold sV
  cases hb:Nat.blt r 1000000 with
  |false=>rfl
  |true=>simp[SC.zw,q7,hb]
theorem Uw{r x:Nat}{L L':Nat→Prop}{cells:List EV}(h:RB β L I w x cells)(hL:∀x,L x→x≠r→L' x):RB β L' I w x (cells.map (q7 r)):=by
 rcases h with ⟨h1,h2⟩|⟨b,arr,el,hb,h1,h2⟩
 ·exact .inl ⟨h1,by rw[h2];rfl⟩
 ·refine .inr ⟨b,arr,el,hb,h1,fun j e he => ?_⟩
  rw[List.getElem?_map] at he
  cases hc:cells[j]? with
  |none=>simp[hc] at he
  |some c =>
   simp[hc] at he
   subst he
   obtain⟨u,g1,g2,g3⟩:=h2 j c hc
   exact⟨u,g1,g2,IQ g3 hL⟩
theorem kd{r x:Nat}{s:cq} : ee (iB r s) x↔ee s x∧x≠r:=by
 unfold ee
 rw[EH]
 by_cases h:x=r
 ·simp[h]
 ·simp[h]
theorem iA.kill(h:iA Γ s a w β I)(r:Nat):iA Γ (kill r s) a w β I:=by
 have hL:∀x,ee s.bp x→x≠r→ee (iB r s.bp) x:=fun x hx dk=>kd.2 ⟨hx,dk⟩
 refine⟨fun t e he => ?_,⟨fun x sc hx => ?_,fun x y b hx hy=>h.bp.2 x y b (kd.1 hx).1 (kd.1 hy).1⟩,fun x hx=>h.par x (kd.1 hx).1,fun x b hx=>h.new x b (kd.1 hx).1,h.ib,h.ii,h.aP,h.size,h.defers⟩
 ·have he:(CI r s.env).get t=some e:=he
  rw[EI] at he
  cases hg:s.env.get t with
  |none=>simp[hg] at he
  |some e' =>
   simp[hg] at he
   subst he
   exact IQ (h.env t e' hg) hL
 ·have hx:(iB r s.bp).get x=some sc:=hx
  rw[EH] at hx
  by_cases Ii:x=r
  ·simp[Ii] at hx
  ·rw[if_neg Ii] at hx
   cases hg:s.bp.get x with
   |none=>simp[hg] at hx
   |some sc' =>
    simp[hg] at hx
    subst hx
    obtain⟨g1,g2⟩:=h.bp.1 x sc' hg
    exact⟨by rw[My];exact Uw g1 hL,g2⟩
theorem cq.qH{r x:Nat}{sc:SC}{s:cq}(hr:r<999999):cq.get ((r,sc)::s) x=bif Nat.beq r x then some sc else s.get x:=by
 rcases KB x with h|rfl|⟨j,rfl⟩
 ·rw[cq.qZ h,cq.qZ h];rfl
 ·rw[cq.mL,cq.mL,mP (by omega)];rfl
 ·rw[cq.rJ,cq.rJ,mP (by unfold hc;omega)]
  unfold cq.hp
  simp only[cq.jG,mP (show r≠999999 by omega),cond_false]
theorem jf{r x:Nat}{sc:SC}{s:cq}(hr:r<999999):ee ((r,sc)::s) x↔x=r∨ee s x:=by
 unfold ee
 rw[cq.qH hr]
 cases hb:Nat.beq r x with
 |true =>
  have:r=x:=Nat.eq_of_beq_eq_true hb
  simp[this]
 |false =>
  have:x≠r:=by intro e;subst e;simp at hb
  simp[this]
theorem iA.site(h:iA Γ s a w β I){d:Nat}{sc:SC}(zG:d<999999)(hd:¬ee s.bp d)(hn:¬ee Γ.sin d){β':Nat→Option Nat}(hβ:∀r,r≠d→β' r=β r)
  (hb:∀b,β' d=some b→b<w.heap.size∧¬I b∧Γ.Nw b∧∀r,ee s.bp r→β r≠some b) (we:RB β' (fun r=>ee s.bp r∨r=d) I w d sc.zw) :
  iA Γ ⟨s.env,(d,sc)::s.bp⟩ a w β' I:=by
 have Ij:∀r,ee s.bp r→β' r=β r:=fun r hr=>hβ r (fun e=>hd (e ▸ hr))
 have hL:∀r,ee s.bp r→ee ((d,sc)::s.bp) r:=fun r hr=>(jf zG).2 (.inr hr)
 have hL2:∀r,(ee s.bp r∨r=d)→ee ((d,sc)::s.bp) r:=fun r hr=>(jf zG).2 (hr.elim .inr .inl)
 refine⟨fun t e he=>(h.env t e he).mono Ij hL (fun _ h=>h) (fun _ _ _=>rfl) (fun _ _ _ _=>rfl),⟨fun r sc' hr => ?_,fun r r' b hr jn e1 e2 => ?_⟩,fun r hr hs hg => ?_,fun r b hr hs kI => ?_,h.ib,h.ii,h.aP,h.size,h.defers⟩
 ·rw[cq.qH zG] at hr
  cases hbq:Nat.beq d r with
  |true =>
   have:d=r:=Nat.eq_of_beq_eq_true hbq
   subst this
   simp only[hbq,cond_true] at hr
   injection hr with hr;subst hr
   exact⟨we.mono rfl (fun _ _=>rfl) (fun _ _=>rfl) hL2 (fun _ h=>h) (fun _ _ _=>rfl) (fun _ _ _ _=>rfl),fun b kI=>⟨(hb b kI).1,(hb b kI).2.1⟩⟩
  |false =>
   simp only[hbq,cond_false] at hr
   have DW:ee s.bp r:=by unfold ee;rw[hr];rfl
   obtain⟨g1,g2⟩:=h.bp.1 r sc' hr
   exact⟨g1.mono (Ij r DW) (fun _ _=>rfl) Ij hL (fun _ h=>h) (fun _ _ _=>rfl) (fun _ _ _ _=>rfl),fun b kI=>g2 b (by rw[←Ij r DW];exact kI)⟩
 ·rcases(jf zG).1 hr with h1|h1
  ·rcases(jf zG).1 jn with h2|h2
   ·rw[h1,h2]
   ·rw[h1] at e1
    rw[Ij r' h2] at e2
    exact absurd e2 ((hb b e1).2.2.2 r' h2)
  ·rcases(jf zG).1 jn with h2|h2
   ·rw[h2] at e2
    rw[Ij r h1] at e1
    exact absurd e1 ((hb b e2).2.2.2 r h1)
   ·rw[Ij r h1] at e1
    rw[Ij r' h2] at e2
    exact h.bp.2 r r' b h1 h2 e1 e2
 ·rcases(jf zG).1 hr with rfl|hr
  ·exact absurd hs hn
  ·rw[Ij r hr];exact h.par r hr hs hg
 ·rcases(jf zG).1 hr with rfl|hr
  ·exact(hb b kI).2.2.1
  ·rw[Ij r hr] at kI;exact h.new r b hr hs kI
end
end Go.Proofs.YtllmkadmohkbfaaGreatDoor.Sym
