/- Lemmas for the statements of this seat. -/
import Derived.Test.YtfjfekodeplcoaaGreatWSymI
import Derived.Laws.AppendOwn
namespace Go.Proofs.YtfjfekodeplcoaaGreat.Sym
open Go Go.RowKit
theorem fJ{a b:Nat}(h:a≠b):Nat.beq a b=false:=by
 cases hb:Nat.beq a b with
 |false=>rfl
 |true=>exact absurd (Nat.eq_of_beq_eq_true hb) h
abbrev Env:=List (Nat×EV)
def Env.get:Env→Nat→Option EV
 |[],_=>none
 |(t',e)::r,t=>bif Nat.beq t' t then some e else Env.get r t
structure St where
 env:Env
 sto:aN
def AP:Value→Option PV
 |.bool b=>some (.bool b)
 |.int k n=>some (.int k n)
 |.string s=>some (.str s)
 |.nilIface=>some .bK
 |.slice none 0 0=>some (.list [])
 |_=>none
theorem DR{v:Value}{p:PV}(h:AP v=some p)(I:Nat→Prop)(w:World):Rd I w p v:=by
 unfold AP at h
 split at h<;>first|(cases h;done)|(injection h with h;subst h)
 ·exact .bool _
 ·exact .int _ _
 ·exact .str _
 ·exact .bK
 ·exact .nil _ _
def c9(env:Env):Operand→Option EV
 |.tmp t=>env.get t
 |.const v=>match AP v with
  |some p=>some (.pv p)
  |none=>none
 |.func f=>some (.pv (.fn f))
 |.global _=>none
def bk(s:aN)(r:Nat):Prop:=(s.get r).isSome=true
theorem aN.get_nil(x:Nat):aN.get [] x=none:=by
 rcases B1 x with h|rfl|⟨j,rfl⟩
 ·rw[aN.kf h];rfl
 ·rfl
 ·rw[aN.kS];rfl
theorem fY{x:Nat} : ¬bk [] x:=fun h=>by unfold bk at h;rw[aN.get_nil] at h;cases h
def tZ(β:Nat→Option Nat)(I:Nat→Prop)(w:World)(sto:aN):Prop :=
 (∀r sc,sto.get r=some sc→RB β (bk sto) I w r sc.pE∧∀b,β r=some b→b<w.heap.size∧¬I b) ∧
 ∀r r' b,bk sto r→bk sto r'→β r=some b→β r'=some b→r=r'
structure Ctx where
 w0:World
 I0:Nat→Prop
 sin:aN
 β0:Nat→Option Nat
 n:Nat
 small:n≤999999
def Ctx.M(Γ:Ctx)(b:Nat):Prop:=∃r,bk Γ.sin r∧Γ.β0 r=some b
structure gD (M:Nat→Prop) (w w':World):Prop where
 os:w'.os=w.os
 tape:w'.tape=w.tape
 output:w'.output=w.output
 size:w.heap.size≤w'.heap.size
 block:∀k,k<w.heap.size→¬M k→w'.heap[k]? = w.heap[k]?
 shape:∀k,k<w.heap.size→w'.shape? k=w.shape? k
 drawn:Nn→w.drawn≤w'.drawn
theorem gD.refl(M:Nat→Prop)(w:World):gD M w w:=⟨rfl,rfl,rfl,Nat.le_refl _,fun _ _ _=>rfl,fun _ _=>rfl,fun _=>Nat.le_refl _⟩
theorem gD.trans{M M':Nat→Prop}{a b c:World}(h:gD M a b)(k:gD M' b c)(hM:∀x,x<a.heap.size→M' x→M x):gD M a c :=
 ⟨k.os.trans h.os,k.tape.trans h.tape,k.output.trans h.output,Nat.le_trans h.size k.size,
  fun i hi hm=>(k.block i (Nat.lt_of_lt_of_le hi h.size) (fun FW=>hm (hM i hi FW))).trans (h.block i hi hm),
  fun i hi=>(k.shape i (Nat.lt_of_lt_of_le hi h.size)).trans (h.shape i hi),fun s=>Nat.le_trans (h.drawn s) (k.drawn s)⟩
theorem gD.xH{M:Nat→Prop}{w w':World}(h:wx w.heap.size w w'):gD M w w' :=
 ⟨h.os,h.tape,h.output,h.size,fun k hk _=>h.block k hk,fun k hk=>nO (h.block k hk),h.drawn⟩
def gv(x:Nat):Prop:=200000≤x
def BV(sin:aN)(β:Nat→Option Nat)(b:Nat):Prop:=∃x,gv x∧bk sin x∧β x=some b
def Ctx.Nw(Γ:Ctx)(b:Nat):Prop:=Γ.w0.heap.size≤b∨BV Γ.sin Γ.β0 b
theorem Ctx.Nw.m{Γ:Ctx}{b:Nat}(h:Γ.Nw b)(hb:b<Γ.w0.heap.size):Γ.M b:=by
 rcases h with h|⟨x,_,h1,h2⟩
 ·omega
 ·exact⟨x,h1,h2⟩
structure cO (Γ:Ctx) (s:St) (a:Act) (w:World) (β:Nat→Option Nat) (I:Nat→Prop):Prop where
 env:∀t e,s.env.get t=some e→RE β (bk s.sto) I w e (a.tmps.getD t undef)
 sto:tZ β I w s.sto
 par:∀r,bk s.sto r→bk Γ.sin r→¬gv r→β r=Γ.β0 r
 new:∀r b,bk s.sto r→(¬bk Γ.sin r∨gv r)→β r=some b→Γ.Nw b
 ib:∀b,I b→b<w.heap.size
 ii:∀b,I b→Γ.I0 b∨fresh Γ.w0 w b∨BV Γ.sin Γ.β0 b
 aH:gD Γ.M Γ.w0 w
 size:a.tmps.size=Γ.n
 defers:a.defers=[]
def Rel(Γ:Ctx)(s:St)(a:Act)(w:World):Prop:=∃β I,cO Γ s a w β I
theorem JH{a:Act}{d:Nat}{v:Value}(hd:d<a.tmps.size)(t:Nat):(a.put (some d) v).tmps.getD t undef=if t=d then v else a.tmps.getD t undef:=by
 show(a.tmps.setIfInBounds d v).getD t undef=_
 simp only[Array.getD_eq_getD_getElem?,Array.getElem?_setIfInBounds]
 by_cases h:d=t
 ·subst h;simp[hd]
 ·rw[if_neg h,if_neg (fun e=>h e.symm)]
theorem Hb(a:Act)(d:Option Tmp)(v:Value):(a.put d v).tmps.size=a.tmps.size:=by
 cases d<;>simp[Act.put]
theorem put_defers(a:Act)(d:Option Tmp)(v:Value):(a.put d v).defers=a.defers:=by
 cases d<;>rfl
section
variable {Γ:Ctx} {s:St} {a:Act} {w:World} {β:Nat→Option Nat} {I:Nat→Prop}
theorem cO.lb(h:cO Γ s a w β I):∀r b,bk s.sto r→β r=some b→b<w.heap.size:=by
 intro r b hr hb
 obtain⟨sc,lO⟩:=Option.isSome_iff_exists.1 hr
 exact((h.sto.1 r sc lO).2 b hb).1
theorem cO.BW(h:cO Γ s a w β I)(x:Operand)(e:EV)(he:Sym.c9 s.env x=some e):RE β (bk s.sto) I w e (a.eval x):=by
 cases x with
 |tmp t=>exact h.env t e he
 |const v =>
  simp only[Sym.c9] at he
  split at he
  ·rename_i p hp
   injection he with he;subst he
   exact DR hp I w
  ·cases he
 |func f=>injection he with he;subst he;exact Rd.fn f
 |global g=>cases he
theorem cO.pre(h:cO Γ s a w β I):wD a w β (bk s.sto) I s.sto (c9 s.env) :=
 ⟨fun x e he=>cO.BW h x e he,fun r sc hr _=>(h.sto.1 r sc hr).1,h.lb,h.ib⟩
theorem cO.grow(h:cO Γ s a w β I){w':World}{I':Nat→Prop}(hb:wx w.heap.size w w')(h1:∀b,I b→I' b)(h2:∀b,I' b→I b∨fresh w w' b):cO Γ s a w' β I':=by
 have hw:∀b o,I b→w'.cell? ⟨b,o,none⟩=w.cell? ⟨b,o,none⟩:=fun b o hI=>eX (hb.block b (h.ib b hI)) o
 have hs:∀r b,bk s.sto r→β r=some b→w'.shape? b=w.shape? b:=fun r b hr mX=>nO (hb.block b (h.lb r b hr mX))
 refine⟨fun t e he=>(h.env t e he).mono (fun _ _=>rfl) (fun _ h=>h) h1 hw hs,⟨fun r sc hr => ?_,h.sto.2⟩,h.par,h.new,fun b hI => ?_,fun b hI => ?_,h.aH.trans (gD.xH hb) (fun _ _ h=>h),h.size,h.defers⟩
 ·obtain⟨g1,g2⟩:=h.sto.1 r sc hr
  have hd:bk s.sto r:=by unfold bk;rw[hr];rfl
  refine⟨g1.mono rfl (fun b mX=>hb.block b (h.lb r b hd mX)) (fun _ _=>rfl) (fun _ h=>h) h1 hw hs,fun b mX=>⟨Nat.lt_of_lt_of_le (g2 b mX).1 hb.size,fun hI => ?_⟩⟩
  rcases h2 b hI with hI|hf
  ·exact(g2 b mX).2 hI
  ·have:=(g2 b mX).1;have:=hf.1;omega
 ·rcases h2 b hI with hI|hf
  ·exact Nat.lt_of_lt_of_le (h.ib b hI) hb.size
  ·exact hf.2
 ·rcases h2 b hI with hI|hf
  ·rcases h.ii b hI with h3|h3
   ·exact .inl h3
   ·exact .inr (h3.imp (fun h3=>⟨h3.1,Nat.lt_of_lt_of_le h3.2 hb.size⟩) id)
  ·exact .inr (.inl ⟨Nat.le_trans h.aH.size hf.1,hf.2⟩)
def nj(env:Env)(dst:Option Nat)(e:EV):Env:=match dst with
 |none=>env
 |some d=>(d,e)::env
theorem cO.put(h:cO Γ s a w β I){dst:Option Nat}{e:EV}{v:Value}(hd:∀d,dst=some d→d<Γ.n)(he:RE β (bk s.sto) I w e v) :
  cO Γ ⟨nj s.env dst e,s.sto⟩ (a.put dst v) w β I:=by
 refine⟨fun t e' gr => ?_,h.sto,h.par,h.new,h.ib,h.ii,h.aH,by rw[Hb];exact h.size,by rw[put_defers];exact h.defers⟩
 cases dst with
 |none=>exact h.env t e' gr
 |some d =>
  rw[JH (by rw[h.size];exact hd d rfl)]
  simp only[nj,Env.get] at gr
  by_cases ht:t=d
  ·subst ht
   simp only[Nat.beq_refl,cond_true] at gr
   injection gr with gr;subst gr
   simpa using he
  ·have:Nat.beq d t=false:=fJ (Ne.symm ht)
   simp only[this,cond_false] at gr
   rw[if_neg ht]
   exact h.env t e' gr
def FE.at(r:Nat):FE→Bool
 |.pv _=>false
 |.row x _ _ _=>Nat.beq x r
def jK(r:Nat):EV→EV
 |.gj fs=>bif fs.any (FE.at r) then .dead else .gj fs
 |.ptr r' off=>bif Nat.beq r' r then .dead else .ptr r' off
 |.row r' off len sz=>bif Nat.beq r' r then .dead else .row r' off len sz
 |.ni r' off len sz ps=>bif Nat.beq r' r then .dead else .ni r' off len sz ps
 |.lX f r'=>bif Nat.beq r' r then .dead else .lX f r'
 |.ox j len sz=>bif Nat.blt r 1000000 then .ox j len sz else bif Nat.beq (hc j) r then .dead else .ox j len sz
 |.mM j off=>bif Nat.blt r 1000000 then .mM j off else bif Nat.beq (hc j) r then .dead else .mM j off
 |e=>e
def l0(r:Nat):SC→SC
 |.lit cs => .lit (cs.map (jK r))
 |.pure ps => .pure ps
 |.heap xs=>bif Nat.blt r 1000000 then .heap xs else .heap (xs.set (r-1000000) none)
 |.DI hs sz=>bif Nat.blt r 1000000 then .DI hs sz else .lit ((hs.map fun x=>EV.ox x.1 x.2 sz).map (jK r))
def dh(r:Nat):aN→aN
 |[]=>[]
 |(r',c)::s=>bif Nat.beq r' r&&Nat.blt r 999999 then dh r s else (r',l0 r c)::dh r s
def ua(r:Nat):Env→Env
 |[]=>[]
 |(t,e)::s=>(t,jK r e)::ua r s
def kill(r:Nat)(s:St):St:=⟨ua r s.env,dh r s.sto⟩
theorem kU(r:Nat):∀(s:aN) (x:Nat),(dh r s).dX x=if x=r∧r<999999 then none else (s.dX x).map (l0 r)
 |[],x=>by simp[dh,aN.dX]
 |(r',c)::s,x=>by
  simp only[dh]
  by_cases hr:r<999999
  ·have dx:Nat.blt r 999999=true:=Nat.ble_eq_true_of_le hr
   simp only[dx,Bool.and_true,hr,and_true]
   cases hb:Nat.beq r' r with
   |true =>
    have:r'=r:=Nat.eq_of_beq_eq_true hb
    subst this
    simp only[cond_true,kU r' s x,aN.dX,hr,and_true]
    by_cases hx:x=r'
    ·simp[hx]
    ·have h2:Nat.beq r' x=false:=fJ (Ne.symm hx)
     simp[hx,h2]
   |false =>
    simp only[cond_false,aN.dX,kU r s x,hr,and_true]
    cases h2:Nat.beq r' x with
    |true =>
     have:r'=x:=Nat.eq_of_beq_eq_true h2
     subst this
     have iN:r'≠r:=by intro e;subst e;simp at hb
     simp[iN]
    |false=>simp
  ·have dx:Nat.blt r 999999=false:=Bool.eq_false_iff.2 (fun h=>hr (Nat.le_of_ble_eq_true h))
   simp only[dx,Bool.and_false,cond_false,aN.dX,kU r s x,hr,and_false,if_false]
   cases h2:Nat.beq r' x<;>simp
theorem DS(r:Nat)(s:aN):(dh r s).hp=if r<1000000 then s.hp else s.hp.set (r-1000000) none:=by
 unfold aN.hp
 rw[kU,if_neg (fun h=>by omega)]
 cases hg:s.dX 999999 with
 |none=>simp
 |some sc =>
  cases sc with
  |lit cs=>simp[l0]
  |pure ps=>simp[l0]
  |DI hs sz=>simp only[Option.map_some,l0];cases Nat.blt r 1000000<;>simp
  |heap xs =>
   simp only[Option.map_some,l0]
   by_cases hr:r<1000000
   ·rw[show Nat.blt r 1000000=true from Nat.ble_eq_true_of_le hr]
    simp[hr]
   ·rw[show Nat.blt r 1000000=false from Bool.eq_false_iff.2 (fun h=>hr (Nat.le_of_ble_eq_true h))]
    simp[hr]
theorem vQ(r:Nat)(s:aN)(x:Nat):(dh r s).get x=if x=r then none else (s.get x).map (l0 r):=by
 rcases B1 x with h|rfl|⟨j,rfl⟩
 ·rw[aN.kf h,aN.kf h,kU]
  by_cases hx:x=r
  ·subst hx;simp[h]
  ·simp[hx]
 ·rw[aN.eY,aN.eY];simp
 ·rw[aN.kS,aN.kS,DS]
  unfold qi hc
  by_cases hr:r<1000000
  ·rw[if_pos hr,if_neg (by omega)]
   split<;>simp[l0]
  ·rw[if_neg hr]
   by_cases hx:1000000+j=r
   ·rw[if_pos hx,←hx,Nat.add_sub_cancel_left]
    by_cases hl:j<s.hp.length
    ·simp[hl]
    ·rw[List.set_eq_of_length_le (by omega),List.getElem?_eq_none (by omega)]
   ·rw[if_neg hx,List.getElem?_set_ne (by omega)]
    split<;>simp[l0]
theorem vR(r:Nat):∀(s:Env) (t:Nat),(ua r s).get t=(s.get t).map (jK r)
 |[],t=>rfl
 |(t',e)::s,t=>by
  simp only[ua,Env.get]
  cases Nat.beq t' t<;>simp[vR r s t]
theorem z6{r:Nat}{L L':Nat→Prop}{e:EV}{v:Value}(h:RE β L I w e v)(hL:∀x,L x→x≠r→L' x):RE β L' I w (jK r e) v:=by
 cases e with
 |pv p=>exact h
 |nh c=>exact h
 |dead=>exact h
 |ptr r' off =>
  simp only[jK]
  cases hb:Nat.beq r' r with
  |true=>exact True.intro
  |false=>exact⟨hL _ h.1 (by intro e;subst e;simp at hb),h.2⟩
 |lX f r' =>
  simp only[jK]
  cases hb:Nat.beq r' r with
  |true=>exact True.intro
  |false=>exact⟨hL _ h.1 (by intro e;subst e;simp at hb),h.2⟩
 |ox j len sz =>
  simp only[jK]
  cases DG:Nat.blt r 1000000 with
  |true=>exact⟨hL _ h.1 (by have:=Nat.le_of_ble_eq_true DG;unfold hc;omega),h.2⟩
  |false =>
   simp only[cond_false]
   cases hb:Nat.beq (hc j) r with
   |true=>exact True.intro
   |false=>exact⟨hL _ h.1 (by intro e;rw[e] at hb;simp at hb),h.2⟩
 |mM j off =>
  simp only[jK]
  cases DG:Nat.blt r 1000000 with
  |true=>exact⟨hL _ h.1 (by have:=Nat.le_of_ble_eq_true DG;unfold hc;omega),h.2⟩
  |false =>
   simp only[cond_false]
   cases hb:Nat.beq (hc j) r with
   |true=>exact True.intro
   |false=>exact⟨hL _ h.1 (by intro e;rw[e] at hb;simp at hb),h.2⟩
 |row r' off len sz =>
  simp only[jK]
  cases hb:Nat.beq r' r with
  |true=>exact True.intro
  |false=>exact⟨hL _ h.1 (by intro e;subst e;simp at hb),h.2⟩
 |ni r' off len sz ps =>
  simp only[jK]
  cases hb:Nat.beq r' r with
  |true=>exact True.intro
  |false =>
   obtain⟨us,g1,g2,⟨u,g3,g4,Pe⟩,g5⟩:=h
   exact⟨us,g1,g2,⟨u,g3,hL _ g4 (by intro e;subst e;simp at hb),Pe⟩,g5⟩
 |gj fs =>
  simp only[jK]
  cases hb:fs.any (FE.at r) with
  |true=>exact True.intro
  |false =>
   obtain⟨us,g1,g2,g3⟩:=h
   refine⟨us,g1,g2,fun j f u h1 h2 => ?_⟩
   have h3:=g3 j f u h1 h2
   cases f with
   |pv p=>exact h3
   |row x off len sz =>
    refine⟨hL _ h3.1 (fun e => ?_),h3.2⟩
    subst e
    have:=List.any_eq_false.1 hb _ (List.mem_of_getElem? h1)
    simp[FE.at] at this
theorem DT(r:Nat)(sc:SC):(l0 r sc).pE=sc.pE.map (jK r):=by
 cases sc with
 |lit cs=>rfl
 |pure ps=>simp[l0,SC.pE,jK]
 |heap xs=>unfold l0;cases Nat.blt r 1000000<;>rfl
 |DI hs sz =>
  unfold l0
  cases hb:Nat.blt r 1000000 with
  |false=>rfl
  |true=>simp[SC.pE,jK,hb]
theorem LG{r x:Nat}{L L':Nat→Prop}{cells:List EV}(h:RB β L I w x cells)(hL:∀x,L x→x≠r→L' x):RB β L' I w x (cells.map (jK r)):=by
 rcases h with ⟨h1,h2⟩|⟨b,arr,el,hb,h1,h2⟩
 ·exact .inl ⟨h1,by rw[h2];rfl⟩
 ·refine .inr ⟨b,arr,el,hb,h1,fun j e he => ?_⟩
  rw[List.getElem?_map] at he
  cases hc:cells[j]? with
  |none=>simp[hc] at he
  |some c =>
   simp[hc] at he
   subst he
   obtain⟨u,g1,g2,g3⟩:=h2 j c hc
   exact⟨u,g1,g2,z6 g3 hL⟩
theorem ew{r x:Nat}{s:aN} : bk (dh r s) x↔bk s x∧x≠r:=by
 unfold bk
 rw[vQ]
 by_cases h:x=r
 ·simp[h]
 ·simp[h]
theorem cO.kill(h:cO Γ s a w β I)(r:Nat):cO Γ (kill r s) a w β I:=by
 have hL:∀x,bk s.sto x→x≠r→bk (dh r s.sto) x:=fun x hx iN=>ew.2 ⟨hx,iN⟩
 refine⟨fun t e he => ?_,⟨fun x sc hx => ?_,fun x y b hx hy=>h.sto.2 x y b (ew.1 hx).1 (ew.1 hy).1⟩,fun x hx=>h.par x (ew.1 hx).1,fun x b hx=>h.new x b (ew.1 hx).1,h.ib,h.ii,h.aH,h.size,h.defers⟩
 ·have he:(ua r s.env).get t=some e:=he
  rw[vR] at he
  cases hg:s.env.get t with
  |none=>simp[hg] at he
  |some e' =>
   simp[hg] at he
   subst he
   exact z6 (h.env t e' hg) hL
 ·have hx:(dh r s.sto).get x=some sc:=hx
  rw[vQ] at hx
  by_cases zy:x=r
  ·simp[zy] at hx
  ·rw[if_neg zy] at hx
   cases hg:s.sto.get x with
   |none=>simp[hg] at hx
   |some sc' =>
    simp[hg] at hx
    subst hx
    obtain⟨g1,g2⟩:=h.sto.1 x sc' hg
    exact⟨by rw[DT];exact LG g1 hL,g2⟩
theorem aN.bW{r x:Nat}{sc:SC}{s:aN}(hr:r<999999):aN.get ((r,sc)::s) x=bif Nat.beq r x then some sc else s.get x:=by
 rcases B1 x with h|rfl|⟨j,rfl⟩
 ·rw[aN.kf h,aN.kf h];rfl
 ·rw[aN.eY,aN.eY,fJ (by omega)];rfl
 ·rw[aN.kS,aN.kS,fJ (by unfold hc;omega)]
  unfold aN.hp
  simp only[aN.dX,fJ (show r≠999999 by omega),cond_false]
theorem dy{r x:Nat}{sc:SC}{s:aN}(hr:r<999999):bk ((r,sc)::s) x↔x=r∨bk s x:=by
 unfold bk
 rw[aN.bW hr]
 cases hb:Nat.beq r x with
 |true =>
  have:r=x:=Nat.eq_of_beq_eq_true hb
  simp[this]
 |false =>
  have:x≠r:=by intro e;subst e;simp at hb
  simp[this]
theorem cO.site(h:cO Γ s a w β I){d:Nat}{sc:SC}(q6:d<999999)(hd:¬bk s.sto d)(hn:¬bk Γ.sin d){β':Nat→Option Nat}(hβ:∀r,r≠d→β' r=β r)
  (hb:∀b,β' d=some b→b<w.heap.size∧¬I b∧Γ.Nw b∧∀r,bk s.sto r→β r≠some b) (lO:RB β' (fun r=>bk s.sto r∨r=d) I w d sc.pE) :
  cO Γ ⟨s.env,(d,sc)::s.sto⟩ a w β' I:=by
 have pg:∀r,bk s.sto r→β' r=β r:=fun r hr=>hβ r (fun e=>hd (e ▸ hr))
 have hL:∀r,bk s.sto r→bk ((d,sc)::s.sto) r:=fun r hr=>(dy q6).2 (.inr hr)
 have Tj:∀r,(bk s.sto r∨r=d)→bk ((d,sc)::s.sto) r:=fun r hr=>(dy q6).2 (hr.elim .inr .inl)
 refine⟨fun t e he=>(h.env t e he).mono pg hL (fun _ h=>h) (fun _ _ _=>rfl) (fun _ _ _ _=>rfl),⟨fun r sc' hr => ?_,fun r r' b hr dx e1 e2 => ?_⟩,fun r hr hs hg => ?_,fun r b hr hs cX => ?_,h.ib,h.ii,h.aH,h.size,h.defers⟩
 ·rw[aN.bW q6] at hr
  cases hbq:Nat.beq d r with
  |true =>
   have:d=r:=Nat.eq_of_beq_eq_true hbq
   subst this
   simp only[hbq,cond_true] at hr
   injection hr with hr;subst hr
   exact⟨lO.mono rfl (fun _ _=>rfl) (fun _ _=>rfl) Tj (fun _ h=>h) (fun _ _ _=>rfl) (fun _ _ _ _=>rfl),fun b cX=>⟨(hb b cX).1,(hb b cX).2.1⟩⟩
  |false =>
   simp only[hbq,cond_false] at hr
   have u7:bk s.sto r:=by unfold bk;rw[hr];rfl
   obtain⟨g1,g2⟩:=h.sto.1 r sc' hr
   exact⟨g1.mono (pg r u7) (fun _ _=>rfl) pg hL (fun _ h=>h) (fun _ _ _=>rfl) (fun _ _ _ _=>rfl),fun b cX=>g2 b (by rw[←pg r u7];exact cX)⟩
 ·rcases(dy q6).1 hr with h1|h1
  ·rcases(dy q6).1 dx with h2|h2
   ·rw[h1,h2]
   ·rw[h1] at e1
    rw[pg r' h2] at e2
    exact absurd e2 ((hb b e1).2.2.2 r' h2)
  ·rcases(dy q6).1 dx with h2|h2
   ·rw[h2] at e2
    rw[pg r h1] at e1
    exact absurd e1 ((hb b e2).2.2.2 r h1)
   ·rw[pg r h1] at e1
    rw[pg r' h2] at e2
    exact h.sto.2 r r' b h1 h2 e1 e2
 ·rcases(dy q6).1 hr with rfl|hr
  ·exact absurd hs hn
  ·rw[pg r hr];exact h.par r hr hs hg
 ·rcases(dy q6).1 hr with rfl|hr
  ·exact(hb b cX).2.2.1
  ·rw[pg r hr] at cX;exact h.new r b hr hs cX
end
end Go.Proofs.YtfjfekodeplcoaaGreat.Sym
