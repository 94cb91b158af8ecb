/- Lemmas for the statements of this seat. -/
import Derived.Test.YtllmkadmohkbfaaGreatDoorVSymI
import Derived.Laws.AppendOwn
namespace Go.Proofs.YtllmkadmohkbfaaGreatDoor.Sym
open Go Go.RowKit
theorem ij{a b:Nat}(h:a≠b):Nat.beq a b=false:=by
 cases hb:Nat.beq a b with
 |false=>rfl
 |true=>exact absurd (Nat.eq_of_beq_eq_true hb) h
abbrev Env:=List (Nat×EV)
def Env.get:Env→Nat→Option EV
 |[],_=>none
 |(t',e)::r,t=>bif Nat.beq t' t then some e else Env.get r t
structure St where
 env:Env
 aG:aS
def D6:Value→Option PV
 |.bool b=>some (.bool b)
 |.int k n=>some (.int k n)
 |.string s=>some (.str s)
 |.nilIface=>some .az
 |.slice none 0 0=>some (.list [])
 |_=>none
theorem HI{v:Value}{p:PV}(h:D6 v=some p)(I:Nat→Prop)(w:World):Rd I w p v:=by
 unfold D6 at h
 split at h<;>first|(cases h;done)|(injection h with h;subst h)
 ·exact .bool _
 ·exact .int _ _
 ·exact .str _
 ·exact .az
 ·exact .nil _ _
def dw(env:Env):Operand→Option EV
 |.tmp t=>env.get t
 |.const v=>match D6 v with
  |some p=>some (.pv p)
  |none=>none
 |.func f=>some (.pv (.fn f))
 |.global _=>none
def bS(s:aS)(r:Nat):Prop:=(s.get r).isSome=true
theorem aS.get_nil(x:Nat):aS.get [] x=none:=by
 rcases Fq x with h|rfl|⟨j,rfl⟩
 ·rw[aS.kR h];rfl
 ·rfl
 ·rw[aS.lN];rfl
theorem rG{x:Nat} : ¬bS [] x:=fun h=>by unfold bS at h;rw[aS.get_nil] at h;cases h
def wi(β:Nat→Option Nat)(I:Nat→Prop)(w:World)(aG:aS):Prop :=
 (∀r sc,aG.get r=some sc→RB β (bS aG) I w r sc.sE∧∀b,β r=some b→b<w.heap.size∧¬I b) ∧
 ∀r r' b,bS aG r→bS aG r'→β r=some b→β r'=some b→r=r'
structure Ctx where
 w0:World
 I0:Nat→Prop
 sin:aS
 β0:Nat→Option Nat
 n:Nat
 small:n≤999999
def Ctx.M(Γ:Ctx)(b:Nat):Prop:=∃r,bS Γ.sin r∧Γ.β0 r=some b
structure ll (M:Nat→Prop) (w w':World):Prop where
 os:w'.os=w.os
 tape:w'.tape=w.tape
 output:w'.output=w.output
 size:w.heap.size≤w'.heap.size
 block:∀k,k<w.heap.size→¬M k→w'.heap[k]? = w.heap[k]?
 shape:∀k,k<w.heap.size→w'.shape? k=w.shape? k
 drawn:Vr→w.drawn≤w'.drawn
theorem ll.refl(M:Nat→Prop)(w:World):ll M w w:=⟨rfl,rfl,rfl,Nat.le_refl _,fun _ _ _=>rfl,fun _ _=>rfl,fun _=>Nat.le_refl _⟩
theorem ll.trans{M M':Nat→Prop}{a b c:World}(h:ll M a b)(k:ll M' b c)(hM:∀x,x<a.heap.size→M' x→M x):ll M a c :=
 ⟨k.os.trans h.os,k.tape.trans h.tape,k.output.trans h.output,Nat.le_trans h.size k.size,
  fun i hi hm=>(k.block i (Nat.lt_of_lt_of_le hi h.size) (fun VF=>hm (hM i hi VF))).trans (h.block i hi hm),
  fun i hi=>(k.shape i (Nat.lt_of_lt_of_le hi h.size)).trans (h.shape i hi),fun s=>Nat.le_trans (h.drawn s) (k.drawn s)⟩
theorem ll.FD{M:Nat→Prop}{w w':World}(h:Cy w.heap.size w w'):ll M w w' :=
 ⟨h.os,h.tape,h.output,h.size,fun k hk _=>h.block k hk,fun k hk=>rr (h.block k hk),h.drawn⟩
def gv(x:Nat):Prop:=200000≤x
def Ko(sin:aS)(β:Nat→Option Nat)(b:Nat):Prop:=∃x,gv x∧bS sin x∧β x=some b
def Ctx.Nw(Γ:Ctx)(b:Nat):Prop:=Γ.w0.heap.size≤b∨Ko Γ.sin Γ.β0 b
theorem Ctx.Nw.m{Γ:Ctx}{b:Nat}(h:Γ.Nw b)(hb:b<Γ.w0.heap.size):Γ.M b:=by
 rcases h with h|⟨x,_,h1,h2⟩
 ·omega
 ·exact⟨x,h1,h2⟩
structure dD (Γ:Ctx) (s:St) (a:Act) (w:World) (β:Nat→Option Nat) (I:Nat→Prop):Prop where
 env:∀t e,s.env.get t=some e→RE β (bS s.aG) I w e (a.tmps.getD t undef)
 aG:wi β I w s.aG
 par:∀r,bS s.aG r→bS Γ.sin r→¬gv r→β r=Γ.β0 r
 new:∀r b,bS s.aG r→(¬bS Γ.sin r∨gv r)→β r=some b→Γ.Nw b
 ib:∀b,I b→b<w.heap.size
 ii:∀b,I b→Γ.I0 b∨fresh Γ.w0 w b∨Ko Γ.sin Γ.β0 b
 aF:ll Γ.M Γ.w0 w
 size:a.tmps.size=Γ.n
 defers:a.defers=[]
def Rel(Γ:Ctx)(s:St)(a:Act)(w:World):Prop:=∃β I,dD Γ s a w β I
theorem Oo{a:Act}{d:Nat}{v:Value}(hd:d<a.tmps.size)(t:Nat):(a.put (some d) v).tmps.getD t undef=if t=d then v else a.tmps.getD t undef:=by
 show(a.tmps.setIfInBounds d v).getD t undef=_
 simp only[Array.getD_eq_getD_getElem?,Array.getElem?_setIfInBounds]
 by_cases h:d=t
 ·subst h;simp[hd]
 ·rw[if_neg h,if_neg (fun e=>h e.symm)]
theorem LB(a:Act)(d:Option Tmp)(v:Value):(a.put d v).tmps.size=a.tmps.size:=by
 cases d<;>simp[Act.put]
theorem put_defers(a:Act)(d:Option Tmp)(v:Value):(a.put d v).defers=a.defers:=by
 cases d<;>rfl
section
variable {Γ:Ctx} {s:St} {a:Act} {w:World} {β:Nat→Option Nat} {I:Nat→Prop}
theorem dD.lb(h:dD Γ s a w β I):∀r b,bS s.aG r→β r=some b→b<w.heap.size:=by
 intro r b hr hb
 obtain⟨sc,pr⟩:=Option.isSome_iff_exists.1 hr
 exact((h.aG.1 r sc pr).2 b hb).1
theorem dD.Fg(h:dD Γ s a w β I)(x:Operand)(e:EV)(he:Sym.dw s.env x=some e):RE β (bS s.aG) I w e (a.eval x):=by
 cases x with
 |tmp t=>exact h.env t e he
 |const v =>
  simp only[Sym.dw] at he
  split at he
  ·rename_i p hp
   injection he with he;subst he
   exact HI hp I w
  ·cases he
 |func f=>injection he with he;subst he;exact Rd.fn f
 |global g=>cases he
theorem dD.pre(h:dD Γ s a w β I):zG a w β (bS s.aG) I s.aG (dw s.env) :=
 ⟨fun x e he=>dD.Fg h x e he,fun r sc hr _=>(h.aG.1 r sc hr).1,h.lb,h.ib⟩
theorem dD.grow(h:dD Γ s a w β I){w':World}{I':Nat→Prop}(hb:Cy w.heap.size w w')(h1:∀b,I b→I' b)(h2:∀b,I' b→I b∨fresh w w' b):dD Γ s a w' β I':=by
 have hw:∀b o,I b→w'.cell? ⟨b,o,none⟩=w.cell? ⟨b,o,none⟩:=fun b o hI=>ig (hb.block b (h.ib b hI)) o
 have hs:∀r b,bS s.aG r→β r=some b→w'.shape? b=w.shape? b:=fun r b hr oe=>rr (hb.block b (h.lb r b hr oe))
 refine⟨fun t e he=>(h.env t e he).mono (fun _ _=>rfl) (fun _ h=>h) h1 hw hs,⟨fun r sc hr => ?_,h.aG.2⟩,h.par,h.new,fun b hI => ?_,fun b hI => ?_,h.aF.trans (ll.FD hb) (fun _ _ h=>h),h.size,h.defers⟩
 ·obtain⟨g1,g2⟩:=h.aG.1 r sc hr
  have hd:bS s.aG r:=by unfold bS;rw[hr];rfl
  refine⟨g1.mono rfl (fun b oe=>hb.block b (h.lb r b hd oe)) (fun _ _=>rfl) (fun _ h=>h) h1 hw hs,fun b oe=>⟨Nat.lt_of_lt_of_le (g2 b oe).1 hb.size,fun hI => ?_⟩⟩
  rcases h2 b hI with hI|hf
  ·exact(g2 b oe).2 hI
  ·have:=(g2 b oe).1;have:=hf.1;omega
 ·rcases h2 b hI with hI|hf
  ·exact Nat.lt_of_lt_of_le (h.ib b hI) hb.size
  ·exact hf.2
 ·rcases h2 b hI with hI|hf
  ·rcases h.ii b hI with h3|h3
   ·exact .inl h3
   ·exact .inr (h3.imp (fun h3=>⟨h3.1,Nat.lt_of_lt_of_le h3.2 hb.size⟩) id)
  ·exact .inr (.inl ⟨Nat.le_trans h.aF.size hf.1,hf.2⟩)
def oC(env:Env)(dst:Option Nat)(e:EV):Env:=match dst with
 |none=>env
 |some d=>(d,e)::env
theorem dD.put(h:dD Γ s a w β I){dst:Option Nat}{e:EV}{v:Value}(hd:∀d,dst=some d→d<Γ.n)(he:RE β (bS s.aG) I w e v) :
  dD Γ ⟨oC s.env dst e,s.aG⟩ (a.put dst v) w β I:=by
 refine⟨fun t e' hO => ?_,h.aG,h.par,h.new,h.ib,h.ii,h.aF,by rw[LB];exact h.size,by rw[put_defers];exact h.defers⟩
 cases dst with
 |none=>exact h.env t e' hO
 |some d =>
  rw[Oo (by rw[h.size];exact hd d rfl)]
  simp only[oC,Env.get] at hO
  by_cases ht:t=d
  ·subst ht
   simp only[Nat.beq_refl,cond_true] at hO
   injection hO with hO;subst hO
   simpa using he
  ·have:Nat.beq d t=false:=ij (Ne.symm ht)
   simp only[this,cond_false] at hO
   rw[if_neg ht]
   exact h.env t e' hO
def kS(r:Nat):EV→EV
 |.ptr r' off=>bif Nat.beq r' r then .dead else .ptr r' off
 |.row r' off len sz=>bif Nat.beq r' r then .dead else .row r' off len sz
 |.pA r' off len sz ps=>bif Nat.beq r' r then .dead else .pA r' off len sz ps
 |.Cu f r'=>bif Nat.beq r' r then .dead else .Cu f r'
 |.qM j len sz=>bif Nat.blt r 1000000 then .qM j len sz else bif Nat.beq (hc j) r then .dead else .qM j len sz
 |.oA j off=>bif Nat.blt r 1000000 then .oA j off else bif Nat.beq (hc j) r then .dead else .oA j off
 |e=>e
def mG(r:Nat):SC→SC
 |.lit cs => .lit (cs.map (kS r))
 |.pure ps => .pure ps
 |.heap xs=>bif Nat.blt r 1000000 then .heap xs else .heap (xs.set (r-1000000) none)
 |.Hz hs sz=>bif Nat.blt r 1000000 then .Hz hs sz else .lit ((hs.map fun x=>EV.qM x.1 x.2 sz).map (kS r))
def dE(r:Nat):aS→aS
 |[]=>[]
 |(r',c)::s=>bif Nat.beq r' r&&Nat.blt r 999999 then dE r s else (r',mG r c)::dE r s
def wj(r:Nat):Env→Env
 |[]=>[]
 |(t,e)::s=>(t,kS r e)::wj r s
def kill(r:Nat)(s:St):St:=⟨wj r s.env,dE r s.aG⟩
theorem lO(r:Nat):∀(s:aS) (x:Nat),(dE r s).eE x=if x=r∧r<999999 then none else (s.eE x).map (mG r)
 |[],x=>by simp[dE,aS.eE]
 |(r',c)::s,x=>by
  simp only[dE]
  by_cases hr:r<999999
  ·have eb:Nat.blt r 999999=true:=Nat.ble_eq_true_of_le hr
   simp only[eb,Bool.and_true,hr,and_true]
   cases hb:Nat.beq r' r with
   |true =>
    have:r'=r:=Nat.eq_of_beq_eq_true hb
    subst this
    simp only[cond_true,lO r' s x,aS.eE,hr,and_true]
    by_cases hx:x=r'
    ·simp[hx]
    ·have h2:Nat.beq r' x=false:=ij (Ne.symm hx)
     simp[hx,h2]
   |false =>
    simp only[cond_false,aS.eE,lO r s x,hr,and_true]
    cases h2:Nat.beq r' x with
    |true =>
     have:r'=x:=Nat.eq_of_beq_eq_true h2
     subst this
     have di:r'≠r:=by intro e;subst e;simp at hb
     simp[di]
    |false=>simp
  ·have eb:Nat.blt r 999999=false:=Bool.eq_false_iff.2 (fun h=>hr (Nat.le_of_ble_eq_true h))
   simp only[eb,Bool.and_false,cond_false,aS.eE,lO r s x,hr,and_false,if_false]
   cases h2:Nat.beq r' x<;>simp
theorem HJ(r:Nat)(s:aS):(dE r s).hp=if r<1000000 then s.hp else s.hp.set (r-1000000) none:=by
 unfold aS.hp
 rw[lO,if_neg (fun h=>by omega)]
 cases hg:s.eE 999999 with
 |none=>simp
 |some sc =>
  cases sc with
  |lit cs=>simp[mG]
  |pure ps=>simp[mG]
  |Hz hs sz=>simp only[Option.map_some,mG];cases Nat.blt r 1000000<;>simp
  |heap xs =>
   simp only[Option.map_some,mG]
   by_cases hr:r<1000000
   ·rw[show Nat.blt r 1000000=true from Nat.ble_eq_true_of_le hr]
    simp[hr]
   ·rw[show Nat.blt r 1000000=false from Bool.eq_false_iff.2 (fun h=>hr (Nat.le_of_ble_eq_true h))]
    simp[hr]
theorem yF(r:Nat)(s:aS)(x:Nat):(dE r s).get x=if x=r then none else (s.get x).map (mG r):=by
 rcases Fq x with h|rfl|⟨j,rfl⟩
 ·rw[aS.kR h,aS.kR h,lO]
  by_cases hx:x=r
  ·subst hx;simp[h]
  ·simp[hx]
 ·rw[aS.hX,aS.hX];simp
 ·rw[aS.lN,aS.lN,HJ]
  unfold rB hc
  by_cases hr:r<1000000
  ·rw[if_pos hr,if_neg (by omega)]
   split<;>simp[mG]
  ·rw[if_neg hr]
   by_cases hx:1000000+j=r
   ·rw[if_pos hx,←hx,Nat.add_sub_cancel_left]
    by_cases hl:j<s.hp.length
    ·simp[hl]
    ·rw[List.set_eq_of_length_le (by omega),List.getElem?_eq_none (by omega)]
   ·rw[if_neg hx,List.getElem?_set_ne (by omega)]
    split<;>simp[mG]
theorem yG(r:Nat):∀(s:Env) (t:Nat),(wj r s).get t=(s.get t).map (kS r)
 |[],t=>rfl
 |(t',e)::s,t=>by
  simp only[wj,Env.get]
  cases Nat.beq t' t<;>simp[yG r s t]
theorem C5{r:Nat}{L L':Nat→Prop}{e:EV}{v:Value}(h:RE β L I w e v)(hL:∀x,L x→x≠r→L' x):RE β L' I w (kS r e) v:=by
 cases e with
 |pv p=>exact h
 |pz c=>exact h
 |dead=>exact h
 |ptr r' off =>
  simp only[kS]
  cases hb:Nat.beq r' r with
  |true=>exact True.intro
  |false=>exact⟨hL _ h.1 (by intro e;subst e;simp at hb),h.2⟩
 |Cu f r' =>
  simp only[kS]
  cases hb:Nat.beq r' r with
  |true=>exact True.intro
  |false=>exact⟨hL _ h.1 (by intro e;subst e;simp at hb),h.2⟩
 |qM j len sz =>
  simp only[kS]
  cases qO:Nat.blt r 1000000 with
  |true=>exact⟨hL _ h.1 (by have:=Nat.le_of_ble_eq_true qO;unfold hc;omega),h.2⟩
  |false =>
   simp only[cond_false]
   cases hb:Nat.beq (hc j) r with
   |true=>exact True.intro
   |false=>exact⟨hL _ h.1 (by intro e;rw[e] at hb;simp at hb),h.2⟩
 |oA j off =>
  simp only[kS]
  cases qO:Nat.blt r 1000000 with
  |true=>exact⟨hL _ h.1 (by have:=Nat.le_of_ble_eq_true qO;unfold hc;omega),h.2⟩
  |false =>
   simp only[cond_false]
   cases hb:Nat.beq (hc j) r with
   |true=>exact True.intro
   |false=>exact⟨hL _ h.1 (by intro e;rw[e] at hb;simp at hb),h.2⟩
 |row r' off len sz =>
  simp only[kS]
  cases hb:Nat.beq r' r with
  |true=>exact True.intro
  |false=>exact⟨hL _ h.1 (by intro e;subst e;simp at hb),h.2⟩
 |pA r' off len sz ps =>
  simp only[kS]
  cases hb:Nat.beq r' r with
  |true=>exact True.intro
  |false =>
   obtain⟨us,g1,g2,⟨u,g3,g4,UR⟩,g5⟩:=h
   exact⟨us,g1,g2,⟨u,g3,hL _ g4 (by intro e;subst e;simp at hb),UR⟩,g5⟩
theorem HK(r:Nat)(sc:SC):(mG r sc).sE=sc.sE.map (kS r):=by
 cases sc with
 |lit cs=>rfl
 |pure ps=>simp[mG,SC.sE,kS]
 |heap xs=>unfold mG;cases Nat.blt r 1000000<;>rfl
 |Hz hs sz =>
  unfold mG
  cases hb:Nat.blt r 1000000 with
  |false=>rfl
  |true=>simp[SC.sE,kS,hb]
theorem QJ{r x:Nat}{L L':Nat→Prop}{cells:List EV}(h:RB β L I w x cells)(hL:∀x,L x→x≠r→L' x):RB β L' I w x (cells.map (kS r)):=by
 rcases h with ⟨h1,h2⟩|⟨b,arr,el,hb,h1,h2⟩
 ·exact .inl ⟨h1,by rw[h2];rfl⟩
 ·refine .inr ⟨b,arr,el,hb,h1,fun j e he => ?_⟩
  rw[List.getElem?_map] at he
  cases hc:cells[j]? with
  |none=>simp[hc] at he
  |some c =>
   simp[hc] at he
   subst he
   obtain⟨u,g1,g2,g3⟩:=h2 j c hc
   exact⟨u,g1,g2,C5 g3 hL⟩
theorem eR{r x:Nat}{s:aS} : bS (dE r s) x↔bS s x∧x≠r:=by
 unfold bS
 rw[yF]
 by_cases h:x=r
 ·simp[h]
 ·simp[h]
theorem dD.kill(h:dD Γ s a w β I)(r:Nat):dD Γ (kill r s) a w β I:=by
 have hL:∀x,bS s.aG x→x≠r→bS (dE r s.aG) x:=fun x hx di=>eR.2 ⟨hx,di⟩
 refine⟨fun t e he => ?_,⟨fun x sc hx => ?_,fun x y b hx hy=>h.aG.2 x y b (eR.1 hx).1 (eR.1 hy).1⟩,fun x hx=>h.par x (eR.1 hx).1,fun x b hx=>h.new x b (eR.1 hx).1,h.ib,h.ii,h.aF,h.size,h.defers⟩
 ·have he:(wj r s.env).get t=some e:=he
  rw[yG] at he
  cases hg:s.env.get t with
  |none=>simp[hg] at he
  |some e' =>
   simp[hg] at he
   subst he
   exact C5 (h.env t e' hg) hL
 ·have hx:(dE r s.aG).get x=some sc:=hx
  rw[yF] at hx
  by_cases CB:x=r
  ·simp[CB] at hx
  ·rw[if_neg CB] at hx
   cases hg:s.aG.get x with
   |none=>simp[hg] at hx
   |some sc' =>
    simp[hg] at hx
    subst hx
    obtain⟨g1,g2⟩:=h.aG.1 x sc' hg
    exact⟨by rw[HK];exact QJ g1 hL,g2⟩
theorem aS.kv{r x:Nat}{sc:SC}{s:aS}(hr:r<999999):aS.get ((r,sc)::s) x=bif Nat.beq r x then some sc else s.get x:=by
 rcases Fq x with h|rfl|⟨j,rfl⟩
 ·rw[aS.kR h,aS.kR h];rfl
 ·rw[aS.hX,aS.hX,ij (by omega)];rfl
 ·rw[aS.lN,aS.lN,ij (by unfold hc;omega)]
  unfold aS.hp
  simp only[aS.eE,ij (show r≠999999 by omega),cond_false]
theorem dQ{r x:Nat}{sc:SC}{s:aS}(hr:r<999999):bS ((r,sc)::s) x↔x=r∨bS s x:=by
 unfold bS
 rw[aS.kv hr]
 cases hb:Nat.beq r x with
 |true =>
  have:r=x:=Nat.eq_of_beq_eq_true hb
  simp[this]
 |false =>
  have:x≠r:=by intro e;subst e;simp at hb
  simp[this]
theorem dD.site(h:dD Γ s a w β I){d:Nat}{sc:SC}(sP:d<999999)(hd:¬bS s.aG d)(hn:¬bS Γ.sin d){β':Nat→Option Nat}(hβ:∀r,r≠d→β' r=β r)
  (hb:∀b,β' d=some b→b<w.heap.size∧¬I b∧Γ.Nw b∧∀r,bS s.aG r→β r≠some b) (pr:RB β' (fun r=>bS s.aG r∨r=d) I w d sc.sE) :
  dD Γ ⟨s.env,(d,sc)::s.aG⟩ a w β' I:=by
 have CC:∀r,bS s.aG r→β' r=β r:=fun r hr=>hβ r (fun e=>hd (e ▸ hr))
 have hL:∀r,bS s.aG r→bS ((d,sc)::s.aG) r:=fun r hr=>(dQ sP).2 (.inr hr)
 have Zi:∀r,(bS s.aG r∨r=d)→bS ((d,sc)::s.aG) r:=fun r hr=>(dQ sP).2 (hr.elim .inr .inl)
 refine⟨fun t e he=>(h.env t e he).mono CC hL (fun _ h=>h) (fun _ _ _=>rfl) (fun _ _ _ _=>rfl),⟨fun r sc' hr => ?_,fun r r' b hr eb e1 e2 => ?_⟩,fun r hr hs hg => ?_,fun r b hr hs fz => ?_,h.ib,h.ii,h.aF,h.size,h.defers⟩
 ·rw[aS.kv sP] at hr
  cases hbq:Nat.beq d r with
  |true =>
   have:d=r:=Nat.eq_of_beq_eq_true hbq
   subst this
   simp only[hbq,cond_true] at hr
   injection hr with hr;subst hr
   exact⟨pr.mono rfl (fun _ _=>rfl) (fun _ _=>rfl) Zi (fun _ h=>h) (fun _ _ _=>rfl) (fun _ _ _ _=>rfl),fun b fz=>⟨(hb b fz).1,(hb b fz).2.1⟩⟩
  |false =>
   simp only[hbq,cond_false] at hr
   have xG:bS s.aG r:=by unfold bS;rw[hr];rfl
   obtain⟨g1,g2⟩:=h.aG.1 r sc' hr
   exact⟨g1.mono (CC r xG) (fun _ _=>rfl) CC hL (fun _ h=>h) (fun _ _ _=>rfl) (fun _ _ _ _=>rfl),fun b fz=>g2 b (by rw[←CC r xG];exact fz)⟩
 ·rcases(dQ sP).1 hr with h1|h1
  ·rcases(dQ sP).1 eb with h2|h2
   ·rw[h1,h2]
   ·rw[h1] at e1
    rw[CC r' h2] at e2
    exact absurd e2 ((hb b e1).2.2.2 r' h2)
  ·rcases(dQ sP).1 eb with h2|h2
   ·rw[h2] at e2
    rw[CC r h1] at e1
    exact absurd e1 ((hb b e2).2.2.2 r h1)
   ·rw[CC r h1] at e1
    rw[CC r' h2] at e2
    exact h.aG.2 r r' b h1 h2 e1 e2
 ·rcases(dQ sP).1 hr with rfl|hr
  ·exact absurd hs hn
  ·rw[CC r hr];exact h.par r hr hs hg
 ·rcases(dQ sP).1 hr with rfl|hr
  ·exact(hb b fz).2.2.1
  ·rw[CC r hr] at fz;exact h.new r b hr hs fz
end
end Go.Proofs.YtllmkadmohkbfaaGreatDoor.Sym
