/- Lemmas for the statements of this seat. -/
import Derived.Test.YtcpnocgollpbhaaGreatDoorW8
import Derived.Laws.AppendOwn
namespace Go.Proofs.YtcpnocgollpbhaaGreatDoor.Sym
open Go Go.RowKit
theorem ig{a b:Nat}(h:a≠b):Nat.beq a b=false:=by
 cases hb:Nat.beq a b with
 |false=>rfl
 |true=>exact absurd (ag0 hb) h
abbrev Env:=List (Nat×EV)
def Env.get:Env→Nat→Option EV
 |[],_=>none
 |(t',e)::r,t=>bif Nat.beq t' t then some e else Env.get r t
structure St where
 env:Env
 aG:aS
def Fm:Value→Option PV
 |.bool b=>some (.bool b)
 |.int k n=>some (.int k n)
 |.string s=>some (.str s)
 |.nilIface=>some .ay
 |.slice none 0 0=>some (.list [])
 |_=>none
theorem Jv{v:Value}{p:PV}(h:Fm v=some p)(I:Nat→Prop)(w:World):Rd I w p v:=by
 unfold Fm at h;split at h<;>first|(cases h;done)|(injection h with h;subst h)
 ·exact .bool _
 ·exact .int _ _
 ·exact .str _
 ·exact .ay
 ·exact .nil _ _
def dh(env:Env):Operand→Option EV
 |.tmp t=>env.get t
 |.const v=>match Fm v with
  |some p=>some (.pv p)
  |none=>none
 |.func f=>some (.pv (.fn f))
 |.global _=>none
def bB(s:aS)(r:Nat):Prop:=(s.get r).isSome=true
theorem aS.get_nil(x:Nat):aS.get [] x=none:=by
 rcases Hg x with h|rfl|⟨j,rfl⟩
 ·rw[aS.k8 h];rfl
 ·rfl
 ·rw[aS.lX];rfl
theorem pQ{x:Nat} : ¬bB [] x:=fun h=>by unfold bB at h;rw[aS.get_nil] at h;cases h
def wX(β:Nat→Option Nat)(I:Nat→Prop)(w:World)(aG:aS):Prop :=
 (∀r sc,aG.get r=some sc→RB β (bB aG) I w r sc.rI∧∀b,β r=some b→b<w.heap.size∧¬I b) ∧
 ∀r r' b,bB aG r→bB aG r'→β r=some b→β r'=some b→r=r'
def tn(_:aS)(_:Nat→Option Nat)(_:World):Prop:=True
theorem tn.mono{sin N5:aS}{β β':Nat→Option Nat}{w w':World}(_:tn sin β w)(_:∀k,k<w.heap.size→(∀x,bB sin x→β x≠some k)→w'.heap[k]? = w.heap[k]?)
  (_:∀x b,bB N5 x→β' x=some b→w.heap.size≤b∨∃y,bB sin y∧β y=some b):tn N5 β' w':=True.intro
theorem tn.Zl{sin:aS}{β:Nat→Option Nat}{w:World} : tn sin β w:=True.intro
theorem tn.sub{sin N5:aS}{β β':Nat→Option Nat}{w:World}(h:tn sin β w)(hd:∀x b,bB N5 x→β' x=some b→∃y,bB sin y∧β y=some b):tn N5 β' w :=
 h.mono (fun _ _ _=>rfl) (fun x b hx hb => .inr (hd x b hx hb))
theorem tn.nil{sin:aS}{β β':Nat→Option Nat}{w:World}(h:tn sin β w):tn [] β' w:=h.sub (fun _ _ hx=>absurd hx pQ)
structure Ctx where
 w0:World
 I0:Nat→Prop
 sin:aS
 β0:Nat→Option Nat
 n:Nat
 small:n≤999999
 lay:tn sin β0 w0
def Ctx.M(Γ:Ctx)(b:Nat):Prop:=∃r,bB Γ.sin r∧Γ.β0 r=some b
structure lJ (M:Nat→Prop) (w w':World):Prop where
 os:w'.os=w.os
 tape:w'.tape=w.tape
 output:w'.output=w.output
 size:w.heap.size≤w'.heap.size
 block:∀k,k<w.heap.size→¬M k→w'.heap[k]? = w.heap[k]?
 shape:∀k,k<w.heap.size→w'.shape? k=w.shape? k
 drawn:Y7→w.drawn≤w'.drawn
theorem lJ.refl(M:Nat→Prop)(w:World):lJ M w w:=⟨rfl,rfl,rfl,afY _,fun _ _ _=>rfl,fun _ _=>rfl,fun _=>afY _⟩
theorem lJ.trans{M M':Nat→Prop}{a b c:World}(h:lJ M a b)(k:lJ M' b c)(hM:∀x,x<a.heap.size→M' x→M x):lJ M a c :=
 ⟨k.os.trans h.os,k.tape.trans h.tape,k.output.trans h.output,ag3 h.size k.size,
  fun i hi hm=>(k.block i (agA hi h.size) (fun Zm=>hm (hM i hi Zm))).trans (h.block i hi hm),
  fun i hi=>(k.shape i (agA hi h.size)).trans (h.shape i hi),fun s=>ag3 (h.drawn s) (k.drawn s)⟩
theorem lJ.Hu{M:Nat→Prop}{w w':World}(h:Ds w.heap.size w w'):lJ M w w' :=
 ⟨h.os,h.tape,h.output,h.size,fun k hk _=>h.block k hk,fun k hk=>rM (h.block k hk),h.drawn⟩
def gv(x:Nat):Prop:=200000≤x
def Mv(sin:aS)(β:Nat→Option Nat)(b:Nat):Prop:=∃x,gv x∧bB sin x∧β x=some b
def Ctx.Nw(Γ:Ctx)(b:Nat):Prop:=Γ.w0.heap.size≤b∨Mv Γ.sin Γ.β0 b
theorem Ctx.Nw.m{Γ:Ctx}{b:Nat}(h:Γ.Nw b)(hb:b<Γ.w0.heap.size):Γ.M b:=by
 rcases h with h|⟨x,_,h1,h2⟩
 ·omega
 ·exact⟨x,h1,h2⟩
structure df (Γ:Ctx) (s:St) (a:Act) (w:World) (β:Nat→Option Nat) (I:Nat→Prop):Prop where
 env:∀t e,s.env.get t=some e→RE β (bB s.aG) I w e (a.tmps.getD t undef)
 aG:wX β I w s.aG
 par:∀r,bB s.aG r→bB Γ.sin r→¬gv r→β r=Γ.β0 r
 new:∀r b,bB s.aG r→(¬bB Γ.sin r∨gv r)→β r=some b→Γ.Nw b
 ib:∀b,I b→b<w.heap.size
 ii:∀b,I b→Γ.I0 b∨fresh Γ.w0 w b∨Mv Γ.sin Γ.β0 b
 aH:lJ Γ.M Γ.w0 w
 size:a.tmps.size=Γ.n
 defers:a.defers=[]
def Rel(Γ:Ctx)(s:St)(a:Act)(w:World):Prop:=∃β I,df Γ s a w β I
theorem df.lay{Γ:Ctx}{s:St}{a:Act}{w:World}{β:Nat→Option Nat}{I:Nat→Prop}(h:df Γ s a w β I):tn s.aG β w :=
 Γ.lay.mono (fun k hk hn=>h.aH.block k hk (fun ⟨x,hx,hb⟩=>hn x hx hb)) (fun x b hx hb=>by
  by_cases h1:bB Γ.sin x∧¬gv x
  ·exact .inr ⟨x,h1.1,(h.par x hx h1.1 h1.2).symm.trans hb⟩
  ·rcases h.new x b hx (by
    by_cases h2:bB Γ.sin x
    ·exact .inr (afV fun h3=>h1 ⟨h2,h3⟩)
    ·exact .inl h2) hb with h4|⟨y,_,hy,Jw⟩
   ·exact .inl h4
   ·exact .inr ⟨y,hy,Jw⟩)
theorem Q7{a:Act}{d:Nat}{v:Value}(hd:d<a.tmps.size)(t:Nat):(a.put (some d) v).tmps.getD t undef=if t=d then v else a.tmps.getD t undef:=by
 show(a.tmps.setIfInBounds d v).getD t undef=_;simp only[Array.getD_eq_getD_getElem?,Array.getElem?_setIfInBounds];by_cases h:d=t
 ·subst h;simp[hd]
 ·rw[ag7 h,ag7 (fun e=>h e.symm)]
theorem N6(a:Act)(d:Option Tmp)(v:Value):(a.put d v).tmps.size=a.tmps.size:=by cases d<;>simp[Act.put]
theorem put_defers(a:Act)(d:Option Tmp)(v:Value):(a.put d v).defers=a.defers:=by cases d<;>rfl
section
variable {Γ:Ctx} {s:St} {a:Act} {w:World} {β:Nat→Option Nat} {I:Nat→Prop}
theorem df.lb(h:df Γ s a w β I):∀r b,bB s.aG r→β r=some b→b<w.heap.size:=by intro r b hr hb;obtain⟨sc,oP⟩:=agk.1 hr;exact((h.aG.1 r sc oP).2 b hb).1
theorem df.G7(h:df Γ s a w β I)(x:Operand)(e:EV)(he:Sym.dh s.env x=some e):RE β (bB s.aG) I w e (a.eval x):=by
 cases x with
 |tmp t=>exact h.env t e he
 |const v =>
  simp only[Sym.dh] at he;split at he
  ·rename_i p hp;injection he with he;subst he
   exact Jv hp I w
  ·cases he
 |func f=>injection he with he;subst he;exact Rd.fn f
 |global g=>cases he
theorem df.pre(h:df Γ s a w β I):Af a w β (bB s.aG) I s.aG (dh s.env) :=
 ⟨fun x e he=>df.G7 h x e he,fun r sc hr _=>(h.aG.1 r sc hr).1,h.lb,h.ib⟩
theorem df.grow(h:df Γ s a w β I){w':World}{I':Nat→Prop}(hb:Ds w.heap.size w w')(h1:∀b,I b→I' b)(h2:∀b,I' b→I b∨fresh w w' b):df Γ s a w' β I':=by
 have hw:∀b o,I b→w'.cell? ⟨b,o,none⟩=w.cell? ⟨b,o,none⟩:=fun b o hI=>hZ (hb.block b (h.ib b hI)) o
 have hs:∀r b,bB s.aG r→β r=some b→w'.shape? b=w.shape? b:=fun r b hr ot=>rM (hb.block b (h.lb r b hr ot))
 refine⟨fun t e he=>(h.env t e he).mono (fun _ _=>rfl) (fun _ h=>h) h1 hw hs,⟨fun r sc hr => ?_,h.aG.2⟩,h.par,h.new,fun b hI => ?_,fun b hI => ?_,h.aH.trans (lJ.Hu hb) (fun _ _ h=>h),h.size,h.defers⟩
 ·obtain⟨g1,g2⟩:=h.aG.1 r sc hr;have hd:bB s.aG r:=by unfold bB;rw[hr];rfl
  refine⟨g1.mono rfl (fun b ot=>hb.block b (h.lb r b hd ot)) (fun _ _=>rfl) (fun _ h=>h) h1 hw hs,fun b ot=>⟨agA (g2 b ot).1 hb.size,fun hI => ?_⟩⟩;rcases h2 b hI with hI|hf
  ·exact(g2 b ot).2 hI
  ·have:=(g2 b ot).1;have:=hf.1;omega
 ·rcases h2 b hI with hI|hf
  ·exact agA (h.ib b hI) hb.size
  ·exact hf.2
 ·rcases h2 b hI with hI|hf
  ·rcases h.ii b hI with h3|h3
   ·exact .inl h3
   ·exact .inr (h3.imp (fun h3=>⟨h3.1,agA h3.2 hb.size⟩) id)
  ·exact .inr (.inl ⟨ag3 h.aH.size hf.1,hf.2⟩)
def oY(env:Env)(dst:Option Nat)(e:EV):Env:=match dst with
 |none=>env
 |some d=>(d,e)::env
theorem df.put(h:df Γ s a w β I){dst:Option Nat}{e:EV}{v:Value}(hd:∀d,dst=some d→d<Γ.n)(he:RE β (bB s.aG) I w e v) :
  df Γ ⟨oY s.env dst e,s.aG⟩ (a.put dst v) w β I:=by
 refine⟨fun t e' gQ => ?_,h.aG,h.par,h.new,h.ib,h.ii,h.aH,by rw[N6];exact h.size,by rw[put_defers];exact h.defers⟩;cases dst with
 |none=>exact h.env t e' gQ
 |some d =>
  rw[Q7 (by rw[h.size];exact hd d rfl)];simp only[oY,Env.get] at gQ;by_cases ht:t=d
  ·subst ht;simp only[Nat.beq_refl,cond_true] at gQ;injection gQ with gQ;subst gQ
   simpa using he
  ·have:Nat.beq d t=false:=ig (Ne.symm ht);simp only[this,cond_false] at gQ;rw[ag7 ht];exact h.env t e' gQ
def FE.at(r:Nat):FE→Bool
 |.pv _=>false
 |.row x _ _ _=>Nat.beq x r
 |.ji j _ _=>bif Nat.blt r 1000000 then false else Nat.beq (hc j) r
def iO(r:Nat):EV→EV
 |.mW fs=>bif fs.any (FE.at r) then .dead else .mW fs
 |.ptr r' off=>bif Nat.beq r' r then .dead else .ptr r' off
 |.row r' off len sz=>bif Nat.beq r' r then .dead else .row r' off len sz
 |.oy r' off len sz ps=>bif Nat.beq r' r then .dead else .oy r' off len sz ps
 |.Av f r'=>bif Nat.beq r' r then .dead else .Av f r'
 |.ji j len sz=>bif Nat.blt r 1000000 then .ji j len sz else bif Nat.beq (hc j) r then .dead else .ji j len sz
 |.n7 j off=>bif Nat.blt r 1000000 then .n7 j off else bif Nat.beq (hc j) r then .dead else .n7 j off
 |e=>e
def k9(r:Nat):SC→SC
 |.lit cs => .lit (cs.map (iO r))
 |.pure ps => .pure ps
 |.heap xs=>bif Nat.blt r 1000000 then .heap xs else .heap (xs.set (r-1000000) none)
 |.Jl hs sz=>bif Nat.blt r 1000000 then .Jl hs sz else .lit ((hs.map fun x=>EV.ji x.1 x.2 sz).map (iO r))
 |.Jm hs sz=>bif Nat.blt r 1000000 then .Jm hs sz else .lit ((NU hs sz).map (iO r))
def dx(r:Nat):aS→aS
 |[]=>[]
 |(r',c)::s=>bif Nat.beq r' r&&Nat.blt r 999999 then dx r s else (r',k9 r c)::dx r s
def wY(r:Nat):Env→Env
 |[]=>[]
 |(t,e)::s=>(t,iO r e)::wY r s
def kill(r:Nat)(s:St):St:=⟨wY r s.env,dx r s.aG⟩
theorem l5(r:Nat):∀(s:aS) (x:Nat),(dx r s).ej x=if x=r∧r<999999 then none else (s.ej x).map (k9 r)
 |[],x=>by simp[dx,aS.ej]
 |(r',c)::s,x=>by
  simp only[dx];by_cases hr:r<999999
  ·have dI:Nat.blt r 999999=true:=ahi hr;simp only[dI,Bool.and_true,hr,and_true];cases hb:Nat.beq r' r with
   |true =>
    have:r'=r:=ag0 hb;subst this;simp only[cond_true,l5 r' s x,aS.ej,hr,and_true];by_cases hx:x=r'
    ·simp[hx]
    ·have h2:Nat.beq r' x=false:=ig (Ne.symm hx);simp[hx,h2]
   |false =>
    simp only[cond_false,aS.ej,l5 r s x,hr,and_true];cases h2:Nat.beq r' x with
    |true =>
     have:r'=x:=ag0 h2;subst this;have et:r'≠r:=by intro e;subst e;simp at hb
     simp[et]
    |false=>simp
  ·have dI:Nat.blt r 999999=false:=ahv.2 (fun h=>hr (afS h));simp only[dI,Bool.and_false,cond_false,aS.ej,l5 r s x,hr,and_false,if_false];cases h2:Nat.beq r' x<;>simp
theorem Jx(r:Nat)(s:aS):(dx r s).hp=if r<1000000 then s.hp else s.hp.set (r-1000000) none:=by
 unfold aS.hp;rw[l5,ag7 (fun h=>by omega)];cases hg:s.ej 999999 with
 |none=>simp
 |some sc =>
  cases sc with
  |lit cs=>simp[k9]
  |pure ps=>simp[k9]
  |Jl hs sz=>simp only[Option.map_some,k9];cases Nat.blt r 1000000<;>simp
  |Jm hs sz=>simp only[Option.map_some,k9];cases Nat.blt r 1000000<;>simp
  |heap xs =>
   simp only[Option.map_some,k9];by_cases hr:r<1000000
   ·rw[show Nat.blt r 1000000=true from ahi hr];simp[hr]
   ·rw[show Nat.blt r 1000000=false from ahv.2 (fun h=>hr (afS h))];simp[hr]
theorem zm(r:Nat)(s:aS)(x:Nat):(dx r s).get x=if x=r then none else (s.get x).map (k9 r):=by
 rcases Hg x with h|rfl|⟨j,rfl⟩
 ·rw[aS.k8 h,aS.k8 h,l5];by_cases hx:x=r
  ·subst hx;simp[h]
  ·simp[hx]
 ·rw[aS.gY,aS.gY];simp
 ·rw[aS.lX,aS.lX,Jx];unfold rR hc;by_cases hr:r<1000000
  ·rw[ag9 hr,ag7 (by omega)];split<;>simp[k9]
  ·rw[ag7 hr];by_cases hx:1000000+j=r
   ·rw[ag9 hx,←hx,aj2];by_cases hl:j<s.hp.length
    ·simp[hl]
    ·rw[List.set_eq_of_length_le (by omega),agC (by omega)]
   ·rw[ag7 hx,ah1 (by omega)];split<;>simp[k9]
theorem zn(r:Nat):∀(s:Env) (t:Nat),(wY r s).get t=(s.get t).map (iO r)
 |[],t=>rfl
 |(t',e)::s,t=>by simp only[wY,Env.get];cases Nat.beq t' t<;>simp[zn r s t]
theorem D9{r:Nat}{L L':Nat→Prop}{e:EV}{v:Value}(h:RE β L I w e v)(hL:∀x,L x→x≠r→L' x):RE β L' I w (iO r e) v:=by
 cases e with
 |pv p=>exact h
 |ox c=>exact h
 |dead=>exact h
 |ptr r' off =>
  simp only[iO];cases hb:Nat.beq r' r with
  |true=>exact True.intro
  |false=>exact⟨hL _ h.1 (by intro e;subst e;simp at hb),h.2⟩
 |Av f r' =>
  simp only[iO];cases hb:Nat.beq r' r with
  |true=>exact True.intro
  |false=>exact⟨hL _ h.1 (by intro e;subst e;simp at hb),h.2⟩
 |ji j len sz =>
  simp only[iO];cases td:Nat.blt r 1000000 with
  |true=>exact⟨hL _ h.1 (by have:=afS td;unfold hc;omega),h.2⟩
  |false =>
   simp only[cond_false];cases hb:Nat.beq (hc j) r with
   |true=>exact True.intro
   |false=>exact⟨hL _ h.1 (by intro e;rw[e] at hb;simp at hb),h.2⟩
 |n7 j off =>
  simp only[iO];cases td:Nat.blt r 1000000 with
  |true=>exact⟨hL _ h.1 (by have:=afS td;unfold hc;omega),h.2⟩
  |false =>
   simp only[cond_false];cases hb:Nat.beq (hc j) r with
   |true=>exact True.intro
   |false=>exact⟨hL _ h.1 (by intro e;rw[e] at hb;simp at hb),h.2⟩
 |row r' off len sz =>
  simp only[iO];cases hb:Nat.beq r' r with
  |true=>exact True.intro
  |false=>exact⟨hL _ h.1 (by intro e;subst e;simp at hb),h.2⟩
 |oy r' off len sz ps =>
  simp only[iO];cases hb:Nat.beq r' r with
  |true=>exact True.intro
  |false =>obtain⟨us,g1,g2,⟨u,g3,g4,Yz⟩,g5⟩:=h;exact⟨us,g1,g2,⟨u,g3,hL _ g4 (by intro e;subst e;simp at hb),Yz⟩,g5⟩
 |mW fs =>
  simp only[iO];cases hb:fs.any (FE.at r) with
  |true=>exact True.intro
  |false =>
   obtain⟨us,g1,g2,g3⟩:=h;refine⟨us,g1,g2,fun j f u h1 h2 => ?_⟩;have h3:=g3 j f u h1 h2;cases f with
   |pv p=>exact h3
   |row x off len sz =>refine⟨hL _ h3.1 (fun e => ?_),h3.2⟩;subst e;have:=List.any_eq_false.1 hb _ (ag4 h1);simp[FE.at] at this
   |ji k len sz =>refine⟨hL _ h3.1 (fun e => ?_),h3.2⟩;subst e;have:=List.any_eq_false.1 hb _ (ag4 h1);simp[FE.at,show Nat.blt (hc k) 1000000=false from Bool.eq_false_iff.2 (fun h=>by have:=Nat.le_of_ble_eq_true h;unfold hc at this;omega)] at this
theorem Jy(r:Nat)(sc:SC):(k9 r sc).rI=sc.rI.map (iO r):=by
 cases sc with
 |lit cs=>rfl
 |pure ps=>simp[k9,SC.rI,iO]
 |heap xs=>unfold k9;cases Nat.blt r 1000000<;>rfl
 |Jl hs sz =>
  unfold k9;cases hb:Nat.blt r 1000000 with
  |false=>rfl
  |true=>simp[SC.rI,iO,hb]
 |Jm hs sz =>
  unfold k9;cases hb:Nat.blt r 1000000 with
  |false=>rfl
  |true =>
   simp only[SC.rI,cond_true];have:∀e∈NU hs sz,iO r e=e:=fun e he=>by
    unfold NU at he;obtain⟨x,_,hx⟩:=List.mem_flatMap.1 he;rcases agp.1 hx with rfl|hx
    ·rfl
    ·rcases agp.1 hx with rfl|hx
     ·simp[iO,hb]
     ·cases hx
   rw[ahW (g:=id) (fun e he=>this e he),ajO]
theorem TV{r x:Nat}{L L':Nat→Prop}{cells:List EV}(h:RB β L I w x cells)(hL:∀x,L x→x≠r→L' x):RB β L' I w x (cells.map (iO r)):=by
 rcases h with ⟨h1,h2⟩|⟨b,arr,el,hb,h1,h2⟩
 ·exact .inl ⟨h1,by rw[h2];rfl⟩
 ·refine .inr ⟨b,arr,el,hb,h1,fun j e he => ?_⟩;rw[afT] at he;cases hc:cells[j]? with
  |none=>simp[hc] at he
  |some c =>simp[hc] at he;subst he;obtain⟨u,g1,g2,g3⟩:=h2 j c hc;exact⟨u,g1,g2,D9 g3 hL⟩
theorem eV{r x:Nat}{s:aS} : bB (dx r s) x↔bB s x∧x≠r:=by
 unfold bB;rw[zm];by_cases h:x=r
 ·simp[h]
 ·simp[h]
theorem df.kill(h:df Γ s a w β I)(r:Nat):df Γ (kill r s) a w β I:=by
 have hL:∀x,bB s.aG x→x≠r→bB (dx r s.aG) x:=fun x hx et=>eV.2 ⟨hx,et⟩
 refine⟨fun t e he => ?_,⟨fun x sc hx => ?_,fun x y b hx hy=>h.aG.2 x y b (eV.1 hx).1 (eV.1 hy).1⟩,fun x hx=>h.par x (eV.1 hx).1,fun x b hx=>h.new x b (eV.1 hx).1,h.ib,h.ii,h.aH,h.size,h.defers⟩
 ·have he:(wY r s.env).get t=some e:=he;rw[zn] at he;cases hg:s.env.get t with
  |none=>simp[hg] at he
  |some e' =>simp[hg] at he;subst he;exact D9 (h.env t e' hg) hL
 ·have hx:(dx r s.aG).get x=some sc:=hx;rw[zm] at hx;by_cases DB:x=r
  ·simp[DB] at hx
  ·rw[ag7 DB] at hx;cases hg:s.aG.get x with
   |none=>simp[hg] at hx
   |some sc' =>simp[hg] at hx;subst hx;obtain⟨g1,g2⟩:=h.aG.1 x sc' hg;exact⟨by rw[Jy];exact TV g1 hL,g2⟩
theorem aS.kM{r x:Nat}{sc:SC}{s:aS}(hr:r<999999):aS.get ((r,sc)::s) x=bif Nat.beq r x then some sc else s.get x:=by
 rcases Hg x with h|rfl|⟨j,rfl⟩
 ·rw[aS.k8 h,aS.k8 h];rfl
 ·rw[aS.gY,aS.gY,ig (by omega)];rfl
 ·rw[aS.lX,aS.lX,ig (by unfold hc;omega)];unfold aS.hp;simp only[aS.ej,ig (show r≠999999 by omega),cond_false]
theorem dL{r x:Nat}{sc:SC}{s:aS}(hr:r<999999):bB ((r,sc)::s) x↔x=r∨bB s x:=by
 unfold bB;rw[aS.kM hr];cases hb:Nat.beq r x with
 |true =>have:r=x:=ag0 hb;simp[this]
 |false =>
  have:x≠r:=by intro e;subst e;simp at hb
  simp[this]
theorem df.site(h:df Γ s a w β I){d:Nat}{sc:SC}(s8:d<999999)(hd:¬bB s.aG d)(hn:¬bB Γ.sin d){β':Nat→Option Nat}(hβ:∀r,r≠d→β' r=β r)
  (hb:∀b,β' d=some b→b<w.heap.size∧¬I b∧Γ.Nw b∧∀r,bB s.aG r→β r≠some b) (oP:RB β' (fun r=>bB s.aG r∨r=d) I w d sc.rI) :
  df Γ ⟨s.env,(d,sc)::s.aG⟩ a w β' I:=by
 have DC:∀r,bB s.aG r→β' r=β r:=fun r hr=>hβ r (fun e=>hd (e ▸ hr))
 have hL:∀r,bB s.aG r→bB ((d,sc)::s.aG) r:=fun r hr=>(dL s8).2 (.inr hr)
 have hL2:∀r,(bB s.aG r∨r=d)→bB ((d,sc)::s.aG) r:=fun r hr=>(dL s8).2 (hr.elim .inr .inl)
 refine⟨fun t e he=>(h.env t e he).mono DC hL (fun _ h=>h) (fun _ _ _=>rfl) (fun _ _ _ _=>rfl),⟨fun r sc' hr => ?_,fun r r' b hr dI e1 e2 => ?_⟩,fun r hr hs hg => ?_,fun r b hr hs fw => ?_,h.ib,h.ii,h.aH,h.size,h.defers⟩
 ·rw[aS.kM s8] at hr;cases hbq:Nat.beq d r with
  |true =>
   have:d=r:=ag0 hbq;subst this;simp only[hbq,cond_true] at hr;injection hr with hr;subst hr
   exact⟨oP.mono rfl (fun _ _=>rfl) (fun _ _=>rfl) hL2 (fun _ h=>h) (fun _ _ _=>rfl) (fun _ _ _ _=>rfl),fun b fw=>⟨(hb b fw).1,(hb b fw).2.1⟩⟩
  |false =>
   simp only[hbq,cond_false] at hr;have yi:bB s.aG r:=by unfold bB;rw[hr];rfl
   obtain⟨g1,g2⟩:=h.aG.1 r sc' hr;exact⟨g1.mono (DC r yi) (fun _ _=>rfl) DC hL (fun _ h=>h) (fun _ _ _=>rfl) (fun _ _ _ _=>rfl),fun b fw=>g2 b (by rw[←DC r yi];exact fw)⟩
 ·rcases(dL s8).1 hr with h1|h1
  ·rcases(dL s8).1 dI with h2|h2
   ·rw[h1,h2]
   ·rw[h1] at e1;rw[DC r' h2] at e2;exact absurd e2 ((hb b e1).2.2.2 r' h2)
  ·rcases(dL s8).1 dI with h2|h2
   ·rw[h2] at e2;rw[DC r h1] at e1;exact absurd e1 ((hb b e2).2.2.2 r h1)
   ·rw[DC r h1] at e1;rw[DC r' h2] at e2;exact h.aG.2 r r' b h1 h2 e1 e2
 ·rcases(dL s8).1 hr with rfl|hr
  ·exact absurd hs hn
  ·rw[DC r hr];exact h.par r hr hs hg
 ·rcases(dL s8).1 hr with rfl|hr
  ·exact(hb b fw).2.2.1
  ·rw[DC r hr] at fw;exact h.new r b hr hs fw
end
end Go.Proofs.YtcpnocgollpbhaaGreatDoor.Sym
