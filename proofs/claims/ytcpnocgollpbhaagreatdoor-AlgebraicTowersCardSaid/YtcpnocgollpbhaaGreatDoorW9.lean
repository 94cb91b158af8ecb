/- Lemmas for the statements of this seat. -/
import Derived.Test.YtcpnocgollpbhaaGreatDoorW8
import Derived.Laws.AppendOwn
namespace Go.Proofs.YtcpnocgollpbhaaGreatDoor.Sym
open Go Go.RowKit
theorem iJ{a b:Nat}(h:a≠b):Nat.beq a b=false:=by
 cases hb:Nat.beq a b with
 |false=>rfl
 |true=>exact absurd (afB hb) h
abbrev Env:=List (Nat×EV)
def Env.get:Env→Nat→Option EV
 |[],_=>none
 |(t',e)::r,t=>bif Nat.beq t' t then some e else Env.get r t
structure St where
 env:Env
 aK:aT
def Gg:Value→Option PV
 |.bool b=>some (.bool b)
 |.int k n=>some (.int k n)
 |.string s=>some (.str s)
 |.nilIface=>some .aC
 |.slice none 0 0=>some (.list [])
 |_=>none
theorem Kd{v:Value}{p:PV}(h:Gg v=some p)(I:Nat→Prop)(w:World):Rd I w p v:=by
 unfold Gg at h;split at h<;>first|(cases h;done)|(injection h with h;subst h)
 ·exact .bool _
 ·exact .int _ _
 ·exact .str _
 ·exact .aC
 ·exact .nil _ _
def dA(env:Env):Operand→Option EV
 |.tmp t=>env.get t
 |.const v=>match Gg v with
  |some p=>some (.pv p)
  |none=>none
 |.func f=>some (.pv (.fn f))
 |.global _=>none
def bK(s:aT)(r:Nat):Prop:=(s.get r).isSome=true
theorem aT.get_nil(x:Nat):aT.get [] x=none:=by
 rcases HX x with h|rfl|⟨j,rfl⟩
 ·rw[aT.lM h];rfl
 ·rfl
 ·rw[aT.mm];rfl
theorem qK{x:Nat} : ¬bK [] x:=fun h=>by unfold bK at h;rw[aT.get_nil] at h;cases h
def xX(β:Nat→Option Nat)(I:Nat→Prop)(w:World)(aK:aT):Prop :=
 (∀r sc,aK.get r=some sc→RB β (bK aK) I w r sc.sG∧∀b,β r=some b→b<w.heap.size∧¬I b) ∧
 ∀r r' b,bK aK r→bK aK r'→β r=some b→β r'=some b→r=r'
def ue(_:aT)(_:Nat→Option Nat)(_:World):Prop:=True
theorem ue.mono{sin OI:aT}{β β':Nat→Option Nat}{w w':World}(_:ue sin β w)(_:∀k,k<w.heap.size→(∀x,bK sin x→β x≠some k)→w'.heap[k]? = w.heap[k]?)
  (_:∀x b,bK OI x→β' x=some b→w.heap.size≤b∨∃y,bK sin y∧β y=some b):ue OI β' w':=True.intro
theorem ue.Zo{sin:aT}{β:Nat→Option Nat}{w:World} : ue sin β w:=True.intro
theorem ue.sub{sin OI:aT}{β β':Nat→Option Nat}{w:World}(h:ue sin β w)(hd:∀x b,bK OI x→β' x=some b→∃y,bK sin y∧β y=some b):ue OI β' w :=
 h.mono (fun _ _ _=>rfl) (fun x b hx hb => .inr (hd x b hx hb))
theorem ue.nil{sin:aT}{β β':Nat→Option Nat}{w:World}(h:ue sin β w):ue [] β' w:=h.sub (fun _ _ hx=>absurd hx qK)
structure Ctx where
 w0:World
 I0:Nat→Prop
 sin:aT
 β0:Nat→Option Nat
 n:Nat
 small:n≤999999
 lay:ue sin β0 w0
def Ctx.M(Γ:Ctx)(b:Nat):Prop:=∃r,bK Γ.sin r∧Γ.β0 r=some b
structure l6 (M:Nat→Prop) (w w':World):Prop where
 os:w'.os=w.os
 tape:w'.tape=w.tape
 output:w'.output=w.output
 size:w.heap.size≤w'.heap.size
 block:∀k,k<w.heap.size→¬M k→w'.heap[k]? = w.heap[k]?
 shape:∀k,k<w.heap.size→w'.shape? k=w.shape? k
 drawn:Zb→w.drawn≤w'.drawn
theorem l6.refl(M:Nat→Prop)(w:World):l6 M w w:=⟨rfl,rfl,rfl,afy _,fun _ _ _=>rfl,fun _ _=>rfl,fun _=>afy _⟩
theorem l6.trans{M M':Nat→Prop}{a b c:World}(h:l6 M a b)(k:l6 M' b c)(hM:∀x,x<a.heap.size→M' x→M x):l6 M a c :=
 ⟨k.os.trans h.os,k.tape.trans h.tape,k.output.trans h.output,afJ h.size k.size,
  fun i hi hm=>(k.block i (aga hi h.size) (fun Zp=>hm (hM i hi Zp))).trans (h.block i hi hm),
  fun i hi=>(k.shape i (aga hi h.size)).trans (h.shape i hi),fun s=>afJ (h.drawn s) (k.drawn s)⟩
theorem l6.Ib{M:Nat→Prop}{w w':World}(h:Eu w.heap.size w w'):l6 M w w' :=
 ⟨h.os,h.tape,h.output,h.size,fun k hk _=>h.block k hk,fun k hk=>sH (h.block k hk),h.drawn⟩
def gv(x:Nat):Prop:=200000≤x
def Na(sin:aT)(β:Nat→Option Nat)(b:Nat):Prop:=∃x,gv x∧bK sin x∧β x=some b
def Ctx.Nw(Γ:Ctx)(b:Nat):Prop:=Γ.w0.heap.size≤b∨Na Γ.sin Γ.β0 b
theorem Ctx.Nw.m{Γ:Ctx}{b:Nat}(h:Γ.Nw b)(hb:b<Γ.w0.heap.size):Γ.M b:=by
 rcases h with h|⟨x,_,h1,h2⟩
 ·omega
 ·exact⟨x,h1,h2⟩
structure dz (Γ:Ctx) (s:St) (a:Act) (w:World) (β:Nat→Option Nat) (I:Nat→Prop):Prop where
 env:∀t e,s.env.get t=some e→RE β (bK s.aK) I w e (a.tmps.getD t undef)
 aK:xX β I w s.aK
 par:∀r,bK s.aK r→bK Γ.sin r→¬gv r→β r=Γ.β0 r
 new:∀r b,bK s.aK r→(¬bK Γ.sin r∨gv r)→β r=some b→Γ.Nw b
 ib:∀b,I b→b<w.heap.size
 ii:∀b,I b→Γ.I0 b∨fresh Γ.w0 w b∨Na Γ.sin Γ.β0 b
 aG:l6 Γ.M Γ.w0 w
 size:a.tmps.size=Γ.n
 defers:a.defers=[]
def Rel(Γ:Ctx)(s:St)(a:Act)(w:World):Prop:=∃β I,dz Γ s a w β I
theorem dz.lay{Γ:Ctx}{s:St}{a:Act}{w:World}{β:Nat→Option Nat}{I:Nat→Prop}(h:dz Γ s a w β I):ue s.aK β w :=
 Γ.lay.mono (fun k hk hn=>h.aG.block k hk (fun ⟨x,hx,hb⟩=>hn x hx hb)) (fun x b hx hb=>by
  by_cases h1:bK Γ.sin x∧¬gv x
  ·exact .inr ⟨x,h1.1,(h.par x hx h1.1 h1.2).symm.trans hb⟩
  ·rcases h.new x b hx (by
    by_cases h2:bK Γ.sin x
    ·exact .inr (afE fun h3=>h1 ⟨h2,h3⟩)
    ·exact .inl h2) hb with h4|⟨y,_,hy,Ke⟩
   ·exact .inl h4
   ·exact .inr ⟨y,hy,Ke⟩)
theorem RJ{a:Act}{d:Nat}{v:Value}(hd:d<a.tmps.size)(t:Nat):(a.put (some d) v).tmps.getD t undef=if t=d then v else a.tmps.getD t undef:=by
 show(a.tmps.setIfInBounds d v).getD t undef=_;simp only[Array.getD_eq_getD_getElem?,Array.getElem?_setIfInBounds];by_cases h:d=t
 ·subst h;simp[hd]
 ·rw[afG h,afG (fun e=>h e.symm)]
theorem OJ(a:Act)(d:Option Tmp)(v:Value):(a.put d v).tmps.size=a.tmps.size:=by cases d<;>simp[Act.put]
theorem put_defers(a:Act)(d:Option Tmp)(v:Value):(a.put d v).defers=a.defers:=by cases d<;>rfl
section
variable {Γ:Ctx} {s:St} {a:Act} {w:World} {β:Nat→Option Nat} {I:Nat→Prop}
theorem dz.lb(h:dz Γ s a w β I):∀r b,bK s.aK r→β r=some b→b<w.heap.size:=by intro r b hr hb;obtain⟨sc,pk⟩:=afS.1 hr;exact((h.aK.1 r sc pk).2 b hb).1
theorem dz.HI(h:dz Γ s a w β I)(x:Operand)(e:EV)(he:Sym.dA s.env x=some e):RE β (bK s.aK) I w e (a.eval x):=by
 cases x with
 |tmp t=>exact h.env t e he
 |const v =>
  simp only[Sym.dA] at he;split at he
  ·rename_i p hp;injection he with he;subst he
   exact Kd hp I w
  ·cases he
 |func f=>injection he with he;subst he;exact Rd.fn f
 |global g=>cases he
theorem dz.pre(h:dz Γ s a w β I):Bq a w β (bK s.aK) I s.aK (dA s.env) :=
 ⟨fun x e he=>dz.HI h x e he,fun r sc hr _=>(h.aK.1 r sc hr).1,h.lb,h.ib⟩
theorem dz.grow(h:dz Γ s a w β I){w':World}{I':Nat→Prop}(hb:Eu w.heap.size w w')(h1:∀b,I b→I' b)(h2:∀b,I' b→I b∨fresh w w' b):dz Γ s a w' β I':=by
 have hw:∀b o,I b→w'.cell? ⟨b,o,none⟩=w.cell? ⟨b,o,none⟩:=fun b o hI=>iH (hb.block b (h.ib b hI)) o
 have hs:∀r b,bK s.aK r→β r=some b→w'.shape? b=w.shape? b:=fun r b hr oQ=>sH (hb.block b (h.lb r b hr oQ))
 refine⟨fun t e he=>(h.env t e he).mono (fun _ _=>rfl) (fun _ h=>h) h1 hw hs,⟨fun r sc hr => ?_,h.aK.2⟩,h.par,h.new,fun b hI => ?_,fun b hI => ?_,h.aG.trans (l6.Ib hb) (fun _ _ h=>h),h.size,h.defers⟩
 ·obtain⟨g1,g2⟩:=h.aK.1 r sc hr;have hd:bK s.aK r:=by unfold bK;rw[hr];rfl
  refine⟨g1.mono rfl (fun b oQ=>hb.block b (h.lb r b hd oQ)) (fun _ _=>rfl) (fun _ h=>h) h1 hw hs,fun b oQ=>⟨aga (g2 b oQ).1 hb.size,fun hI => ?_⟩⟩;rcases h2 b hI with hI|hf
  ·exact(g2 b oQ).2 hI
  ·have:=(g2 b oQ).1;have:=hf.1;omega
 ·rcases h2 b hI with hI|hf
  ·exact aga (h.ib b hI) hb.size
  ·exact hf.2
 ·rcases h2 b hI with hI|hf
  ·rcases h.ii b hI with h3|h3
   ·exact .inl h3
   ·exact .inr (h3.imp (fun h3=>⟨h3.1,aga h3.2 hb.size⟩) id)
  ·exact .inr (.inl ⟨afJ h.aG.size hf.1,hf.2⟩)
def pF(env:Env)(dst:Option Nat)(e:EV):Env:=match dst with
 |none=>env
 |some d=>(d,e)::env
theorem dz.put(h:dz Γ s a w β I){dst:Option Nat}{e:EV}{v:Value}(hd:∀d,dst=some d→d<Γ.n)(he:RE β (bK s.aK) I w e v) :
  dz Γ ⟨pF s.env dst e,s.aK⟩ (a.put dst v) w β I:=by
 refine⟨fun t e' iu => ?_,h.aK,h.par,h.new,h.ib,h.ii,h.aG,by rw[OJ];exact h.size,by rw[put_defers];exact h.defers⟩;cases dst with
 |none=>exact h.env t e' iu
 |some d =>
  rw[RJ (by rw[h.size];exact hd d rfl)];simp only[pF,Env.get] at iu;by_cases ht:t=d
  ·subst ht;simp only[Nat.beq_refl,cond_true] at iu;injection iu with iu;subst iu
   simpa using he
  ·have:Nat.beq d t=false:=iJ (Ne.symm ht);simp only[this,cond_false] at iu;rw[afG ht];exact h.env t e' iu
def FE.at(r:Nat):FE→Bool
 |.pv _=>false
 |.row x _ _ _=>Nat.beq x r
 |.jB j _ _=>bif Nat.blt r 1000000 then false else Nat.beq (hc j) r
def ji(r:Nat):EV→EV
 |.nC fs=>bif fs.any (FE.at r) then .dead else .nC fs
 |.ptr r' off=>bif Nat.beq r' r then .dead else .ptr r' off
 |.row r' off len sz=>bif Nat.beq r' r then .dead else .row r' off len sz
 |.oZ r' off len sz ps=>bif Nat.beq r' r then .dead else .oZ r' off len sz ps
 |.BI f r'=>bif Nat.beq r' r then .dead else .BI f r'
 |.jB j len sz=>bif Nat.blt r 1000000 then .jB j len sz else bif Nat.beq (hc j) r then .dead else .jB j len sz
 |.oD j off=>bif Nat.blt r 1000000 then .oD j off else bif Nat.beq (hc j) r then .dead else .oD j off
 |e=>e
def lN(r:Nat):SC→SC
 |.lit cs => .lit (cs.map (ji r))
 |.pure ps => .pure ps
 |.heap xs=>bif Nat.blt r 1000000 then .heap xs else .heap (xs.set (r-1000000) none)
 |.J3 hs sz=>bif Nat.blt r 1000000 then .J3 hs sz else .lit ((hs.map fun x=>EV.jB x.1 x.2 sz).map (ji r))
 |.J4 hs sz=>bif Nat.blt r 1000000 then .J4 hs sz else .lit ((Oz hs sz).map (ji r))
def dG(r:Nat):aT→aT
 |[]=>[]
 |(r',c)::s=>bif Nat.beq r' r&&Nat.blt r 999999 then dG r s else (r',lN r c)::dG r s
def xY(r:Nat):Env→Env
 |[]=>[]
 |(t,e)::s=>(t,ji r e)::xY r s
def kill(r:Nat)(s:St):St:=⟨xY r s.env,dG r s.aK⟩
theorem mu(r:Nat):∀(s:aT) (x:Nat),(dG r s).eF x=if x=r∧r<999999 then none else (s.eF x).map (lN r)
 |[],x=>by simp[dG,aT.eF]
 |(r',c)::s,x=>by
  simp only[dG];by_cases hr:r<999999
  ·have dS:Nat.blt r 999999=true:=agR hr;simp only[dS,Bool.and_true,hr,and_true];cases hb:Nat.beq r' r with
   |true =>
    have:r'=r:=afB hb;subst this;simp only[cond_true,mu r' s x,aT.eF,hr,and_true];by_cases hx:x=r'
    ·simp[hx]
    ·have h2:Nat.beq r' x=false:=iJ (Ne.symm hx);simp[hx,h2]
   |false =>
    simp only[cond_false,aT.eF,mu r s x,hr,and_true];cases h2:Nat.beq r' x with
    |true =>
     have:r'=x:=afB h2;subst this;have fT:r'≠r:=by intro e;subst e;simp at hb
     simp[fT]
    |false=>simp
  ·have dS:Nat.blt r 999999=false:=ah8.2 (fun h=>hr (afv h));simp only[dS,Bool.and_false,cond_false,aT.eF,mu r s x,hr,and_false,if_false];cases h2:Nat.beq r' x<;>simp
theorem Kf(r:Nat)(s:aT):(dG r s).hp=if r<1000000 then s.hp else s.hp.set (r-1000000) none:=by
 unfold aT.hp;rw[mu,afG (fun h=>by omega)];cases hg:s.eF 999999 with
 |none=>simp
 |some sc =>
  cases sc with
  |lit cs=>simp[lN]
  |pure ps=>simp[lN]
  |J3 hs sz=>simp only[Option.map_some,lN];cases Nat.blt r 1000000<;>simp
  |J4 hs sz=>simp only[Option.map_some,lN];cases Nat.blt r 1000000<;>simp
  |heap xs =>
   simp only[Option.map_some,lN];by_cases hr:r<1000000
   ·rw[show Nat.blt r 1000000=true from agR hr];simp[hr]
   ·rw[show Nat.blt r 1000000=false from ah8.2 (fun h=>hr (afv h))];simp[hr]
theorem AH(r:Nat)(s:aT)(x:Nat):(dG r s).get x=if x=r then none else (s.get x).map (lN r):=by
 rcases HX x with h|rfl|⟨j,rfl⟩
 ·rw[aT.lM h,aT.lM h,mu];by_cases hx:x=r
  ·subst hx;simp[h]
  ·simp[hx]
 ·rw[aT.iC,aT.iC];simp
 ·rw[aT.mm,aT.mm,Kf];unfold sL hc;by_cases hr:r<1000000
  ·rw[afI hr,afG (by omega)];split<;>simp[lN]
  ·rw[afG hr];by_cases hx:1000000+j=r
   ·rw[afI hx,←hx,aiB];by_cases hl:j<s.hp.length
    ·simp[hl]
    ·rw[List.set_eq_of_length_le (by omega),ag3 (by omega)]
   ·rw[afG hx,agF (by omega)];split<;>simp[lN]
theorem AI(r:Nat):∀(s:Env) (t:Nat),(xY r s).get t=(s.get t).map (ji r)
 |[],t=>rfl
 |(t',e)::s,t=>by simp only[xY,Env.get];cases Nat.beq t' t<;>simp[AI r s t]
theorem E5{r:Nat}{L L':Nat→Prop}{e:EV}{v:Value}(h:RE β L I w e v)(hL:∀x,L x→x≠r→L' x):RE β L' I w (ji r e) v:=by
 cases e with
 |pv p=>exact h
 |oY c=>exact h
 |dead=>exact h
 |ptr r' off =>
  simp only[ji];cases hb:Nat.beq r' r with
  |true=>exact True.intro
  |false=>exact⟨hL _ h.1 (by intro e;subst e;simp at hb),h.2⟩
 |BI f r' =>
  simp only[ji];cases hb:Nat.beq r' r with
  |true=>exact True.intro
  |false=>exact⟨hL _ h.1 (by intro e;subst e;simp at hb),h.2⟩
 |jB j len sz =>
  simp only[ji];cases sE:Nat.blt r 1000000 with
  |true=>exact⟨hL _ h.1 (by have:=afv sE;unfold hc;omega),h.2⟩
  |false =>
   simp only[cond_false];cases hb:Nat.beq (hc j) r with
   |true=>exact True.intro
   |false=>exact⟨hL _ h.1 (by intro e;rw[e] at hb;simp at hb),h.2⟩
 |oD j off =>
  simp only[ji];cases sE:Nat.blt r 1000000 with
  |true=>exact⟨hL _ h.1 (by have:=afv sE;unfold hc;omega),h.2⟩
  |false =>
   simp only[cond_false];cases hb:Nat.beq (hc j) r with
   |true=>exact True.intro
   |false=>exact⟨hL _ h.1 (by intro e;rw[e] at hb;simp at hb),h.2⟩
 |row r' off len sz =>
  simp only[ji];cases hb:Nat.beq r' r with
  |true=>exact True.intro
  |false=>exact⟨hL _ h.1 (by intro e;subst e;simp at hb),h.2⟩
 |oZ r' off len sz ps =>
  simp only[ji];cases hb:Nat.beq r' r with
  |true=>exact True.intro
  |false =>obtain⟨us,g1,g2,⟨u,g3,g4,YG⟩,g5⟩:=h;exact⟨us,g1,g2,⟨u,g3,hL _ g4 (by intro e;subst e;simp at hb),YG⟩,g5⟩
 |nC fs =>
  simp only[ji];cases hb:fs.any (FE.at r) with
  |true=>exact True.intro
  |false =>
   obtain⟨us,g1,g2,g3⟩:=h;refine⟨us,g1,g2,fun j f u h1 h2 => ?_⟩;have h3:=g3 j f u h1 h2;cases f with
   |pv p=>exact h3
   |row x off len sz =>refine⟨hL _ h3.1 (fun e => ?_),h3.2⟩;subst e;have:=List.any_eq_false.1 hb _ (afx h1);simp[FE.at] at this
   |jB k len sz =>refine⟨hL _ h3.1 (fun e => ?_),h3.2⟩;subst e;have:=List.any_eq_false.1 hb _ (afx h1);simp[FE.at,show Nat.blt (hc k) 1000000=false from Bool.eq_false_iff.2 (fun h=>by have:=Nat.le_of_ble_eq_true h;unfold hc at this;omega)] at this
theorem Kg(r:Nat)(sc:SC):(lN r sc).sG=sc.sG.map (ji r):=by
 cases sc with
 |lit cs=>rfl
 |pure ps=>simp[lN,SC.sG,ji]
 |heap xs=>unfold lN;cases Nat.blt r 1000000<;>rfl
 |J3 hs sz =>
  unfold lN;cases hb:Nat.blt r 1000000 with
  |false=>rfl
  |true=>simp[SC.sG,ji,hb]
 |J4 hs sz =>
  unfold lN;cases hb:Nat.blt r 1000000 with
  |false=>rfl
  |true =>
   simp only[SC.sG,cond_true];have:∀e∈Oz hs sz,ji r e=e:=fun e he=>by
    unfold Oz at he;obtain⟨x,_,hx⟩:=List.mem_flatMap.1 he;rcases afY.1 hx with rfl|hx
    ·rfl
    ·rcases afY.1 hx with rfl|hx
     ·simp[ji,hb]
     ·cases hx
   rw[ahM (g:=id) (fun e he=>this e he),ajo]
theorem Ur{r x:Nat}{L L':Nat→Prop}{cells:List EV}(h:RB β L I w x cells)(hL:∀x,L x→x≠r→L' x):RB β L' I w x (cells.map (ji r)):=by
 rcases h with ⟨h1,h2⟩|⟨b,arr,el,hb,h1,h2⟩
 ·exact .inl ⟨h1,by rw[h2];rfl⟩
 ·refine .inr ⟨b,arr,el,hb,h1,fun j e he => ?_⟩;rw[afu] at he;cases hc:cells[j]? with
  |none=>simp[hc] at he
  |some c =>simp[hc] at he;subst he;obtain⟨u,g1,g2,g3⟩:=h2 j c hc;exact⟨u,g1,g2,E5 g3 hL⟩
theorem fk{r x:Nat}{s:aT} : bK (dG r s) x↔bK s x∧x≠r:=by
 unfold bK;rw[AH];by_cases h:x=r
 ·simp[h]
 ·simp[h]
theorem dz.kill(h:dz Γ s a w β I)(r:Nat):dz Γ (kill r s) a w β I:=by
 have hL:∀x,bK s.aK x→x≠r→bK (dG r s.aK) x:=fun x hx fT=>fk.2 ⟨hx,fT⟩
 refine⟨fun t e he => ?_,⟨fun x sc hx => ?_,fun x y b hx hy=>h.aK.2 x y b (fk.1 hx).1 (fk.1 hy).1⟩,fun x hx=>h.par x (fk.1 hx).1,fun x b hx=>h.new x b (fk.1 hx).1,h.ib,h.ii,h.aG,h.size,h.defers⟩
 ·have he:(xY r s.env).get t=some e:=he;rw[AI] at he;cases hg:s.env.get t with
  |none=>simp[hg] at he
  |some e' =>simp[hg] at he;subst he;exact E5 (h.env t e' hg) hL
 ·have hx:(dG r s.aK).get x=some sc:=hx;rw[AH] at hx;by_cases EA:x=r
  ·simp[EA] at hx
  ·rw[afG EA] at hx;cases hg:s.aK.get x with
   |none=>simp[hg] at hx
   |some sc' =>simp[hg] at hx;subst hx;obtain⟨g1,g2⟩:=h.aK.1 x sc' hg;exact⟨by rw[Kg];exact Ur g1 hL,g2⟩
theorem aT.lj{r x:Nat}{sc:SC}{s:aT}(hr:r<999999):aT.get ((r,sc)::s) x=bif Nat.beq r x then some sc else s.get x:=by
 rcases HX x with h|rfl|⟨j,rfl⟩
 ·rw[aT.lM h,aT.lM h];rfl
 ·rw[aT.iC,aT.iC,iJ (by omega)];rfl
 ·rw[aT.mm,aT.mm,iJ (by unfold hc;omega)];unfold aT.hp;simp only[aT.eF,iJ (show r≠999999 by omega),cond_false]
theorem dY{r x:Nat}{sc:SC}{s:aT}(hr:r<999999):bK ((r,sc)::s) x↔x=r∨bK s x:=by
 unfold bK;rw[aT.lj hr];cases hb:Nat.beq r x with
 |true =>have:r=x:=afB hb;simp[this]
 |false =>
  have:x≠r:=by intro e;subst e;simp at hb
  simp[this]
theorem dz.site(h:dz Γ s a w β I){d:Nat}{sc:SC}(tU:d<999999)(hd:¬bK s.aK d)(hn:¬bK Γ.sin d){β':Nat→Option Nat}(hβ:∀r,r≠d→β' r=β r)
  (hb:∀b,β' d=some b→b<w.heap.size∧¬I b∧Γ.Nw b∧∀r,bK s.aK r→β r≠some b) (pk:RB β' (fun r=>bK s.aK r∨r=d) I w d sc.sG) :
  dz Γ ⟨s.env,(d,sc)::s.aK⟩ a w β' I:=by
 have EB:∀r,bK s.aK r→β' r=β r:=fun r hr=>hβ r (fun e=>hd (e ▸ hr))
 have hL:∀r,bK s.aK r→bK ((d,sc)::s.aK) r:=fun r hr=>(dY tU).2 (.inr hr)
 have hL2:∀r,(bK s.aK r∨r=d)→bK ((d,sc)::s.aK) r:=fun r hr=>(dY tU).2 (hr.elim .inr .inl)
 refine⟨fun t e he=>(h.env t e he).mono EB hL (fun _ h=>h) (fun _ _ _=>rfl) (fun _ _ _ _=>rfl),⟨fun r sc' hr => ?_,fun r r' b hr dS e1 e2 => ?_⟩,fun r hr hs hg => ?_,fun r b hr hs fG => ?_,h.ib,h.ii,h.aG,h.size,h.defers⟩
 ·rw[aT.lj tU] at hr;cases hbq:Nat.beq d r with
  |true =>
   have:d=r:=afB hbq;subst this;simp only[hbq,cond_true] at hr;injection hr with hr;subst hr
   exact⟨pk.mono rfl (fun _ _=>rfl) (fun _ _=>rfl) hL2 (fun _ h=>h) (fun _ _ _=>rfl) (fun _ _ _ _=>rfl),fun b fG=>⟨(hb b fG).1,(hb b fG).2.1⟩⟩
  |false =>
   simp only[hbq,cond_false] at hr;have zH:bK s.aK r:=by unfold bK;rw[hr];rfl
   obtain⟨g1,g2⟩:=h.aK.1 r sc' hr;exact⟨g1.mono (EB r zH) (fun _ _=>rfl) EB hL (fun _ h=>h) (fun _ _ _=>rfl) (fun _ _ _ _=>rfl),fun b fG=>g2 b (by rw[←EB r zH];exact fG)⟩
 ·rcases(dY tU).1 hr with h1|h1
  ·rcases(dY tU).1 dS with h2|h2
   ·rw[h1,h2]
   ·rw[h1] at e1;rw[EB r' h2] at e2;exact absurd e2 ((hb b e1).2.2.2 r' h2)
  ·rcases(dY tU).1 dS with h2|h2
   ·rw[h2] at e2;rw[EB r h1] at e1;exact absurd e1 ((hb b e2).2.2.2 r h1)
   ·rw[EB r h1] at e1;rw[EB r' h2] at e2;exact h.aK.2 r r' b h1 h2 e1 e2
 ·rcases(dY tU).1 hr with rfl|hr
  ·exact absurd hs hn
  ·rw[EB r hr];exact h.par r hr hs hg
 ·rcases(dY tU).1 hr with rfl|hr
  ·exact(hb b fG).2.2.1
  ·rw[EB r hr] at fG;exact h.new r b hr hs fG
end
end Go.Proofs.YtcpnocgollpbhaaGreatDoor.Sym
