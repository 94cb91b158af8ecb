/- The comparison of algebraic numbers is a total order that agrees with the comparison with fractions. The law AlgebraicOrder returns true for every input, with the tables of numerals of the Go library that the row lists as they are laid. -/
import Derived.Test.YtllmkadmohkbfaaGreatDoorYSymI
import Derived.Laws.AppendOwn
namespace Go.Proofs.YtllmkadmohkbfaaGreatDoor.Sym
open Go Go.RowKit
theorem gz{a b:Nat}(h:a≠b):Nat.beq a b=false:=by
 cases hb:Nat.beq a b with
 |false=>rfl
 |true=>exact absurd (Nat.eq_of_beq_eq_true hb) h
abbrev Env:=List (Nat×EV)
def Env.get:Env→Nat→Option EV
 |[],_=>none
 |(t',e)::r,t=>bif Nat.beq t' t then some e else Env.get r t
structure St where
 env:Env
 aG:aS
def Cz:Value→Option PV
 |.bool b=>some (.bool b)
 |.int k n=>some (.int k n)
 |.string s=>some (.str s)
 |.nilIface=>some .az
 |.slice none 0 0=>some (.list [])
 |_=>none
theorem FV{v:Value}{p:PV}(h:Cz v=some p)(I:Nat→Prop)(w:World):Rd I w p v:=by
 unfold Cz at h
 split at h<;>first|(cases h;done)|(injection h with h;subst h)
 ·exact .bool _
 ·exact .int _ _
 ·exact .str _
 ·exact .az
 ·exact .nil _ _
def cZ(env:Env):Operand→Option EV
 |.tmp t=>env.get t
 |.const v=>match Cz v with
  |some p=>some (.pv p)
  |none=>none
 |.func f=>some (.pv (.fn f))
 |.global _=>none
def bM(s:aS)(r:Nat):Prop:=(s.get r).isSome=true
theorem aS.get_nil(x:Nat):aS.get [] x=none:=by
 rcases DT x with h|rfl|⟨j,rfl⟩
 ·rw[aS.ke h];rfl
 ·rfl
 ·rw[aS.kK];rfl
theorem pZ{x:Nat} : ¬bM [] x:=fun h=>by unfold bM at h;rw[aS.get_nil] at h;cases h
def uI(β:Nat→Option Nat)(I:Nat→Prop)(w:World)(aG:aS):Prop :=
 (∀r sc,aG.get r=some sc→RB β (bM aG) I w r sc.qR∧∀b,β r=some b→b<w.heap.size∧¬I b) ∧
 ∀r r' b,bM aG r→bM aG r'→β r=some b→β r'=some b→r=r'
structure Ctx where
 w0:World
 I0:Nat→Prop
 sin:aS
 β0:Nat→Option Nat
 n:Nat
 small:n≤999999
def Ctx.M(Γ:Ctx)(b:Nat):Prop:=∃r,bM Γ.sin r∧Γ.β0 r=some b
structure kx (M:Nat→Prop) (w w':World):Prop where
 os:w'.os=w.os
 tape:w'.tape=w.tape
 output:w'.output=w.output
 size:w.heap.size≤w'.heap.size
 block:∀k,k<w.heap.size→¬M k→w'.heap[k]? = w.heap[k]?
 shape:∀k,k<w.heap.size→w'.shape? k=w.shape? k
 drawn:Tg→w.drawn≤w'.drawn
theorem kx.refl(M:Nat→Prop)(w:World):kx M w w:=⟨rfl,rfl,rfl,Nat.le_refl _,fun _ _ _=>rfl,fun _ _=>rfl,fun _=>Nat.le_refl _⟩
theorem kx.trans{M M':Nat→Prop}{a b c:World}(h:kx M a b)(k:kx M' b c)(hM:∀x,x<a.heap.size→M' x→M x):kx M a c :=
 ⟨k.os.trans h.os,k.tape.trans h.tape,k.output.trans h.output,Nat.le_trans h.size k.size,
  fun i hi hm=>(k.block i (Nat.lt_of_lt_of_le hi h.size) (fun Tu=>hm (hM i hi Tu))).trans (h.block i hi hm),
  fun i hi=>(k.shape i (Nat.lt_of_lt_of_le hi h.size)).trans (h.shape i hi),fun s=>Nat.le_trans (h.drawn s) (k.drawn s)⟩
theorem kx.D4{M:Nat→Prop}{w w':World}(h:AY w.heap.size w w'):kx M w w' :=
 ⟨h.os,h.tape,h.output,h.size,fun k hk _=>h.block k hk,fun k hk=>pQ (h.block k hk),h.drawn⟩
def gv(x:Nat):Prop:=200000≤x
def Ir(sin:aS)(β:Nat→Option Nat)(b:Nat):Prop:=∃x,gv x∧bM sin x∧β x=some b
def Ctx.Nw(Γ:Ctx)(b:Nat):Prop:=Γ.w0.heap.size≤b∨Ir Γ.sin Γ.β0 b
theorem Ctx.Nw.m{Γ:Ctx}{b:Nat}(h:Γ.Nw b)(hb:b<Γ.w0.heap.size):Γ.M b:=by
 rcases h with h|⟨x,_,h1,h2⟩
 ·omega
 ·exact⟨x,h1,h2⟩
structure dh (Γ:Ctx) (s:St) (a:Act) (w:World) (β:Nat→Option Nat) (I:Nat→Prop):Prop where
 env:∀t e,s.env.get t=some e→RE β (bM s.aG) I w e (a.tmps.getD t undef)
 aG:uI β I w s.aG
 par:∀r,bM s.aG r→bM Γ.sin r→¬gv r→β r=Γ.β0 r
 new:∀r b,bM s.aG r→(¬bM Γ.sin r∨gv r)→β r=some b→Γ.Nw b
 ib:∀b,I b→b<w.heap.size
 ii:∀b,I b→Γ.I0 b∨fresh Γ.w0 w b∨Ir Γ.sin Γ.β0 b
 aH:kx Γ.M Γ.w0 w
 size:a.tmps.size=Γ.n
 defers:a.defers=[]
def Rel(Γ:Ctx)(s:St)(a:Act)(w:World):Prop:=∃β I,dh Γ s a w β I
theorem Ms{a:Act}{d:Nat}{v:Value}(hd:d<a.tmps.size)(t:Nat):(a.put (some d) v).tmps.getD t undef=if t=d then v else a.tmps.getD t undef:=by
 show(a.tmps.setIfInBounds d v).getD t undef=_
 simp only[Array.getD_eq_getD_getElem?,Array.getElem?_setIfInBounds]
 by_cases h:d=t
 ·subst h;simp[hd]
 ·rw[if_neg h,if_neg (fun e=>h e.symm)]
theorem JB(a:Act)(d:Option Tmp)(v:Value):(a.put d v).tmps.size=a.tmps.size:=by
 cases d<;>simp[Act.put]
theorem put_defers(a:Act)(d:Option Tmp)(v:Value):(a.put d v).defers=a.defers:=by
 cases d<;>rfl
section
variable {Γ:Ctx} {s:St} {a:Act} {w:World} {β:Nat→Option Nat} {I:Nat→Prop}
theorem dh.lb(h:dh Γ s a w β I):∀r b,bM s.aG r→β r=some b→b<w.heap.size:=by
 intro r b hr hb
 obtain⟨sc,nY⟩:=Option.isSome_iff_exists.1 hr
 exact((h.aG.1 r sc nY).2 b hb).1
theorem dh.DN(h:dh Γ s a w β I)(x:Operand)(e:EV)(he:Sym.cZ s.env x=some e):RE β (bM s.aG) I w e (a.eval x):=by
 cases x with
 |tmp t=>exact h.env t e he
 |const v =>
  simp only[Sym.cZ] at he
  split at he
  ·rename_i p hp
   injection he with he;subst he
   exact FV hp I w
  ·cases he
 |func f=>injection he with he;subst he;exact Rd.fn f
 |global g=>cases he
theorem dh.pre(h:dh Γ s a w β I):xR a w β (bM s.aG) I s.aG (cZ s.env) :=
 ⟨fun x e he=>dh.DN h x e he,fun r sc hr _=>(h.aG.1 r sc hr).1,h.lb,h.ib⟩
theorem dh.grow(h:dh Γ s a w β I){w':World}{I':Nat→Prop}(hb:AY w.heap.size w w')(h1:∀b,I b→I' b)(h2:∀b,I' b→I b∨fresh w w' b):dh Γ s a w' β I':=by
 have hw:∀b o,I b→w'.cell? ⟨b,o,none⟩=w.cell? ⟨b,o,none⟩:=fun b o hI=>gy (hb.block b (h.ib b hI)) o
 have hs:∀r b,bM s.aG r→β r=some b→w'.shape? b=w.shape? b:=fun r b hr mS=>pQ (hb.block b (h.lb r b hr mS))
 refine⟨fun t e he=>(h.env t e he).mono (fun _ _=>rfl) (fun _ h=>h) h1 hw hs,⟨fun r sc hr => ?_,h.aG.2⟩,h.par,h.new,fun b hI => ?_,fun b hI => ?_,h.aH.trans (kx.D4 hb) (fun _ _ h=>h),h.size,h.defers⟩
 ·obtain⟨g1,g2⟩:=h.aG.1 r sc hr
  have hd:bM s.aG r:=by unfold bM;rw[hr];rfl
  refine⟨g1.mono rfl (fun b mS=>hb.block b (h.lb r b hd mS)) (fun _ _=>rfl) (fun _ h=>h) h1 hw hs,fun b mS=>⟨Nat.lt_of_lt_of_le (g2 b mS).1 hb.size,fun hI => ?_⟩⟩
  rcases h2 b hI with hI|hf
  ·exact(g2 b mS).2 hI
  ·have:=(g2 b mS).1;have:=hf.1;omega
 ·rcases h2 b hI with hI|hf
  ·exact Nat.lt_of_lt_of_le (h.ib b hI) hb.size
  ·exact hf.2
 ·rcases h2 b hI with hI|hf
  ·rcases h.ii b hI with h3|h3
   ·exact .inl h3
   ·exact .inr (h3.imp (fun h3=>⟨h3.1,Nat.lt_of_lt_of_le h3.2 hb.size⟩) id)
  ·exact .inr (.inl ⟨Nat.le_trans h.aH.size hf.1,hf.2⟩)
def nm(env:Env)(dst:Option Nat)(e:EV):Env:=match dst with
 |none=>env
 |some d=>(d,e)::env
theorem dh.put(h:dh Γ s a w β I){dst:Option Nat}{e:EV}{v:Value}(hd:∀d,dst=some d→d<Γ.n)(he:RE β (bM s.aG) I w e v) :
  dh Γ ⟨nm s.env dst e,s.aG⟩ (a.put dst v) w β I:=by
 refine⟨fun t e' gn => ?_,h.aG,h.par,h.new,h.ib,h.ii,h.aH,by rw[JB];exact h.size,by rw[put_defers];exact h.defers⟩
 cases dst with
 |none=>exact h.env t e' gn
 |some d =>
  rw[Ms (by rw[h.size];exact hd d rfl)]
  simp only[nm,Env.get] at gn
  by_cases ht:t=d
  ·subst ht
   simp only[Nat.beq_refl,cond_true] at gn
   injection gn with gn;subst gn
   simpa using he
  ·have:Nat.beq d t=false:=gz (Ne.symm ht)
   simp only[this,cond_false] at gn
   rw[if_neg ht]
   exact h.env t e' gn
def kf(r:Nat):EV→EV
 |.ptr r' off=>bif Nat.beq r' r then .dead else .ptr r' off
 |.row r' off len sz=>bif Nat.beq r' r then .dead else .row r' off len sz
 |.n7 r' off len sz ps=>bif Nat.beq r' r then .dead else .n7 r' off len sz ps
 |.AT f r'=>bif Nat.beq r' r then .dead else .AT f r'
 |.pg j len sz=>bif Nat.blt r 1000000 then .pg j len sz else bif Nat.beq (hc j) r then .dead else .pg j len sz
 |.nj j off=>bif Nat.blt r 1000000 then .nj j off else bif Nat.beq (hc j) r then .dead else .nj j off
 |e=>e
def lO(r:Nat):SC→SC
 |.lit cs => .lit (cs.map (kf r))
 |.pure ps => .pure ps
 |.heap xs=>bif Nat.blt r 1000000 then .heap xs else .heap (xs.set (r-1000000) none)
 |.FL hs sz=>bif Nat.blt r 1000000 then .FL hs sz else .lit ((hs.map fun x=>EV.pg x.1 x.2 sz).map (kf r))
def di(r:Nat):aS→aS
 |[]=>[]
 |(r',c)::s=>bif Nat.beq r' r&&Nat.blt r 999999 then di r s else (r',lO r c)::di r s
def uJ(r:Nat):Env→Env
 |[]=>[]
 |(t,e)::s=>(t,kf r e)::uJ r s
def kill(r:Nat)(s:St):St:=⟨uJ r s.env,di r s.aG⟩
theorem kL(r:Nat):∀(s:aS) (x:Nat),(di r s).dR x=if x=r∧r<999999 then none else (s.dR x).map (lO r)
 |[],x=>by simp[di,aS.dR]
 |(r',c)::s,x=>by
  simp only[di]
  by_cases hr:r<999999
  ·have dG:Nat.blt r 999999=true:=Nat.ble_eq_true_of_le hr
   simp only[dG,Bool.and_true,hr,and_true]
   cases hb:Nat.beq r' r with
   |true =>
    have:r'=r:=Nat.eq_of_beq_eq_true hb
    subst this
    simp only[cond_true,kL r' s x,aS.dR,hr,and_true]
    by_cases hx:x=r'
    ·simp[hx]
    ·have h2:Nat.beq r' x=false:=gz (Ne.symm hx)
     simp[hx,h2]
   |false =>
    simp only[cond_false,aS.dR,kL r s x,hr,and_true]
    cases h2:Nat.beq r' x with
    |true =>
     have:r'=x:=Nat.eq_of_beq_eq_true h2
     subst this
     have df:r'≠r:=by intro e;subst e;simp at hb
     simp[df]
    |false=>simp
  ·have dG:Nat.blt r 999999=false:=Bool.eq_false_iff.2 (fun h=>hr (Nat.le_of_ble_eq_true h))
   simp only[dG,Bool.and_false,cond_false,aS.dR,kL r s x,hr,and_false,if_false]
   cases h2:Nat.beq r' x<;>simp
theorem FW(r:Nat)(s:aS):(di r s).hp=if r<1000000 then s.hp else s.hp.set (r-1000000) none:=by
 unfold aS.hp
 rw[kL,if_neg (fun h=>by omega)]
 cases hg:s.dR 999999 with
 |none=>simp
 |some sc =>
  cases sc with
  |lit cs=>simp[lO]
  |pure ps=>simp[lO]
  |FL hs sz=>simp only[Option.map_some,lO];cases Nat.blt r 1000000<;>simp
  |heap xs =>
   simp only[Option.map_some,lO]
   by_cases hr:r<1000000
   ·rw[show Nat.blt r 1000000=true from Nat.ble_eq_true_of_le hr]
    simp[hr]
   ·rw[show Nat.blt r 1000000=false from Bool.eq_false_iff.2 (fun h=>hr (Nat.le_of_ble_eq_true h))]
    simp[hr]
theorem xb(r:Nat)(s:aS)(x:Nat):(di r s).get x=if x=r then none else (s.get x).map (lO r):=by
 rcases DT x with h|rfl|⟨j,rfl⟩
 ·rw[aS.ke h,aS.ke h,kL]
  by_cases hx:x=r
  ·subst hx;simp[h]
  ·simp[hx]
 ·rw[aS.gr,aS.gr];simp
 ·rw[aS.kK,aS.kK,FW]
  unfold pV hc
  by_cases hr:r<1000000
  ·rw[if_pos hr,if_neg (by omega)]
   split<;>simp[lO]
  ·rw[if_neg hr]
   by_cases hx:1000000+j=r
   ·rw[if_pos hx,←hx,Nat.add_sub_cancel_left]
    by_cases hl:j<s.hp.length
    ·simp[hl]
    ·rw[List.set_eq_of_length_le (by omega),List.getElem?_eq_none (by omega)]
   ·rw[if_neg hx,List.getElem?_set_ne (by omega)]
    split<;>simp[lO]
theorem xc(r:Nat):∀(s:Env) (t:Nat),(uJ r s).get t=(s.get t).map (kf r)
 |[],t=>rfl
 |(t',e)::s,t=>by
  simp only[uJ,Env.get]
  cases Nat.beq t' t<;>simp[xc r s t]
theorem Bx{r:Nat}{L L':Nat→Prop}{e:EV}{v:Value}(h:RE β L I w e v)(hL:∀x,L x→x≠r→L' x):RE β L' I w (kf r e) v:=by
 cases e with
 |pv p=>exact h
 |n6 c=>exact h
 |dead=>exact h
 |ptr r' off =>
  simp only[kf]
  cases hb:Nat.beq r' r with
  |true=>exact True.intro
  |false=>exact⟨hL _ h.1 (by intro e;subst e;simp at hb),h.2⟩
 |AT f r' =>
  simp only[kf]
  cases hb:Nat.beq r' r with
  |true=>exact True.intro
  |false=>exact⟨hL _ h.1 (by intro e;subst e;simp at hb),h.2⟩
 |pg j len sz =>
  simp only[kf]
  cases pj:Nat.blt r 1000000 with
  |true=>exact⟨hL _ h.1 (by have:=Nat.le_of_ble_eq_true pj;unfold hc;omega),h.2⟩
  |false =>
   simp only[cond_false]
   cases hb:Nat.beq (hc j) r with
   |true=>exact True.intro
   |false=>exact⟨hL _ h.1 (by intro e;rw[e] at hb;simp at hb),h.2⟩
 |nj j off =>
  simp only[kf]
  cases pj:Nat.blt r 1000000 with
  |true=>exact⟨hL _ h.1 (by have:=Nat.le_of_ble_eq_true pj;unfold hc;omega),h.2⟩
  |false =>
   simp only[cond_false]
   cases hb:Nat.beq (hc j) r with
   |true=>exact True.intro
   |false=>exact⟨hL _ h.1 (by intro e;rw[e] at hb;simp at hb),h.2⟩
 |row r' off len sz =>
  simp only[kf]
  cases hb:Nat.beq r' r with
  |true=>exact True.intro
  |false=>exact⟨hL _ h.1 (by intro e;subst e;simp at hb),h.2⟩
 |n7 r' off len sz ps =>
  simp only[kf]
  cases hb:Nat.beq r' r with
  |true=>exact True.intro
  |false =>
   obtain⟨us,g1,g2,⟨u,g3,g4,SL⟩,g5⟩:=h
   exact⟨us,g1,g2,⟨u,g3,hL _ g4 (by intro e;subst e;simp at hb),SL⟩,g5⟩
theorem FX(r:Nat)(sc:SC):(lO r sc).qR=sc.qR.map (kf r):=by
 cases sc with
 |lit cs=>rfl
 |pure ps=>simp[lO,SC.qR,kf]
 |heap xs=>unfold lO;cases Nat.blt r 1000000<;>rfl
 |FL hs sz =>
  unfold lO
  cases hb:Nat.blt r 1000000 with
  |false=>rfl
  |true=>simp[SC.qR,kf,hb]
theorem OI{r x:Nat}{L L':Nat→Prop}{cells:List EV}(h:RB β L I w x cells)(hL:∀x,L x→x≠r→L' x):RB β L' I w x (cells.map (kf r)):=by
 rcases h with ⟨h1,h2⟩|⟨b,arr,el,hb,h1,h2⟩
 ·exact .inl ⟨h1,by rw[h2];rfl⟩
 ·refine .inr ⟨b,arr,el,hb,h1,fun j e he => ?_⟩
  rw[List.getElem?_map] at he
  cases hc:cells[j]? with
  |none=>simp[hc] at he
  |some c =>
   simp[hc] at he
   subst he
   obtain⟨u,g1,g2,g3⟩:=h2 j c hc
   exact⟨u,g1,g2,Bx g3 hL⟩
theorem ei{r x:Nat}{s:aS} : bM (di r s) x↔bM s x∧x≠r:=by
 unfold bM
 rw[xb]
 by_cases h:x=r
 ·simp[h]
 ·simp[h]
theorem dh.kill(h:dh Γ s a w β I)(r:Nat):dh Γ (kill r s) a w β I:=by
 have hL:∀x,bM s.aG x→x≠r→bM (di r s.aG) x:=fun x hx df=>ei.2 ⟨hx,df⟩
 refine⟨fun t e he => ?_,⟨fun x sc hx => ?_,fun x y b hx hy=>h.aG.2 x y b (ei.1 hx).1 (ei.1 hy).1⟩,fun x hx=>h.par x (ei.1 hx).1,fun x b hx=>h.new x b (ei.1 hx).1,h.ib,h.ii,h.aH,h.size,h.defers⟩
 ·have he:(uJ r s.env).get t=some e:=he
  rw[xc] at he
  cases hg:s.env.get t with
  |none=>simp[hg] at he
  |some e' =>
   simp[hg] at he
   subst he
   exact Bx (h.env t e' hg) hL
 ·have hx:(di r s.aG).get x=some sc:=hx
  rw[xb] at hx
  by_cases A2:x=r
  ·simp[A2] at hx
  ·rw[if_neg A2] at hx
   cases hg:s.aG.get x with
   |none=>simp[hg] at hx
   |some sc' =>
    simp[hg] at hx
    subst hx
    obtain⟨g1,g2⟩:=h.aG.1 x sc' hg
    exact⟨by rw[FX];exact OI g1 hL,g2⟩
theorem aS.jL{r x:Nat}{sc:SC}{s:aS}(hr:r<999999):aS.get ((r,sc)::s) x=bif Nat.beq r x then some sc else s.get x:=by
 rcases DT x with h|rfl|⟨j,rfl⟩
 ·rw[aS.ke h,aS.ke h];rfl
 ·rw[aS.gr,aS.gr,gz (by omega)];rfl
 ·rw[aS.kK,aS.kK,gz (by unfold hc;omega)]
  unfold aS.hp
  simp only[aS.dR,gz (show r≠999999 by omega),cond_false]
theorem dB{r x:Nat}{sc:SC}{s:aS}(hr:r<999999):bM ((r,sc)::s) x↔x=r∨bM s x:=by
 unfold bM
 rw[aS.jL hr]
 cases hb:Nat.beq r x with
 |true =>
  have:r=x:=Nat.eq_of_beq_eq_true hb
  simp[this]
 |false =>
  have:x≠r:=by intro e;subst e;simp at hb
  simp[this]
theorem dh.site(h:dh Γ s a w β I){d:Nat}{sc:SC}(q7:d<999999)(hd:¬bM s.aG d)(hn:¬bM Γ.sin d){β':Nat→Option Nat}(hβ:∀r,r≠d→β' r=β r)
  (hb:∀b,β' d=some b→b<w.heap.size∧¬I b∧Γ.Nw b∧∀r,bM s.aG r→β r≠some b) (nY:RB β' (fun r=>bM s.aG r∨r=d) I w d sc.qR) :
  dh Γ ⟨s.env,(d,sc)::s.aG⟩ a w β' I:=by
 have A3:∀r,bM s.aG r→β' r=β r:=fun r hr=>hβ r (fun e=>hd (e ▸ hr))
 have hL:∀r,bM s.aG r→bM ((d,sc)::s.aG) r:=fun r hr=>(dB q7).2 (.inr hr)
 have W7:∀r,(bM s.aG r∨r=d)→bM ((d,sc)::s.aG) r:=fun r hr=>(dB q7).2 (hr.elim .inr .inl)
 refine⟨fun t e he=>(h.env t e he).mono A3 hL (fun _ h=>h) (fun _ _ _=>rfl) (fun _ _ _ _=>rfl),⟨fun r sc' hr => ?_,fun r r' b hr dG e1 e2 => ?_⟩,fun r hr hs hg => ?_,fun r b hr hs eN => ?_,h.ib,h.ii,h.aH,h.size,h.defers⟩
 ·rw[aS.jL q7] at hr
  cases hbq:Nat.beq d r with
  |true =>
   have:d=r:=Nat.eq_of_beq_eq_true hbq
   subst this
   simp only[hbq,cond_true] at hr
   injection hr with hr;subst hr
   exact⟨nY.mono rfl (fun _ _=>rfl) (fun _ _=>rfl) W7 (fun _ h=>h) (fun _ _ _=>rfl) (fun _ _ _ _=>rfl),fun b eN=>⟨(hb b eN).1,(hb b eN).2.1⟩⟩
  |false =>
   simp only[hbq,cond_false] at hr
   have vY:bM s.aG r:=by unfold bM;rw[hr];rfl
   obtain⟨g1,g2⟩:=h.aG.1 r sc' hr
   exact⟨g1.mono (A3 r vY) (fun _ _=>rfl) A3 hL (fun _ h=>h) (fun _ _ _=>rfl) (fun _ _ _ _=>rfl),fun b eN=>g2 b (by rw[←A3 r vY];exact eN)⟩
 ·rcases(dB q7).1 hr with h1|h1
  ·rcases(dB q7).1 dG with h2|h2
   ·rw[h1,h2]
   ·rw[h1] at e1
    rw[A3 r' h2] at e2
    exact absurd e2 ((hb b e1).2.2.2 r' h2)
  ·rcases(dB q7).1 dG with h2|h2
   ·rw[h2] at e2
    rw[A3 r h1] at e1
    exact absurd e1 ((hb b e2).2.2.2 r h1)
   ·rw[A3 r h1] at e1
    rw[A3 r' h2] at e2
    exact h.aG.2 r r' b h1 h2 e1 e2
 ·rcases(dB q7).1 hr with rfl|hr
  ·exact absurd hs hn
  ·rw[A3 r hr];exact h.par r hr hs hg
 ·rcases(dB q7).1 hr with rfl|hr
  ·exact(hb b eN).2.2.1
  ·rw[A3 r hr] at eN;exact h.new r b hr hs eN
end
end Go.Proofs.YtllmkadmohkbfaaGreatDoor.Sym
