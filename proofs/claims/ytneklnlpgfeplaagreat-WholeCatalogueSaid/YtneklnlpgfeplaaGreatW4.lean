/- Lemmas for the statements of this seat. -/
import Derived.Test.YtneklnlpgfeplaaGreatW3
namespace Go.Proofs.YtneklnlpgfeplaaGreat.Sym
open Go Go.RowKit
section
variable {P:Program} {T:ja} {a:Act} {w:World} {β:Nat→Option Nat} {L I:Nat→Prop} {aP:aY} {ρ:Operand→Option EV} {h:Hint} {res:nX}
structure xZ (a:Act) (w:World) (β:Nat→Option Nat) (L I:Nat→Prop) (aP:aY) (ρ:Operand→Option EV):Prop where
 ev:∀x e,ρ x=some e→RE β L I w e (a.eval x)
 st:∀r sc,aP.get r=some sc→L r→RB β L I w r sc.oe
 lb:∀r b,L r→β r=some b→b<w.heap.size
 ib:∀b,I b→b<w.heap.size
def dw(P:Program)(o:Oper)(a:Act)(β:Nat→Option Nat)(L I:Nat→Prop)(w:World)(res:nX):Prop :=
 ∃v w',(execOp a.eval o).run P w = .ok (.value v) w'∧vf β L I w o.dst res v w'
theorem dw.pure{o:Oper}{e:EV}{v:Value}(h:(execOp a.eval o).run P w = .ok (.value v) w)(he:RE β L I w e v){ob:List Prop} : dw P o a β L I w ⟨e,none,ob⟩ :=
 ⟨v,w,h,vf.same he⟩
theorem bO.oe{cs:List PV}{us:List Value}(h:bO I w cs us)(j:Nat)(e:EV)(he:(cs.map EV.pv)[j]? = some e):∃u,us[j]? = some u∧u.oneCell'=true∧RE β L I w e u:=by
 rw[abR] at he;cases hc:cs[j]? with
 |none=>simp[hc] at he
 |some c =>
  simp[hc] at he;subst he;have hj:j<us.length:=by rw[←h.1];exact(abL.1 hc).1
  have hu:us[j]? = some us[j]:=abJ hj;obtain⟨h1,h2⟩:=h.2 j c _ hc hu;exact⟨_,hu,h2.jt h1,h2⟩
theorem Oa.ev{β:Nat→Option Nat}{L I:Nat→Prop}{w:World}{f:FE}{u:Value}(h:Oa β L I w f u):u.oneCell'=true∧RE β L I w f.ev u:=by
 cases f with
 |pv p=>exact⟨h.2.jt h.1,h.2⟩
 |row r off len sz =>refine⟨?_,h⟩;obtain⟨_,⟨_,_,rfl⟩|⟨b,c,_,rfl,_⟩⟩:=h<;>rfl
 |ig j len sz =>refine⟨?_,h⟩;obtain⟨_,⟨_,_,rfl⟩|⟨b,c,_,rfl,_⟩⟩:=h<;>rfl
theorem mX{e:EV}{cs:List EV}{v:Value}(he:RE β L I w e v)(h:mW e=some cs)(j:Nat)(c:EV)(hc:cs[j]? = some c) :
  ∃u,v.cells[j]? = some u∧u.oneCell'=true∧RE β L I w c u:=by
 cases e with
 |pv p =>
  unfold mW at h;cases ht:p.sJ with
  |true=>simp[ht] at h
  |false =>simp[ht] at h;subst h;have hr:bO I w p.cells v.cells.toList:=Rd.cells he (fun vs e=>by subst e;simp[PV.sJ] at ht);obtain⟨u,h1,h2,h3⟩:=hr.oe (β:=β) (L:=L) j c hc;exact⟨u,by simpa using h1,h2,h3⟩
 |ptr r off =>
  injection h with h;subst h
  cases j with
  |succ j=>simp at hc
  |zero =>simp at hc;subst hc;obtain⟨h1,b,hb,rfl⟩:=he;exact⟨_,rfl,rfl,h1,b,hb,rfl⟩
 |row r off len sz =>
  injection h with h;subst h
  cases j with
  |succ j=>simp at hc
  |zero =>
   simp at hc;subst hc;have gi:=he;obtain⟨h1,⟨_,_,rfl⟩|⟨b,c,_,rfl,_⟩⟩:=he
   ·exact⟨_,rfl,rfl,gi⟩
   ·exact⟨_,rfl,rfl,gi⟩
 |ig r len sz =>
  injection h with h;subst h
  cases j with
  |succ j=>simp at hc
  |zero =>
   simp at hc;subst hc;have gi:=he;obtain⟨h1,⟨_,_,rfl⟩|⟨b,c,_,rfl,_⟩⟩:=he
   ·exact⟨_,rfl,rfl,gi⟩
   ·exact⟨_,rfl,rfl,gi⟩
 |mE r off =>
  injection h with h;subst h
  cases j with
  |succ j=>simp at hc
  |zero =>simp at hc;subst hc;obtain⟨h1,b,hb,rfl⟩:=he;exact⟨_,rfl,rfl,h1,b,hb,rfl⟩
 |mC Ez =>
  injection h with h;subst h
  cases j with
  |succ j=>simp at hc
  |zero =>simp at hc;subst hc;have gi:=he;obtain⟨b,o,rfl,_⟩:=he;exact⟨_,rfl,rfl,gi⟩
 |dead=>cases h
 |jA _ _ _ _ _=>cases h
 |mD _ _=>cases h
 |iu _ _ _=>cases h
 |cM f bs rs =>
  injection h with h;subst h
  cases j with
  |succ j=>simp at hc
  |zero =>simp at hc;subst hc;have gi:=he;obtain⟨_,ab,ac,_,_,rfl⟩:=he;exact⟨_,rfl,rfl,gi⟩
 |lz fs =>
  injection h with h;subst h
  obtain⟨us,rfl,g2,g3⟩:=he;rw[abR] at hc;obtain⟨f,hf,rfl⟩:=acP.1 hc;have hj:j<us.size:=by have:=(abL.1 hf).1;omega
  have hu:us[j]? = some us[j]:=acn hj;exact⟨us[j],hu,(g3 j f _ hf hu).ev⟩
theorem oG:∀{es:List EV} {fs:List FE},kr es=some fs→es=fs.map FE.ev
 |[],fs,h=>by injection h with h;subst h;rfl
 |.pv p::r,fs,h=>by
  unfold kr at h;cases hr:kr r with
  |none=>simp[hr] at h
  |some qs =>simp[hr] at h;subst h;simp[oG hr,FE.ev]
 |.row .. :: r,fs,h=>by
  unfold kr at h;cases hr:kr r with
  |none=>simp[hr] at h
  |some qs =>simp[hr] at h;subst h;simp[oG hr,FE.ev]
 |.ig .. :: r,fs,h=>by
  unfold kr at h;cases hr:kr r with
  |none=>simp[hr] at h
  |some qs =>simp[hr] at h;subst h;simp[oG hr,FE.ev]
 |.ptr .. :: _,fs,h=>by simp[kr] at h
 |.mC .. :: _,fs,h=>by simp[kr] at h
 |.dead::_,fs,h=>by simp[kr] at h
 |.jA .. :: _,fs,h=>by simp[kr] at h
 |.mD .. :: _,fs,h=>by simp[kr] at h
 |.mE .. :: _,fs,h=>by simp[kr] at h
 |.lz .. :: _,fs,h=>by simp[kr] at h
 |.iu .. :: _,fs,h=>by simp[kr] at h
 |.cM .. :: _,fs,h=>by simp[kr] at h
theorem zP:∀{es:List EV} {ps:List PV},nY es=some ps→es=ps.map EV.pv
 |[],ps,h=>by injection h with h;subst h;rfl
 |.pv p::r,ps,h=>by
  unfold nY at h;cases hr:nY r with
  |none=>simp[hr] at h
  |some qs =>simp[hr] at h;subst h;simp[zP hr]
 |.ptr .. :: _,ps,h=>by simp[nY] at h
 |.row .. :: _,ps,h=>by simp[nY] at h
 |.mC .. :: _,ps,h=>by simp[nY] at h
 |.dead::_,ps,h=>by simp[nY] at h
 |.jA .. :: _,ps,h=>by simp[nY] at h
 |.mD .. :: _,ps,h=>by simp[nY] at h
 |.ig .. :: _,ps,h=>by simp[nY] at h
 |.mE .. :: _,ps,h=>by simp[nY] at h
 |.lz .. :: _,ps,h=>by simp[nY] at h
 |.iu .. :: _,ps,h=>by simp[nY] at h
 |.cM .. :: _,ps,h=>by simp[nY] at h
theorem gw(b o n:Nat):(⟨b,o,none⟩:Addr).add n=⟨b,o+n,none⟩:=by unfold Addr.add;split<;>simp_all
theorem r6{t:TypeId}{d:TD}(hd:od P t d)(ha:d.agg=true){b o:Nat}{ps:List PV}(hl:ps.length=d.size)
  (hc:∀(j:Nat) x,ps[j]? = some x→x.one=true∧∃u,w.cell? ⟨b,o+j,none⟩=some u∧Rd I w x u) :
  ∃v,(loadVar t ⟨b,o,none⟩).run P w = .ok v w∧Rd I w (.agg ps) v:=by
 have key:∃us:List Value,us.length=ps.length∧(∀j v,us[j]? = some v→w.cell? (Addr.add ⟨b,o,none⟩ j)=some v)∧bO I w ps us:=by
  clear hl
  induction ps generalizing o with
  |nil=>exact⟨[],rfl,fun j v h=>by simp at h,rfl,fun j c u h=>by simp at h⟩
  |cons p r ih =>
   obtain⟨us,h1,h2,h3⟩:=ih (o:=o+1) (fun j x hx=>by have:=hc (j+1) x (by simpa using hx);rw[show o+1+j=o+(j+1) from by omega];exact this)
   obtain⟨hp,u,hu,hr⟩:=hc 0 p rfl;refine⟨u::us,by simp[h1],fun j v hv => ?_,by simp[h3.1],fun j c v O7 hv => ?_⟩
   ·cases j with
    |zero=>simp at hv;subst hv;rw[gw];exact hu
    |succ j =>have:=h2 j v (by simpa using hv);rw[gw] at this ⊢;rw[show o+(j+1)=o+1+j from by omega];exact this
   ·cases j with
    |zero=>simp at O7 hv;subst O7 hv;exact⟨hp,hr⟩
    |succ j=>exact h3.2 j c v (by simpa using O7) (by simpa using hv)
 obtain⟨us,h1,h2,h3⟩:=key;have JS:=run_loadCells_list (P:=P) w ⟨b,o,none⟩ us h2;refine⟨.agg us.toArray,?_,bO.agg (by simpa using h3)⟩;unfold loadVar;rw[abU,hd.xi w,abN,ha];simp only[if_true];rw[abU,hd.run_sizeOf w,abN,←hl,←h1,abU,JS,abN];rfl
theorem zQ{t:TypeId}{d:TD}(hd:od P t d)(ha:d.agg=true){b o:Nat}{fs:List FE}(hl:fs.length=d.size)
  (hc:∀(j:Nat) f,fs[j]? = some f→∃u,w.cell? ⟨b,o+j,none⟩=some u∧Oa β L I w f u) :
  ∃v,(loadVar t ⟨b,o,none⟩).run P w = .ok v w∧RE β L I w (.lz fs) v:=by
 have key:∃us:List Value,us.length=fs.length∧(∀j v,us[j]? = some v→w.cell? (Addr.add ⟨b,o,none⟩ j)=some v)∧∀(j:Nat) f u,fs[j]? = some f→us[j]? = some u→Oa β L I w f u:=by
  clear hl
  induction fs generalizing o with
  |nil=>exact⟨[],rfl,fun j v h=>by simp at h,fun j c u h=>by simp at h⟩
  |cons p r ih =>
   obtain⟨us,h1,h2,h3⟩:=ih (o:=o+1) (fun j x hx=>by have:=hc (j+1) x (by simpa using hx);rw[show o+1+j=o+(j+1) from by omega];exact this)
   obtain⟨u,hu,hr⟩:=hc 0 p rfl;refine⟨u::us,by simp[h1],fun j v hv => ?_,fun j c v O7 hv => ?_⟩
   ·cases j with
    |zero=>simp at hv;subst hv;rw[gw];exact hu
    |succ j =>have:=h2 j v (by simpa using hv);rw[gw] at this ⊢;rw[show o+(j+1)=o+1+j from by omega];exact this
   ·cases j with
    |zero=>simp at O7 hv;subst O7 hv;exact hr
    |succ j=>exact h3 j c v (by simpa using O7) (by simpa using hv)
 obtain⟨us,h1,h2,h3⟩:=key;have JS:=run_loadCells_list (P:=P) w ⟨b,o,none⟩ us h2;refine⟨.agg us.toArray,?_,us.toArray,rfl,by simpa using h1,fun j f u hf hu=>h3 j f u hf (by simpa using hu)⟩;unfold loadVar;rw[abU,hd.xi w,abN,ha];simp only[if_true];rw[abU,hd.run_sizeOf w,abN,←hl,←h1,abU,JS,abN];rfl
theorem nM{t:TypeId}{d:TD}(hd:od P t d)(ha:d.agg=false){b o:Nat}{u:Value}(hc:w.cell? ⟨b,o,none⟩=some u) :
  (loadVar t ⟨b,o,none⟩).run P w = .ok u w:=by
 unfold loadVar;rw[abU,hd.xi w,abN,ha];simp[hc]
theorem RB.cell{r b:Nat}{cells:List EV}(h:RB β L I w r cells)(hb:β r=some b)(j:Nat)(e:EV)(hj:cells[j]? = some e):∃u,w.cell? ⟨b,j,none⟩=some u∧u.oneCell'=true∧RE β L I w e u:=by
 rcases h with ⟨h1,h2⟩|⟨b',arr,el,fc,h1,h2⟩
 ·rw[h1] at hb;cases hb
 ·rw[fc] at hb;injection hb with hb;subst hb
  obtain⟨u,h3,h4,h5⟩:=h2 j e hj;exact⟨u,by simp[World.cell?,h1,h3],h4,h5⟩
theorem PV.kT{p:PV}{u:Value}(h:Rd I w p u)(ho:u.oneCell'=true):p.one=true:=by cases h<;>first|rfl|(simp [Value.oneCell'] at ho)
theorem Cr{t:TypeId}{d:TD}(hd:od P t d){r b off:Nat}{cells:List EV}(hb:RB β L I w r cells)(lA:β r=some b)(aJ:Dp d cells off h=some res)(cf:dW res.ob) :
  ∃v,(loadVar t ⟨b,off,none⟩).run P w = .ok v w∧RE β L I w res.val v∧res.new=none:=by
 unfold Dp at aJ;have HM:∀ps:List PV,d.agg=true→(cells.drop off).take d.size=ps.map EV.pv→ps.length=d.size→∃v,(loadVar t ⟨b,off,none⟩).run P w = .ok v w∧Rd I w (.agg ps) v:=by
  intro ps ha h1 h2;refine r6 hd ha h2 (fun j x hx => ?_);have hj:j<d.size:=by rw[←h2];exact(abL.1 hx).1
  have:cells[off+j]? = some (EV.pv x):=by
   have h3:((cells.drop off).take d.size)[j]? = some (EV.pv x):=by rw[h1,abR,hx];rfl
   rw[ack,ac7 hj,acq] at h3;exact h3
  obtain⟨u,h4,h5,h6⟩:=hb.cell lA _ _ this;exact⟨PV.kT h6 h5,u,h4,h6⟩
 have JT:∀fs:List FE,d.agg=true→(cells.drop off).take d.size=fs.map FE.ev→fs.length=d.size→∃v,(loadVar t ⟨b,off,none⟩).run P w = .ok v w∧RE β L I w (.lz fs) v:=by
  intro fs ha h1 hl;exact zQ (β:=β) (L:=L) (I:=I) (w:=w) (b:=b) (o:=off) hd ha hl (fun j f hf=>by
   have hj:j<d.size:=by rw[←hl];exact(abL.1 hf).1
   have:cells[off+j]? = some f.ev:=by
    have h3:((cells.drop off).take d.size)[j]? = some f.ev:=by rw[h1,abR,hf];rfl
    rw[ack,ac7 hj,acq] at h3;exact h3
   obtain⟨u,h4,h5,h6⟩:=hb.cell lA _ _ this;refine⟨u,h4,?_⟩;cases f with
   |pv p=>exact⟨PV.kT h6 h5,h6⟩
   |row r off len sz=>exact h6
   |ig j len sz=>exact h6)
 cases ha:d.agg with
 |true =>
  simp only[ha,cond_true] at aJ;split at aJ
  ·injection aJ with aJ;subst aJ
   obtain⟨v,h1,h2⟩:=HM _ ha cf.cons.1 cf.cons.2;exact⟨v,h1,h2,rfl⟩
  ·injection aJ with aJ;subst aJ
   obtain⟨v,h1,h2⟩:=JT _ ha cf.cons.1 cf.cons.2;exact⟨v,h1,h2,rfl⟩
  ·split at aJ
   ·rename_i ps lB;cases fc:Nat.beq ps.length d.size with
    |false=>simp[fc] at aJ
    |true =>
     simp only[fc,cond_true,fz] at aJ;injection aJ with aJ;subst aJ
     obtain⟨v,h1,h2⟩:=HM _ ha (zP lB) (abO fc);exact⟨v,h1,h2,rfl⟩
   ·split at aJ
    ·rename_i fs Rj;cases fc:Nat.beq fs.length d.size with
     |false=>simp[fc] at aJ
     |true =>
      simp only[fc,cond_true,fz] at aJ;injection aJ with aJ;subst aJ
      obtain⟨v,h1,h2⟩:=JT _ ha (oG Rj) (abO fc);exact⟨v,h1,h2,rfl⟩
    ·cases aJ
 |false =>
  simp only[ha,cond_false] at aJ;split at aJ
  ·injection aJ with aJ;subst aJ
   obtain⟨u,h1,h2,h3⟩:=hb.cell lA _ _ cf;exact⟨u,nM hd ha h1,h3,rfl⟩
  ·split at aJ
   ·rename_i e he;simp only[fz] at aJ;injection aJ with aJ;subst aJ
    obtain⟨u,h1,h2,h3⟩:=hb.cell lA _ _ he;exact⟨u,nM hd ha h1,h3,rfl⟩
   ·cases aJ
theorem mY(hρ:∀x e,ρ x=some e→RE β L I w e (a.eval x)):∀(l:List (Nat×Operand)) (ps:List (Nat×PV)),pG ρ l=some ps→vT I w ps (l.map fun (i,x)=>(i,a.eval x))
 |[],ps,h=>by injection h with h;subst h;trivial
 |(i,x)::r,ps,h=>by
  unfold pG at h;split at h
  ·rename_i p qs hx hr;injection h with h;subst h
   exact⟨rfl,hρ x _ hx,mY hρ r qs hr⟩
  ·cases h
theorem Dq{e:EV}{cs:List EV}{v:Value}(he:RE β L I w e v)(h:mW e=some cs):cs.length=v.cells.size:=by
 cases e with
 |pv p =>
  unfold mW at h;cases ht:p.sJ with
  |true=>simp[ht] at h
  |false =>
   simp only[ht,cond_false] at h;injection h with h;subst h
   have:=(Rd.cells he (fun vs e=>by subst e;simp[PV.sJ] at ht)).1;simpa using this
 |row r off len sz =>
  injection h with h;subst h
  obtain⟨_,⟨_,_,rfl⟩|⟨b,c,_,rfl,_⟩⟩:=he<;>rfl
 |ptr r off =>
  injection h with h;subst h
  obtain⟨_,b,_,rfl⟩:=he;rfl
 |mC Ez =>
  injection h with h;subst h
  obtain⟨b,o,rfl,_⟩:=he;rfl
 |ig j len sz =>
  injection h with h;subst h
  obtain⟨_,⟨_,_,rfl⟩|⟨b,c,_,rfl,_⟩⟩:=he<;>rfl
 |mE j off =>
  injection h with h;subst h
  obtain⟨_,b,_,rfl⟩:=he;rfl
 |dead=>cases h
 |jA _ _ _ _ _=>cases h
 |mD _ _=>cases h
 |iu _ _ _=>cases h
 |cM f bs rs =>
  injection h with h;subst h
  obtain⟨_,ab,ac,_,_,rfl⟩:=he;rfl
 |lz fs =>
  injection h with h;subst h
  obtain⟨us,rfl,g2,_⟩:=he;simp[Value.cells,g2]
theorem uD(hρ:∀x e,ρ x=some e→RE β L I w e (a.eval x)):∀(l:List (Nat×Operand)) (ps:List (Nat×List FE)),ra ρ l=some ps→vV (fun f u=>u.oneCell'=true∧RE β L I w f.ev u) ps (l.map fun (i,x)=>(i,a.eval x))
 |[],ps,h=>by injection h with h;subst h;trivial
 |(i,x)::r,ps,h=>by
  unfold ra at h;split at h
  ·rename_i fs qs hx hr;injection h with h;subst h
   obtain⟨e,he,hx⟩:=Option.bind_eq_some_iff.1 hx;obtain⟨es,Cs,Rj⟩:=Option.bind_eq_some_iff.1 hx;have xn:=hρ x e he;have FY:=oG Rj;refine⟨rfl,⟨?_,fun k c u hc hu => ?_⟩,uD hρ r qs hr⟩
   ·have:=Dq xn Cs;rw[FY] at this;simpa using this
   ·obtain⟨u',h1,h2,h3⟩:=mX xn Cs k c.ev (by rw[FY,abR,hc];rfl);have:u=u':=by
     rw[acB] at hu;rw[h1] at hu;injection hu with hu;exact hu.symm
    subst this;exact⟨h2,h3⟩
  ·cases h
end
end Go.Proofs.YtneklnlpgfeplaaGreat.Sym
