/- Lemmas for the statements of this seat. -/
import Derived.Test.YtcpnocgollpbhaaGreatDoorW3
namespace Go.Proofs.YtcpnocgollpbhaaGreatDoor.Sym
open Go Go.RowKit
section
variable {P:Program} {T:kL} {a:Act} {w:World} {β:Nat→Option Nat} {L I:Nat→Prop} {aG:aS} {ρ:Operand→Option EV} {h:Hint} {res:oq}
structure Af (a:Act) (w:World) (β:Nat→Option Nat) (L I:Nat→Prop) (aG:aS) (ρ:Operand→Option EV):Prop where
 ev:∀x e,ρ x=some e→RE β L I w e (a.eval x)
 st:∀r sc,aG.get r=some sc→L r→RB β L I w r sc.rI
 lb:∀r b,L r→β r=some b→b<w.heap.size
 ib:∀b,I b→b<w.heap.size
def dc(P:Program)(o:Oper)(a:Act)(β:Nat→Option Nat)(L I:Nat→Prop)(w:World)(res:oq):Prop :=
 ∃v w',(execOp a.eval o).run P w = .ok (.value v) w'∧vF β L I w o.dst res v w'
theorem dc.pure{o:Oper}{e:EV}{v:Value}(h:(execOp a.eval o).run P w = .ok (.value v) w)(he:RE β L I w e v){ob:List Prop} : dc P o a β L I w ⟨e,none,ob⟩ :=
 ⟨v,w,h,vF.same he⟩
theorem bE.rI{cs:List PV}{us:List Value}(h:bE I w cs us)(j:Nat)(e:EV)(he:(cs.map EV.pv)[j]? = some e):∃u,us[j]? = some u∧u.oneCell'=true∧RE β L I w e u:=by
 rw[afT] at he;cases hc:cs[j]? with
 |none=>simp[hc] at he
 |some c =>
  simp[hc] at he;subst he;have hj:j<us.length:=by rw[←h.1];exact(afQ.1 hc).1
  have hu:us[j]? = some us[j]:=afO hj;obtain⟨h1,h2⟩:=h.2 j c _ hc hu;exact⟨_,hu,h2.j9 h1,h2⟩
theorem SJ.ev{β:Nat→Option Nat}{L I:Nat→Prop}{w:World}{f:FE}{u:Value}(h:SJ β L I w f u):u.oneCell'=true∧RE β L I w f.ev u:=by
 cases f with
 |pv p=>exact⟨h.2.j9 h.1,h.2⟩
 |row r off len sz =>refine⟨?_,h⟩;obtain⟨_,⟨_,_,rfl⟩|⟨b,c,_,rfl,_⟩⟩:=h<;>rfl
 |ji j len sz =>refine⟨?_,h⟩;obtain⟨_,⟨_,_,rfl⟩|⟨b,c,_,rfl,_⟩⟩:=h<;>rfl
theorem nG{e:EV}{cs:List EV}{v:Value}(he:RE β L I w e v)(h:nF e=some cs)(j:Nat)(c:EV)(hc:cs[j]? = some c) :
  ∃u,v.cells[j]? = some u∧u.oneCell'=true∧RE β L I w c u:=by
 cases e with
 |pv p =>
  unfold nF at h;cases ht:p.ti with
  |true=>simp[ht] at h
  |false =>simp[ht] at h;subst h;have hr:bE I w p.cells v.cells.toList:=Rd.cells he (fun vs e=>by subst e;simp[PV.ti] at ht);obtain⟨u,h1,h2,h3⟩:=hr.rI (β:=β) (L:=L) j c hc;exact⟨u,by simpa using h1,h2,h3⟩
 |ptr r off =>
  injection h with h;subst h
  cases j with
  |succ j=>simp at hc
  |zero =>simp at hc;subst hc;obtain⟨h1,b,hb,rfl⟩:=he;exact⟨_,rfl,rfl,h1,b,hb,rfl⟩
 |row r off len sz =>
  injection h with h;subst h
  cases j with
  |succ j=>simp at hc
  |zero =>
   simp at hc;subst hc;have gQ:=he;obtain⟨h1,⟨_,_,rfl⟩|⟨b,c,_,rfl,_⟩⟩:=he
   ·exact⟨_,rfl,rfl,gQ⟩
   ·exact⟨_,rfl,rfl,gQ⟩
 |ji r len sz =>
  injection h with h;subst h
  cases j with
  |succ j=>simp at hc
  |zero =>
   simp at hc;subst hc;have gQ:=he;obtain⟨h1,⟨_,_,rfl⟩|⟨b,c,_,rfl,_⟩⟩:=he
   ·exact⟨_,rfl,rfl,gQ⟩
   ·exact⟨_,rfl,rfl,gQ⟩
 |n7 r off =>
  injection h with h;subst h
  cases j with
  |succ j=>simp at hc
  |zero =>simp at hc;subst hc;obtain⟨h1,b,hb,rfl⟩:=he;exact⟨_,rfl,rfl,h1,b,hb,rfl⟩
 |ox Yx =>
  injection h with h;subst h
  cases j with
  |succ j=>simp at hc
  |zero =>simp at hc;subst hc;have gQ:=he;obtain⟨b,o,rfl,_⟩:=he;exact⟨_,rfl,rfl,gQ⟩
 |dead=>cases h
 |oy _ _ _ _ _=>cases h
 |Av _ _=>cases h
 |mW fs =>
  injection h with h;subst h
  obtain⟨us,rfl,g2,g3⟩:=he;rw[afT] at hc;obtain⟨f,hf,rfl⟩:=ahq.1 hc;have hj:j<us.size:=by have:=(afQ.1 hf).1;omega
  have hu:us[j]? = some us[j]:=ah2 hj;exact⟨us[j],hu,(g3 j f _ hf hu).ev⟩
theorem oV:∀{es:List EV} {fs:List FE},lY es=some fs→es=fs.map FE.ev
 |[],fs,h=>by injection h with h;subst h;rfl
 |.pv p::r,fs,h=>by
  unfold lY at h;cases hr:lY r with
  |none=>simp[hr] at h
  |some qs =>simp[hr] at h;subst h;simp[oV hr,FE.ev]
 |.row .. :: r,fs,h=>by
  unfold lY at h;cases hr:lY r with
  |none=>simp[hr] at h
  |some qs =>simp[hr] at h;subst h;simp[oV hr,FE.ev]
 |.ji .. :: r,fs,h=>by
  unfold lY at h;cases hr:lY r with
  |none=>simp[hr] at h
  |some qs =>simp[hr] at h;subst h;simp[oV hr,FE.ev]
 |.ptr .. :: _,fs,h=>by simp[lY] at h
 |.ox .. :: _,fs,h=>by simp[lY] at h
 |.dead::_,fs,h=>by simp[lY] at h
 |.oy .. :: _,fs,h=>by simp[lY] at h
 |.Av .. :: _,fs,h=>by simp[lY] at h
 |.n7 .. :: _,fs,h=>by simp[lY] at h
 |.mW .. :: _,fs,h=>by simp[lY] at h
theorem Bb:∀{es:List EV} {ps:List PV},pO es=some ps→es=ps.map EV.pv
 |[],ps,h=>by injection h with h;subst h;rfl
 |.pv p::r,ps,h=>by
  unfold pO at h;cases hr:pO r with
  |none=>simp[hr] at h
  |some qs =>simp[hr] at h;subst h;simp[Bb hr]
 |.ptr .. :: _,ps,h=>by simp[pO] at h
 |.row .. :: _,ps,h=>by simp[pO] at h
 |.ox .. :: _,ps,h=>by simp[pO] at h
 |.dead::_,ps,h=>by simp[pO] at h
 |.oy .. :: _,ps,h=>by simp[pO] at h
 |.Av .. :: _,ps,h=>by simp[pO] at h
 |.ji .. :: _,ps,h=>by simp[pO] at h
 |.n7 .. :: _,ps,h=>by simp[pO] at h
 |.mW .. :: _,ps,h=>by simp[pO] at h
theorem gD(b o n:Nat):(⟨b,o,none⟩:Addr).add n=⟨b,o+n,none⟩:=by unfold Addr.add;split<;>simp_all
theorem sP{t:TypeId}{d:TD}(hd:pJ P t d)(ha:d.agg=true){b o:Nat}{ps:List PV}(hl:ps.length=d.size)
  (hc:∀(j:Nat) x,ps[j]? = some x→x.one=true∧∃u,w.cell? ⟨b,o+j,none⟩=some u∧Rd I w x u) :
  ∃v,(loadVar t ⟨b,o,none⟩).run P w = .ok v w∧Rd I w (.agg ps) v:=by
 have key:∃us:List Value,us.length=ps.length∧(∀j v,us[j]? = some v→w.cell? (Addr.add ⟨b,o,none⟩ j)=some v)∧bE I w ps us:=by
  clear hl
  induction ps generalizing o with
  |nil=>exact⟨[],rfl,fun j v h=>by simp at h,rfl,fun j c u h=>by simp at h⟩
  |cons p r ih =>
   obtain⟨us,h1,h2,h3⟩:=ih (o:=o+1) (fun j x hx=>by have:=hc (j+1) x (by simpa using hx);rw[show o+1+j=o+(j+1) from by omega];exact this)
   obtain⟨hp,u,hu,hr⟩:=hc 0 p rfl;refine⟨u::us,by simp[h1],fun j v hv => ?_,by simp[h3.1],fun j c v TP hv => ?_⟩
   ·cases j with
    |zero=>simp at hv;subst hv;rw[gD];exact hu
    |succ j =>have:=h2 j v (by simpa using hv);rw[gD] at this ⊢;rw[show o+(j+1)=o+1+j from by omega];exact this
   ·cases j with
    |zero=>simp at TP hv;subst TP hv;exact⟨hp,hr⟩
    |succ j=>exact h3.2 j c v (by simpa using TP) (by simpa using hv)
 obtain⟨us,h1,h2,h3⟩:=key;have NW:=run_loadCells_list (P:=P) w ⟨b,o,none⟩ us h2;refine⟨.agg us.toArray,?_,bE.agg (by simpa using h3)⟩;unfold loadVar;rw[agc,hd.x9 w,afR,ha];simp only[if_true];rw[agc,hd.run_sizeOf w,afR,←hl,←h1,agc,NW,afR];rfl
theorem Bc{t:TypeId}{d:TD}(hd:pJ P t d)(ha:d.agg=true){b o:Nat}{fs:List FE}(hl:fs.length=d.size)
  (hc:∀(j:Nat) f,fs[j]? = some f→∃u,w.cell? ⟨b,o+j,none⟩=some u∧SJ β L I w f u) :
  ∃v,(loadVar t ⟨b,o,none⟩).run P w = .ok v w∧RE β L I w (.mW fs) v:=by
 have key:∃us:List Value,us.length=fs.length∧(∀j v,us[j]? = some v→w.cell? (Addr.add ⟨b,o,none⟩ j)=some v)∧∀(j:Nat) f u,fs[j]? = some f→us[j]? = some u→SJ β L I w f u:=by
  clear hl
  induction fs generalizing o with
  |nil=>exact⟨[],rfl,fun j v h=>by simp at h,fun j c u h=>by simp at h⟩
  |cons p r ih =>
   obtain⟨us,h1,h2,h3⟩:=ih (o:=o+1) (fun j x hx=>by have:=hc (j+1) x (by simpa using hx);rw[show o+1+j=o+(j+1) from by omega];exact this)
   obtain⟨u,hu,hr⟩:=hc 0 p rfl;refine⟨u::us,by simp[h1],fun j v hv => ?_,fun j c v TP hv => ?_⟩
   ·cases j with
    |zero=>simp at hv;subst hv;rw[gD];exact hu
    |succ j =>have:=h2 j v (by simpa using hv);rw[gD] at this ⊢;rw[show o+(j+1)=o+1+j from by omega];exact this
   ·cases j with
    |zero=>simp at TP hv;subst TP hv;exact hr
    |succ j=>exact h3 j c v (by simpa using TP) (by simpa using hv)
 obtain⟨us,h1,h2,h3⟩:=key;have NW:=run_loadCells_list (P:=P) w ⟨b,o,none⟩ us h2;refine⟨.agg us.toArray,?_,us.toArray,rfl,by simpa using h1,fun j f u hf hu=>h3 j f u hf (by simpa using hu)⟩;unfold loadVar;rw[agc,hd.x9 w,afR,ha];simp only[if_true];rw[agc,hd.run_sizeOf w,afR,←hl,←h1,agc,NW,afR];rfl
theorem n9{t:TypeId}{d:TD}(hd:pJ P t d)(ha:d.agg=false){b o:Nat}{u:Value}(hc:w.cell? ⟨b,o,none⟩=some u) :
  (loadVar t ⟨b,o,none⟩).run P w = .ok u w:=by
 unfold loadVar;rw[agc,hd.x9 w,afR,ha];simp[hc]
theorem RB.cell{r b:Nat}{cells:List EV}(h:RB β L I w r cells)(hb:β r=some b)(j:Nat)(e:EV)(hj:cells[j]? = some e):∃u,w.cell? ⟨b,j,none⟩=some u∧u.oneCell'=true∧RE β L I w e u:=by
 rcases h with ⟨h1,h2⟩|⟨b',arr,el,fw,h1,h2⟩
 ·rw[h1] at hb;cases hb
 ·rw[fw] at hb;injection hb with hb;subst hb
  obtain⟨u,h3,h4,h5⟩:=h2 j e hj;exact⟨u,by simp[World.cell?,h1,h3],h4,h5⟩
theorem PV.lI{p:PV}{u:Value}(h:Rd I w p u)(ho:u.oneCell'=true):p.one=true:=by cases h<;>first|rfl|(simp [Value.oneCell'] at ho)
theorem D6{t:TypeId}{d:TD}(hd:pJ P t d){r b off:Nat}{cells:List EV}(hb:RB β L I w r cells)(ot:β r=some b)(ar:Fg d cells off h=some res)(bT:dK res.ob) :
  ∃v,(loadVar t ⟨b,off,none⟩).run P w = .ok v w∧RE β L I w res.val v∧res.new=none:=by
 unfold Fg at ar;have KN:∀ps:List PV,d.agg=true→(cells.drop off).take d.size=ps.map EV.pv→ps.length=d.size→∃v,(loadVar t ⟨b,off,none⟩).run P w = .ok v w∧Rd I w (.agg ps) v:=by
  intro ps ha h1 h2;refine sP hd ha h2 (fun j x hx => ?_);have hj:j<d.size:=by rw[←h2];exact(afQ.1 hx).1
  have:cells[off+j]? = some (EV.pv x):=by
   have h3:((cells.drop off).take d.size)[j]? = some (EV.pv x):=by rw[h1,afT,hx];rfl
   rw[agG,ag9 hj,agS] at h3;exact h3
  obtain⟨u,h4,h5,h6⟩:=hb.cell ot _ _ this;exact⟨PV.lI h6 h5,u,h4,h6⟩
 have NX:∀fs:List FE,d.agg=true→(cells.drop off).take d.size=fs.map FE.ev→fs.length=d.size→∃v,(loadVar t ⟨b,off,none⟩).run P w = .ok v w∧RE β L I w (.mW fs) v:=by
  intro fs ha h1 hl;exact Bc (β:=β) (L:=L) (I:=I) (w:=w) (b:=b) (o:=off) hd ha hl (fun j f hf=>by
   have hj:j<d.size:=by rw[←hl];exact(afQ.1 hf).1
   have:cells[off+j]? = some f.ev:=by
    have h3:((cells.drop off).take d.size)[j]? = some f.ev:=by rw[h1,afT,hf];rfl
    rw[agG,ag9 hj,agS] at h3;exact h3
   obtain⟨u,h4,h5,h6⟩:=hb.cell ot _ _ this;refine⟨u,h4,?_⟩;cases f with
   |pv p=>exact⟨PV.lI h6 h5,h6⟩
   |row r off len sz=>exact h6
   |ji j len sz=>exact h6)
 cases ha:d.agg with
 |true =>
  simp only[ha,cond_true] at ar;split at ar
  ·injection ar with ar;subst ar
   obtain⟨v,h1,h2⟩:=KN _ ha bT.cons.1 bT.cons.2;exact⟨v,h1,h2,rfl⟩
  ·injection ar with ar;subst ar
   obtain⟨v,h1,h2⟩:=NX _ ha bT.cons.1 bT.cons.2;exact⟨v,h1,h2,rfl⟩
  ·split at ar
   ·rename_i ps oz;cases fw:Nat.beq ps.length d.size with
    |false=>simp[fw] at ar
    |true =>
     simp only[fw,cond_true,fU] at ar;injection ar with ar;subst ar
     obtain⟨v,h1,h2⟩:=KN _ ha (Bb oz) (ag0 fw);exact⟨v,h1,h2,rfl⟩
   ·split at ar
    ·rename_i fs V7;cases fw:Nat.beq fs.length d.size with
     |false=>simp[fw] at ar
     |true =>
      simp only[fw,cond_true,fU] at ar;injection ar with ar;subst ar
      obtain⟨v,h1,h2⟩:=NX _ ha (oV V7) (ag0 fw);exact⟨v,h1,h2,rfl⟩
    ·cases ar
 |false =>
  simp only[ha,cond_false] at ar;split at ar
  ·injection ar with ar;subst ar
   obtain⟨u,h1,h2,h3⟩:=hb.cell ot _ _ bT;exact⟨u,n9 hd ha h1,h3,rfl⟩
  ·split at ar
   ·rename_i e he;simp only[fU] at ar;injection ar with ar;subst ar
    obtain⟨u,h1,h2,h3⟩:=hb.cell ot _ _ he;exact⟨u,n9 hd ha h1,h3,rfl⟩
   ·cases ar
theorem qJ(hρ:∀x e,ρ x=some e→RE β L I w e (a.eval x)):∀(l:List (Nat×Operand)) (ps:List (Nat×PV)),pP ρ l=some ps→Aw I w ps (l.map fun (i,x)=>(i,a.eval x))
 |[],ps,h=>by injection h with h;subst h;trivial
 |(i,x)::r,ps,h=>by
  unfold pP at h;split at h
  ·rename_i p qs hx hr;injection h with h;subst h
   exact⟨rfl,hρ x _ hx,qJ hρ r qs hr⟩
  ·cases h
theorem Fh{e:EV}{cs:List EV}{v:Value}(he:RE β L I w e v)(h:nF e=some cs):cs.length=v.cells.size:=by
 cases e with
 |pv p =>
  unfold nF at h;cases ht:p.ti with
  |true=>simp[ht] at h
  |false =>
   simp only[ht,cond_false] at h;injection h with h;subst h
   have:=(Rd.cells he (fun vs e=>by subst e;simp[PV.ti] at ht)).1;simpa using this
 |row r off len sz =>
  injection h with h;subst h
  obtain⟨_,⟨_,_,rfl⟩|⟨b,c,_,rfl,_⟩⟩:=he<;>rfl
 |ptr r off =>
  injection h with h;subst h
  obtain⟨_,b,_,rfl⟩:=he;rfl
 |ox Yx =>
  injection h with h;subst h
  obtain⟨b,o,rfl,_⟩:=he;rfl
 |ji j len sz =>
  injection h with h;subst h
  obtain⟨_,⟨_,_,rfl⟩|⟨b,c,_,rfl,_⟩⟩:=he<;>rfl
 |n7 j off =>
  injection h with h;subst h
  obtain⟨_,b,_,rfl⟩:=he;rfl
 |dead=>cases h
 |oy _ _ _ _ _=>cases h
 |Av _ _=>cases h
 |mW fs =>
  injection h with h;subst h
  obtain⟨us,rfl,g2,_⟩:=he;simp[Value.cells,g2]
theorem u6(hρ:∀x e,ρ x=some e→RE β L I w e (a.eval x)):∀(l:List (Nat×Operand)) (ps:List (Nat×List FE)),rS ρ l=some ps→wR (fun f u=>u.oneCell'=true∧RE β L I w f.ev u) ps (l.map fun (i,x)=>(i,a.eval x))
 |[],ps,h=>by injection h with h;subst h;trivial
 |(i,x)::r,ps,h=>by
  unfold rS at h;split at h
  ·rename_i fs qs hx hr;injection h with h;subst h
   obtain⟨e,he,hx⟩:=Option.bind_eq_some_iff.1 hx;obtain⟨es,Nu,V7⟩:=Option.bind_eq_some_iff.1 hx;have u7:=hρ x e he;have Mq:=oV V7;refine⟨rfl,⟨?_,fun k c u hc hu => ?_⟩,u6 hρ r qs hr⟩
   ·have:=Fh u7 Nu;rw[Mq] at this;simpa using this
   ·obtain⟨u',h1,h2,h3⟩:=nG u7 Nu k c.ev (by rw[Mq,afT,hc];rfl);have:u=u':=by
     rw[ahh] at hu;rw[h1] at hu;injection hu with hu;exact hu.symm
    subst this;exact⟨h2,h3⟩
  ·cases h
end
end Go.Proofs.YtcpnocgollpbhaaGreatDoor.Sym
