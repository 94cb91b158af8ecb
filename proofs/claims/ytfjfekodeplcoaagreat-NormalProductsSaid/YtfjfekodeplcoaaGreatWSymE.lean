/- Lemmas for the statements of this seat. -/
import Derived.Test.YtfjfekodeplcoaaGreatWSymD
namespace Go.Proofs.YtfjfekodeplcoaaGreat.Sym
open Go Go.RowKit
section
variable {P:Program} {T:ja} {a:Act} {w:World} {β:Nat→Option Nat} {L I:Nat→Prop} {sto:aG} {ρ:Operand→Option EV} {h:Hint} {res:mU}
structure xu (a:Act) (w:World) (β:Nat→Option Nat) (L I:Nat→Prop) (sto:aG) (ρ:Operand→Option EV):Prop where
 ev:∀x e,ρ x=some e→RE β L I w e (a.eval x)
 st:∀r sc,sto.get r=some sc→L r→RB β L I w r sc.jc
 lb:∀r b,L r→β r=some b→b<w.heap.size
 ib:∀b,I b→b<w.heap.size
def cX(P:Program)(o:Oper)(a:Act)(β:Nat→Option Nat)(L I:Nat→Prop)(w:World)(res:mU):Prop :=
 ∃v w',(execOp a.eval o).run P w = .ok (.value v) w'∧qi β L I w o.dst res v w'
theorem cX.pure{o:Oper}{e:EV}{v:Value}(h:(execOp a.eval o).run P w = .ok (.value v) w)(he:RE β L I w e v){ob:List Prop} : cX P o a β L I w ⟨e,none,ob⟩ :=
 ⟨v,w,h,qi.same he⟩
theorem bT.jc{cs:List PV}{us:List Value}(h:bT I w cs us)(j:Nat)(e:EV)(he:(cs.map EV.pv)[j]? = some e):∃u,us[j]? = some u∧u.oneCell'=true∧RE β L I w e u:=by
 rw[List.getElem?_map] at he
 cases hc:cs[j]? with
 |none=>simp[hc] at he
 |some c =>
  simp[hc] at he
  subst he
  have hj:j<us.length:=by rw[←h.1];exact(List.getElem?_eq_some_iff.1 hc).1
  have hu:us[j]? = some us[j]:=List.getElem?_eq_getElem hj
  obtain⟨h1,h2⟩:=h.2 j c _ hc hu
  exact⟨_,hu,h2.iN h1,h2⟩
theorem Lz.ev{β:Nat→Option Nat}{L I:Nat→Prop}{w:World}{f:FE}{u:Value}(h:Lz β L I w f u):u.oneCell'=true∧RE β L I w f.ev u:=by
 cases f with
 |pv p=>exact⟨h.2.iN h.1,h.2⟩
 |row r off len sz =>
  refine⟨?_,h⟩
  obtain⟨_,⟨_,_,rfl⟩|⟨b,c,_,rfl,_⟩⟩:=h<;>rfl
 |cv j len sz =>
  refine⟨?_,h⟩
  obtain⟨_,⟨_,_,rfl⟩|⟨b,c,_,rfl,_⟩⟩:=h<;>rfl
theorem iF{e:EV}{cs:List EV}{v:Value}(he:RE β L I w e v)(h:kd e=some cs)(j:Nat)(c:EV)(hc:cs[j]? = some c) :
  ∃u,v.cells[j]? = some u∧u.oneCell'=true∧RE β L I w c u:=by
 cases e with
 |pv p =>
  unfold kd at h
  cases ht:p.pD with
  |true=>simp[ht] at h
  |false =>
   simp[ht] at h
   subst h
   have hr:bT I w p.cells v.cells.toList:=Rd.cells he (fun vs e=>by subst e;simp[PV.pD] at ht)
   obtain⟨u,h1,h2,h3⟩:=hr.jc (β:=β) (L:=L) j c hc
   exact⟨u,by simpa using h1,h2,h3⟩
 |ptr r off =>
  injection h with h;subst h
  cases j with
  |succ j=>simp at hc
  |zero =>
   simp at hc;subst hc
   obtain⟨h1,b,hb,rfl⟩:=he
   exact⟨_,rfl,rfl,h1,b,hb,rfl⟩
 |row r off len sz =>
  injection h with h;subst h
  cases j with
  |succ j=>simp at hc
  |zero =>
   simp at hc;subst hc
   have fj:=he
   obtain⟨h1,⟨_,_,rfl⟩|⟨b,c,_,rfl,_⟩⟩:=he
   ·exact⟨_,rfl,rfl,fj⟩
   ·exact⟨_,rfl,rfl,fj⟩
 |cv r len sz =>
  injection h with h;subst h
  cases j with
  |succ j=>simp at hc
  |zero =>
   simp at hc;subst hc
   have fj:=he
   obtain⟨h1,⟨_,_,rfl⟩|⟨b,c,_,rfl,_⟩⟩:=he
   ·exact⟨_,rfl,rfl,fj⟩
   ·exact⟨_,rfl,rfl,fj⟩
 |kf r off =>
  injection h with h;subst h
  cases j with
  |succ j=>simp at hc
  |zero =>
   simp at hc;subst hc
   obtain⟨h1,b,hb,rfl⟩:=he
   exact⟨_,rfl,rfl,h1,b,hb,rfl⟩
 |mL Qv =>
  injection h with h;subst h
  cases j with
  |succ j=>simp at hc
  |zero =>
   simp at hc;subst hc
   have fj:=he
   obtain⟨b,o,rfl,_⟩:=he
   exact⟨_,rfl,rfl,fj⟩
 |dead=>cases h
 |kN _ _ _ _ _=>cases h
 |mM _ _=>cases h
 |dV fs =>
  injection h with h;subst h
  obtain⟨us,rfl,g2,g3⟩:=he
  rw[List.getElem?_map] at hc
  obtain⟨f,hf,rfl⟩:=Option.map_eq_some_iff.1 hc
  have hj:j<us.size:=by have:=(List.getElem?_eq_some_iff.1 hf).1;omega
  have hu:us[j]? = some us[j]:=Array.getElem?_eq_getElem hj
  exact⟨us[j],hu,(g3 j f _ hf hu).ev⟩
theorem nN:∀{es:List EV} {fs:List FE},kO es=some fs→es=fs.map FE.ev
 |[],fs,h=>by injection h with h;subst h;rfl
 |.pv p::r,fs,h=>by
  unfold kO at h
  cases hr:kO r with
  |none=>simp[hr] at h
  |some qs =>
   simp[hr] at h
   subst h
   simp[nN hr,FE.ev]
 |.row .. :: r,fs,h=>by
  unfold kO at h
  cases hr:kO r with
  |none=>simp[hr] at h
  |some qs =>
   simp[hr] at h
   subst h
   simp[nN hr,FE.ev]
 |.cv .. :: r,fs,h=>by
  unfold kO at h
  cases hr:kO r with
  |none=>simp[hr] at h
  |some qs =>
   simp[hr] at h
   subst h
   simp[nN hr,FE.ev]
 |.ptr .. :: _,fs,h=>by simp[kO] at h
 |.mL .. :: _,fs,h=>by simp[kO] at h
 |.dead::_,fs,h=>by simp[kO] at h
 |.kN .. :: _,fs,h=>by simp[kO] at h
 |.mM .. :: _,fs,h=>by simp[kO] at h
 |.kf .. :: _,fs,h=>by simp[kO] at h
 |.dV .. :: _,fs,h=>by simp[kO] at h
theorem yv:∀{es:List EV} {ps:List PV},mV es=some ps→es=ps.map EV.pv
 |[],ps,h=>by injection h with h;subst h;rfl
 |.pv p::r,ps,h=>by
  unfold mV at h
  cases hr:mV r with
  |none=>simp[hr] at h
  |some qs =>
   simp[hr] at h
   subst h
   simp[yv hr]
 |.ptr .. :: _,ps,h=>by simp[mV] at h
 |.row .. :: _,ps,h=>by simp[mV] at h
 |.mL .. :: _,ps,h=>by simp[mV] at h
 |.dead::_,ps,h=>by simp[mV] at h
 |.kN .. :: _,ps,h=>by simp[mV] at h
 |.mM .. :: _,ps,h=>by simp[mV] at h
 |.cv .. :: _,ps,h=>by simp[mV] at h
 |.kf .. :: _,ps,h=>by simp[mV] at h
 |.dV .. :: _,ps,h=>by simp[mV] at h
theorem eC(b o n:Nat):(⟨b,o,none⟩:Addr).add n=⟨b,o+n,none⟩:=by
 unfold Addr.add;split<;>simp_all
theorem qS{t:TypeId}{d:TD}(hd:ov P t d)(ha:d.agg=true){b o:Nat}{ps:List PV}(hl:ps.length=d.size)
  (hc:∀(j:Nat) x,ps[j]? = some x→x.one=true∧∃u,w.cell? ⟨b,o+j,none⟩=some u∧Rd I w x u) :
  ∃v,(loadVar t ⟨b,o,none⟩).run P w = .ok v w∧Rd I w (.agg ps) v:=by
 have key:∃us:List Value,us.length=ps.length∧(∀j v,us[j]? = some v→w.cell? (Addr.add ⟨b,o,none⟩ j)=some v)∧bT I w ps us:=by
  clear hl
  induction ps generalizing o with
  |nil=>exact⟨[],rfl,fun j v h=>by simp at h,rfl,fun j c u h=>by simp at h⟩
  |cons p r ih =>
   obtain⟨us,h1,h2,h3⟩:=ih (o:=o+1) (fun j x hx=>by
    have:=hc (j+1) x (by simpa using hx)
    rw[show o+1+j=o+(j+1) from by omega];exact this)
   obtain⟨hp,u,hu,hr⟩:=hc 0 p rfl
   refine⟨u::us,by simp[h1],fun j v hv => ?_,by simp[h3.1],fun j c v Mu hv => ?_⟩
   ·cases j with
    |zero=>simp at hv;subst hv;rw[eC];exact hu
    |succ j =>
     have:=h2 j v (by simpa using hv)
     rw[eC] at this ⊢
     rw[show o+(j+1)=o+1+j from by omega];exact this
   ·cases j with
    |zero=>simp at Mu hv;subst Mu hv;exact⟨hp,hr⟩
    |succ j=>exact h3.2 j c v (by simpa using Mu) (by simpa using hv)
 obtain⟨us,h1,h2,h3⟩:=key
 have HL:=run_loadCells_list (P:=P) w ⟨b,o,none⟩ us h2
 refine⟨.agg us.toArray,?_,bT.agg (by simpa using h3)⟩
 unfold loadVar
 rw[Sem.run_bind,hd.vD w,Result.andThen_ok,ha]
 simp only[if_true]
 rw[Sem.run_bind,hd.run_sizeOf w,Result.andThen_ok,←hl,←h1,Sem.run_bind,HL,Result.andThen_ok]
 rfl
theorem yw{t:TypeId}{d:TD}(hd:ov P t d)(ha:d.agg=true){b o:Nat}{fs:List FE}(hl:fs.length=d.size)
  (hc:∀(j:Nat) f,fs[j]? = some f→∃u,w.cell? ⟨b,o+j,none⟩=some u∧Lz β L I w f u) :
  ∃v,(loadVar t ⟨b,o,none⟩).run P w = .ok v w∧RE β L I w (.dV fs) v:=by
 have key:∃us:List Value,us.length=fs.length∧(∀j v,us[j]? = some v→w.cell? (Addr.add ⟨b,o,none⟩ j)=some v)∧∀(j:Nat) f u,fs[j]? = some f→us[j]? = some u→Lz β L I w f u:=by
  clear hl
  induction fs generalizing o with
  |nil=>exact⟨[],rfl,fun j v h=>by simp at h,fun j c u h=>by simp at h⟩
  |cons p r ih =>
   obtain⟨us,h1,h2,h3⟩:=ih (o:=o+1) (fun j x hx=>by
    have:=hc (j+1) x (by simpa using hx)
    rw[show o+1+j=o+(j+1) from by omega];exact this)
   obtain⟨u,hu,hr⟩:=hc 0 p rfl
   refine⟨u::us,by simp[h1],fun j v hv => ?_,fun j c v Mu hv => ?_⟩
   ·cases j with
    |zero=>simp at hv;subst hv;rw[eC];exact hu
    |succ j =>
     have:=h2 j v (by simpa using hv)
     rw[eC] at this ⊢
     rw[show o+(j+1)=o+1+j from by omega];exact this
   ·cases j with
    |zero=>simp at Mu hv;subst Mu hv;exact hr
    |succ j=>exact h3 j c v (by simpa using Mu) (by simpa using hv)
 obtain⟨us,h1,h2,h3⟩:=key
 have HL:=run_loadCells_list (P:=P) w ⟨b,o,none⟩ us h2
 refine⟨.agg us.toArray,?_,us.toArray,rfl,by simpa using h1,fun j f u hf hu=>h3 j f u hf (by simpa using hu)⟩
 unfold loadVar
 rw[Sem.run_bind,hd.vD w,Result.andThen_ok,ha]
 simp only[if_true]
 rw[Sem.run_bind,hd.run_sizeOf w,Result.andThen_ok,←hl,←h1,Sem.run_bind,HL,Result.andThen_ok]
 rfl
theorem mN{t:TypeId}{d:TD}(hd:ov P t d)(ha:d.agg=false){b o:Nat}{u:Value}(hc:w.cell? ⟨b,o,none⟩=some u) :
  (loadVar t ⟨b,o,none⟩).run P w = .ok u w:=by
 unfold loadVar
 rw[Sem.run_bind,hd.vD w,Result.andThen_ok,ha]
 simp[hc]
theorem RB.cell{r b:Nat}{cells:List EV}(h:RB β L I w r cells)(hb:β r=some b)(j:Nat)(e:EV)(hj:cells[j]? = some e):∃u,w.cell? ⟨b,j,none⟩=some u∧u.oneCell'=true∧RE β L I w e u:=by
 rcases h with ⟨h1,h2⟩|⟨b',arr,el,cI,h1,h2⟩
 ·rw[h1] at hb;cases hb
 ·rw[cI] at hb;injection hb with hb;subst hb
  obtain⟨u,h3,h4,h5⟩:=h2 j e hj
  exact⟨u,by simp[World.cell?,h1,h3],h4,h5⟩
theorem PV.gO{p:PV}{u:Value}(h:Rd I w p u)(ho:u.oneCell'=true):p.one=true:=by
 cases h<;>first|rfl|(simp [Value.oneCell'] at ho)
theorem so{t:TypeId}{d:TD}(hd:ov P t d){r b off:Nat}{cells:List EV}(hb:RB β L I w r cells)(j5:β r=some b)(aw:vG d cells off h=some res)(bK:cW res.ob) :
  ∃v,(loadVar t ⟨b,off,none⟩).run P w = .ok v w∧RE β L I w res.val v∧res.new=none:=by
 unfold vG at aw
 have FM:∀ps:List PV,d.agg=true→(cells.drop off).take d.size=ps.map EV.pv→ps.length=d.size→∃v,(loadVar t ⟨b,off,none⟩).run P w = .ok v w∧Rd I w (.agg ps) v:=by
  intro ps ha h1 h2
  refine qS hd ha h2 (fun j x hx => ?_)
  have hj:j<d.size:=by rw[←h2];exact(List.getElem?_eq_some_iff.1 hx).1
  have:cells[off+j]? = some (EV.pv x):=by
   have h3:((cells.drop off).take d.size)[j]? = some (EV.pv x):=by rw[h1,List.getElem?_map,hx];rfl
   rw[List.getElem?_take,if_pos hj,List.getElem?_drop] at h3
   exact h3
  obtain⟨u,h4,h5,h6⟩:=hb.cell j5 _ _ this
  exact⟨PV.gO h6 h5,u,h4,h6⟩
 have HM:∀fs:List FE,d.agg=true→(cells.drop off).take d.size=fs.map FE.ev→fs.length=d.size→∃v,(loadVar t ⟨b,off,none⟩).run P w = .ok v w∧RE β L I w (.dV fs) v:=by
  intro fs ha h1 hl
  exact yw (β:=β) (L:=L) (I:=I) (w:=w) (b:=b) (o:=off) hd ha hl (fun j f hf=>by
   have hj:j<d.size:=by rw[←hl];exact(List.getElem?_eq_some_iff.1 hf).1
   have:cells[off+j]? = some f.ev:=by
    have h3:((cells.drop off).take d.size)[j]? = some f.ev:=by rw[h1,List.getElem?_map,hf];rfl
    rw[List.getElem?_take,if_pos hj,List.getElem?_drop] at h3
    exact h3
   obtain⟨u,h4,h5,h6⟩:=hb.cell j5 _ _ this
   refine⟨u,h4,?_⟩
   cases f with
   |pv p=>exact⟨PV.gO h6 h5,h6⟩
   |row r off len sz=>exact h6
   |cv j len sz=>exact h6)
 cases ha:d.agg with
 |true =>
  simp only[ha,cond_true] at aw
  split at aw
  ·injection aw with aw;subst aw
   obtain⟨v,h1,h2⟩:=FM _ ha bK.cons.1 bK.cons.2
   exact⟨v,h1,h2,rfl⟩
  ·injection aw with aw;subst aw
   obtain⟨v,h1,h2⟩:=HM _ ha bK.cons.1 bK.cons.2
   exact⟨v,h1,h2,rfl⟩
  ·split at aw
   ·rename_i ps jf
    cases cI:Nat.beq ps.length d.size with
    |false=>simp[cI] at aw
    |true =>
     simp only[cI,cond_true,fb] at aw
     injection aw with aw;subst aw
     obtain⟨v,h1,h2⟩:=FM _ ha (yv jf) (Nat.eq_of_beq_eq_true cI)
     exact⟨v,h1,h2,rfl⟩
   ·split at aw
    ·rename_i fs BB
     cases cI:Nat.beq fs.length d.size with
     |false=>simp[cI] at aw
     |true =>
      simp only[cI,cond_true,fb] at aw
      injection aw with aw;subst aw
      obtain⟨v,h1,h2⟩:=HM _ ha (nN BB) (Nat.eq_of_beq_eq_true cI)
      exact⟨v,h1,h2,rfl⟩
    ·cases aw
 |false =>
  simp only[ha,cond_false] at aw
  split at aw
  ·injection aw with aw;subst aw
   obtain⟨u,h1,h2,h3⟩:=hb.cell j5 _ _ bK
   exact⟨u,mN hd ha h1,h3,rfl⟩
  ·split at aw
   ·rename_i e he
    simp only[fb] at aw
    injection aw with aw;subst aw
    obtain⟨u,h1,h2,h3⟩:=hb.cell j5 _ _ he
    exact⟨u,mN hd ha h1,h3,rfl⟩
   ·cases aw
theorem pj(hρ:∀x e,ρ x=some e→RE β L I w e (a.eval x)):∀(l:List (Nat×Operand)) (ps:List (Nat×PV)),oA ρ l=some ps→xV I w ps (l.map fun (i,x)=>(i,a.eval x))
 |[],ps,h=>by injection h with h;subst h;trivial
 |(i,x)::r,ps,h=>by
  unfold oA at h
  split at h
  ·rename_i p qs hx hr
   injection h with h;subst h
   exact⟨rfl,hρ x _ hx,pj hρ r qs hr⟩
  ·cases h
theorem BE{e:EV}{cs:List EV}{v:Value}(he:RE β L I w e v)(h:kd e=some cs):cs.length=v.cells.size:=by
 cases e with
 |pv p =>
  unfold kd at h
  cases ht:p.pD with
  |true=>simp[ht] at h
  |false =>
   simp only[ht,cond_false] at h
   injection h with h;subst h
   have:=(Rd.cells he (fun vs e=>by subst e;simp[PV.pD] at ht)).1
   simpa using this
 |row r off len sz =>
  injection h with h;subst h
  obtain⟨_,⟨_,_,rfl⟩|⟨b,c,_,rfl,_⟩⟩:=he<;>rfl
 |ptr r off =>
  injection h with h;subst h
  obtain⟨_,b,_,rfl⟩:=he;rfl
 |mL Qv =>
  injection h with h;subst h
  obtain⟨b,o,rfl,_⟩:=he;rfl
 |cv j len sz =>
  injection h with h;subst h
  obtain⟨_,⟨_,_,rfl⟩|⟨b,c,_,rfl,_⟩⟩:=he<;>rfl
 |kf j off =>
  injection h with h;subst h
  obtain⟨_,b,_,rfl⟩:=he;rfl
 |dead=>cases h
 |kN _ _ _ _ _=>cases h
 |mM _ _=>cases h
 |dV fs =>
  injection h with h;subst h
  obtain⟨us,rfl,g2,_⟩:=he
  simp[Value.cells,g2]
theorem tc(hρ:∀x e,ρ x=some e→RE β L I w e (a.eval x)):∀(l:List (Nat×Operand)) (ps:List (Nat×List FE)),qh ρ l=some ps→uy (fun f u=>u.oneCell'=true∧RE β L I w f.ev u) ps (l.map fun (i,x)=>(i,a.eval x))
 |[],ps,h=>by injection h with h;subst h;trivial
 |(i,x)::r,ps,h=>by
  unfold qh at h
  split at h
  ·rename_i fs qs hx hr
   injection h with h;subst h
   obtain⟨e,he,hx⟩:=Option.bind_eq_some_iff.1 hx
   obtain⟨es,FN,BB⟩:=Option.bind_eq_some_iff.1 hx
   have yx:=hρ x e he
   have GD:=nN BB
   refine⟨rfl,⟨?_,fun k c u hc hu => ?_⟩,tc hρ r qs hr⟩
   ·have:=BE yx FN
    rw[GD] at this
    simpa using this
   ·obtain⟨u',h1,h2,h3⟩:=iF yx FN k c.ev (by rw[GD,List.getElem?_map,hc];rfl)
    have:u=u':=by
     rw[Array.getElem?_toList] at hu
     rw[h1] at hu
     injection hu with hu;exact hu.symm
    subst this
    exact⟨h2,h3⟩
  ·cases h
end
end Go.Proofs.YtfjfekodeplcoaaGreat.Sym
