/- Lemmas for the statements of this seat. -/
import Derived.Test.YtnjhplhbmapclaaGreatDoorWSymD
namespace Go.Proofs.YtnjhplhbmapclaaGreatDoor.Sym
open Go Go.RowKit
section
variable {P:Program} {T:gi} {a:Act} {w:World} {β:Nat→Option Nat} {L I:Nat→Prop} {aw:aD} {ρ:Operand→Option EV} {h:Hint} {res:jv}
structure rW (a:Act) (w:World) (β:Nat→Option Nat) (L I:Nat→Prop) (aw:aD) (ρ:Operand→Option EV):Prop where
 ev:∀x e,ρ x=some e→RE β L I w e (a.eval x)
 st:∀r sc,aw.get r=some sc→L r→RB β L I w r sc.mw
 lb:∀r b,L r→β r=some b→b<w.heap.size
 ib:∀b,I b→b<w.heap.size
def bJ(P:Program)(o:Oper)(a:Act)(β:Nat→Option Nat)(L I:Nat→Prop)(w:World)(res:jv):Prop :=
 ∃v w',(execOp a.eval o).run P w = .ok (.value v) w'∧ow β L I w o.dst res v w'
theorem bJ.pure{o:Oper}{e:EV}{v:Value}(h:(execOp a.eval o).run P w = .ok (.value v) w)(he:RE β L I w e v){ob:List Prop} : bJ P o a β L I w ⟨e,none,ob⟩ :=
 ⟨v,w,h,ow.same he⟩
theorem aV.mw{cs:List PV}{us:List Value}(h:aV I w cs us)(j:Nat)(e:EV)(he:(cs.map EV.pv)[j]? = some e):∃u,us[j]? = some u∧u.oneCell'=true∧RE β L I w e u:=by
 rw[List.getElem?_map] at he
 cases hc:cs[j]? with
 |none=>simp[hc] at he
 |some c =>
  simp[hc] at he
  subst he
  have hj:j<us.length:=by rw[←h.1];exact(List.getElem?_eq_some_iff.1 hc).1
  have hu:us[j]? = some us[j]:=List.getElem?_eq_getElem hj
  obtain⟨h1,h2⟩:=h.2 j c _ hc hu
  exact⟨_,hu,h2.fw h1,h2⟩
theorem FU.ev{β:Nat→Option Nat}{L I:Nat→Prop}{w:World}{f:FE}{u:Value}(h:FU β L I w f u):u.oneCell'=true∧RE β L I w f.ev u:=by
 cases f with
 |pv p=>exact⟨h.2.fw h.1,h.2⟩
 |row r off len sz =>
  refine⟨?_,h⟩
  obtain⟨_,⟨_,_,rfl⟩|⟨b,c,_,rfl,_⟩⟩:=h<;>rfl
theorem iN{e:EV}{cs:List EV}{v:Value}(he:RE β L I w e v)(h:iM e=some cs)(j:Nat)(c:EV)(hc:cs[j]? = some c) :
  ∃u,v.cells[j]? = some u∧u.oneCell'=true∧RE β L I w c u:=by
 cases e with
 |pv p =>
  unfold iM at h
  cases ht:p.mI with
  |true=>simp[ht] at h
  |false =>
   simp[ht] at h
   subst h
   have hr:aV I w p.cells v.cells.toList:=Rd.cells he (fun vs e=>by subst e;simp[PV.mI] at ht)
   obtain⟨u,h1,h2,h3⟩:=hr.mw (β:=β) (L:=L) j c hc
   exact⟨u,by simpa using h1,h2,h3⟩
 |ptr r off =>
  injection h with h;subst h
  cases j with
  |succ j=>simp at hc
  |zero =>
   simp at hc;subst hc
   obtain⟨h1,b,hb,rfl⟩:=he
   exact⟨_,rfl,rfl,h1,b,hb,rfl⟩
 |row r off len sz =>
  injection h with h;subst h
  cases j with
  |succ j=>simp at hc
  |zero =>
   simp at hc;subst hc
   have dN:=he
   obtain⟨h1,⟨_,_,rfl⟩|⟨b,c,_,rfl,_⟩⟩:=he
   ·exact⟨_,rfl,rfl,dN⟩
   ·exact⟨_,rfl,rfl,dN⟩
 |km r len sz =>
  injection h with h;subst h
  cases j with
  |succ j=>simp at hc
  |zero =>
   simp at hc;subst hc
   have dN:=he
   obtain⟨h1,⟨_,_,rfl⟩|⟨b,c,_,rfl,_⟩⟩:=he
   ·exact⟨_,rfl,rfl,dN⟩
   ·exact⟨_,rfl,rfl,dN⟩
 |jg r off =>
  injection h with h;subst h
  cases j with
  |succ j=>simp at hc
  |zero =>
   simp at hc;subst hc
   obtain⟨h1,b,hb,rfl⟩:=he
   exact⟨_,rfl,rfl,h1,b,hb,rfl⟩
 |jD JV =>
  injection h with h;subst h
  cases j with
  |succ j=>simp at hc
  |zero =>
   simp at hc;subst hc
   have dN:=he
   obtain⟨b,o,rfl,_⟩:=he
   exact⟨_,rfl,rfl,dN⟩
 |dead=>cases h
 |jE _ _ _ _ _=>cases h
 |sk _ _=>cases h
 |jF fs =>
  injection h with h;subst h
  obtain⟨us,rfl,g2,g3⟩:=he
  rw[List.getElem?_map] at hc
  obtain⟨f,hf,rfl⟩:=Option.map_eq_some_iff.1 hc
  have hj:j<us.size:=by have:=(List.getElem?_eq_some_iff.1 hf).1;omega
  have hu:us[j]? = some us[j]:=Array.getElem?_eq_getElem hj
  exact⟨us[j],hu,(g3 j f _ hf hu).ev⟩
theorem lN:∀{es:List EV} {fs:List FE},iR es=some fs→es=fs.map FE.ev
 |[],fs,h=>by injection h with h;subst h;rfl
 |.pv p::r,fs,h=>by
  unfold iR at h
  cases hr:iR r with
  |none=>simp[hr] at h
  |some qs =>
   simp[hr] at h
   subst h
   simp[lN hr,FE.ev]
 |.row .. :: r,fs,h=>by
  unfold iR at h
  cases hr:iR r with
  |none=>simp[hr] at h
  |some qs =>
   simp[hr] at h
   subst h
   simp[lN hr,FE.ev]
 |.ptr .. :: _,fs,h=>by simp[iR] at h
 |.jD .. :: _,fs,h=>by simp[iR] at h
 |.dead::_,fs,h=>by simp[iR] at h
 |.jE .. :: _,fs,h=>by simp[iR] at h
 |.sk .. :: _,fs,h=>by simp[iR] at h
 |.km .. :: _,fs,h=>by simp[iR] at h
 |.jg .. :: _,fs,h=>by simp[iR] at h
 |.jF .. :: _,fs,h=>by simp[iR] at h
theorem sQ:∀{es:List EV} {ps:List PV},kt es=some ps→es=ps.map EV.pv
 |[],ps,h=>by injection h with h;subst h;rfl
 |.pv p::r,ps,h=>by
  unfold kt at h
  cases hr:kt r with
  |none=>simp[hr] at h
  |some qs =>
   simp[hr] at h
   subst h
   simp[sQ hr]
 |.ptr .. :: _,ps,h=>by simp[kt] at h
 |.row .. :: _,ps,h=>by simp[kt] at h
 |.jD .. :: _,ps,h=>by simp[kt] at h
 |.dead::_,ps,h=>by simp[kt] at h
 |.jE .. :: _,ps,h=>by simp[kt] at h
 |.sk .. :: _,ps,h=>by simp[kt] at h
 |.km .. :: _,ps,h=>by simp[kt] at h
 |.jg .. :: _,ps,h=>by simp[kt] at h
 |.jF .. :: _,ps,h=>by simp[kt] at h
theorem dC(b o n:Nat):(⟨b,o,none⟩:Addr).add n=⟨b,o+n,none⟩:=by
 unfold Addr.add;split<;>simp_all
theorem my{t:TypeId}{d:TD}(hd:ko P t d)(ha:d.agg=true){b o:Nat}{ps:List PV}(hl:ps.length=d.size)
  (hc:∀(j:Nat) x,ps[j]? = some x→x.one=true∧∃u,w.cell? ⟨b,o+j,none⟩=some u∧Rd I w x u) :
  ∃v,(loadVar t ⟨b,o,none⟩).run P w = .ok v w∧Rd I w (.agg ps) v:=by
 have key:∃us:List Value,us.length=ps.length∧(∀j v,us[j]? = some v→w.cell? (Addr.add ⟨b,o,none⟩ j)=some v)∧aV I w ps us:=by
  clear hl
  induction ps generalizing o with
  |nil=>exact⟨[],rfl,fun j v h=>by simp at h,rfl,fun j c u h=>by simp at h⟩
  |cons p r ih =>
   obtain⟨us,h1,h2,h3⟩:=ih (o:=o+1) (fun j x hx=>by
    have:=hc (j+1) x (by simpa using hx)
    rw[show o+1+j=o+(j+1) from by omega];exact this)
   obtain⟨hp,u,hu,hr⟩:=hc 0 p rfl
   refine⟨u::us,by simp[h1],fun j v hv => ?_,by simp[h3.1],fun j c v GB hv => ?_⟩
   ·cases j with
    |zero=>simp at hv;subst hv;rw[dC];exact hu
    |succ j =>
     have:=h2 j v (by simpa using hv)
     rw[dC] at this ⊢
     rw[show o+(j+1)=o+1+j from by omega];exact this
   ·cases j with
    |zero=>simp at GB hv;subst GB hv;exact⟨hp,hr⟩
    |succ j=>exact h3.2 j c v (by simpa using GB) (by simpa using hv)
 obtain⟨us,h1,h2,h3⟩:=key
 have Cx:=run_loadCells_list (P:=P) w ⟨b,o,none⟩ us h2
 refine⟨.agg us.toArray,?_,aV.agg (by simpa using h3)⟩
 unfold loadVar
 rw[Sem.run_bind,hd.qo w,Result.andThen_ok,ha]
 simp only[if_true]
 rw[Sem.run_bind,hd.run_sizeOf w,Result.andThen_ok,←hl,←h1,Sem.run_bind,Cx,Result.andThen_ok]
 rfl
theorem sR{t:TypeId}{d:TD}(hd:ko P t d)(ha:d.agg=true){b o:Nat}{fs:List FE}(hl:fs.length=d.size)
  (hc:∀(j:Nat) f,fs[j]? = some f→∃u,w.cell? ⟨b,o+j,none⟩=some u∧FU β L I w f u) :
  ∃v,(loadVar t ⟨b,o,none⟩).run P w = .ok v w∧RE β L I w (.jF fs) v:=by
 have key:∃us:List Value,us.length=fs.length∧(∀j v,us[j]? = some v→w.cell? (Addr.add ⟨b,o,none⟩ j)=some v)∧∀(j:Nat) f u,fs[j]? = some f→us[j]? = some u→FU β L I w f u:=by
  clear hl
  induction fs generalizing o with
  |nil=>exact⟨[],rfl,fun j v h=>by simp at h,fun j c u h=>by simp at h⟩
  |cons p r ih =>
   obtain⟨us,h1,h2,h3⟩:=ih (o:=o+1) (fun j x hx=>by
    have:=hc (j+1) x (by simpa using hx)
    rw[show o+1+j=o+(j+1) from by omega];exact this)
   obtain⟨u,hu,hr⟩:=hc 0 p rfl
   refine⟨u::us,by simp[h1],fun j v hv => ?_,fun j c v GB hv => ?_⟩
   ·cases j with
    |zero=>simp at hv;subst hv;rw[dC];exact hu
    |succ j =>
     have:=h2 j v (by simpa using hv)
     rw[dC] at this ⊢
     rw[show o+(j+1)=o+1+j from by omega];exact this
   ·cases j with
    |zero=>simp at GB hv;subst GB hv;exact hr
    |succ j=>exact h3 j c v (by simpa using GB) (by simpa using hv)
 obtain⟨us,h1,h2,h3⟩:=key
 have Cx:=run_loadCells_list (P:=P) w ⟨b,o,none⟩ us h2
 refine⟨.agg us.toArray,?_,us.toArray,rfl,by simpa using h1,fun j f u hf hu=>h3 j f u hf (by simpa using hu)⟩
 unfold loadVar
 rw[Sem.run_bind,hd.qo w,Result.andThen_ok,ha]
 simp only[if_true]
 rw[Sem.run_bind,hd.run_sizeOf w,Result.andThen_ok,←hl,←h1,Sem.run_bind,Cx,Result.andThen_ok]
 rfl
theorem jk{t:TypeId}{d:TD}(hd:ko P t d)(ha:d.agg=false){b o:Nat}{u:Value}(hc:w.cell? ⟨b,o,none⟩=some u) :
  (loadVar t ⟨b,o,none⟩).run P w = .ok u w:=by
 unfold loadVar
 rw[Sem.run_bind,hd.qo w,Result.andThen_ok,ha]
 simp[hc]
theorem RB.cell{r b:Nat}{cells:List EV}(h:RB β L I w r cells)(hb:β r=some b)(j:Nat)(e:EV)(hj:cells[j]? = some e):∃u,w.cell? ⟨b,j,none⟩=some u∧u.oneCell'=true∧RE β L I w e u:=by
 rcases h with ⟨h1,h2⟩|⟨b',arr,el,cQ,h1,h2⟩
 ·rw[h1] at hb;cases hb
 ·rw[cQ] at hb;injection hb with hb;subst hb
  obtain⟨u,h3,h4,h5⟩:=h2 j e hj
  exact⟨u,by simp[World.cell?,h1,h3],h4,h5⟩
theorem PV.gE{p:PV}{u:Value}(h:Rd I w p u)(ho:u.oneCell'=true):p.one=true:=by
 cases h<;>first|rfl|(simp [Value.oneCell'] at ho)
theorem vb{t:TypeId}{d:TD}(hd:ko P t d){r b off:Nat}{cells:List EV}(hb:RB β L I w r cells)(jw:β r=some b)(ai:vT d cells off h=some res)(bj:bV res.ob) :
  ∃v,(loadVar t ⟨b,off,none⟩).run P w = .ok v w∧RE β L I w res.val v∧res.new=none:=by
 unfold vT at ai
 have Au:∀ps:List PV,d.agg=true→(cells.drop off).take d.size=ps.map EV.pv→ps.length=d.size→∃v,(loadVar t ⟨b,off,none⟩).run P w = .ok v w∧Rd I w (.agg ps) v:=by
  intro ps ha h1 h2
  refine my hd ha h2 (fun j x hx => ?_)
  have hj:j<d.size:=by rw[←h2];exact(List.getElem?_eq_some_iff.1 hx).1
  have:cells[off+j]? = some (EV.pv x):=by
   have h3:((cells.drop off).take d.size)[j]? = some (EV.pv x):=by rw[h1,List.getElem?_map,hx];rfl
   rw[List.getElem?_take,if_pos hj,List.getElem?_drop] at h3
   exact h3
  obtain⟨u,h4,h5,h6⟩:=hb.cell jw _ _ this
  exact⟨PV.gE h6 h5,u,h4,h6⟩
 cases ha:d.agg with
 |true =>
  simp only[ha,cond_true] at ai
  split at ai
  ·injection ai with ai;subst ai
   obtain⟨v,h1,h2⟩:=Au _ ha bj.cons.1 bj.cons.2
   exact⟨v,h1,h2,rfl⟩
  ·split at ai
   ·rename_i ps jG
    cases cQ:Nat.beq ps.length d.size with
    |false=>simp[cQ] at ai
    |true =>
     simp only[cQ,cond_true,dc] at ai
     injection ai with ai;subst ai
     obtain⟨v,h1,h2⟩:=Au _ ha (sQ jG) (Nat.eq_of_beq_eq_true cQ)
     exact⟨v,h1,h2,rfl⟩
   ·split at ai
    ·rename_i fs Im
     cases cQ:Nat.beq fs.length d.size with
     |false=>simp[cQ] at ai
     |true =>
      simp only[cQ,cond_true,dc] at ai
      injection ai with ai;subst ai
      have hl:fs.length=d.size:=Nat.eq_of_beq_eq_true cQ
      obtain⟨v,h1,h2⟩:=sR (β:=β) (L:=L) (I:=I) (w:=w) (b:=b) (o:=off) hd ha hl (fun j f hf=>by
       have hj:j<d.size:=by rw[←hl];exact(List.getElem?_eq_some_iff.1 hf).1
       have:cells[off+j]? = some f.ev:=by
        have h3:((cells.drop off).take d.size)[j]? = some f.ev:=by rw[lN Im,List.getElem?_map,hf];rfl
        rw[List.getElem?_take,if_pos hj,List.getElem?_drop] at h3
        exact h3
       obtain⟨u,h4,h5,h6⟩:=hb.cell jw _ _ this
       refine⟨u,h4,?_⟩
       cases f with
       |pv p=>exact⟨PV.gE h6 h5,h6⟩
       |row r off len sz=>exact h6)
      exact⟨v,h1,h2,rfl⟩
    ·cases ai
 |false =>
  simp only[ha,cond_false] at ai
  split at ai
  ·injection ai with ai;subst ai
   obtain⟨u,h1,h2,h3⟩:=hb.cell jw _ _ bj
   exact⟨u,jk hd ha h1,h3,rfl⟩
  ·split at ai
   ·rename_i e he
    simp only[dc] at ai
    injection ai with ai;subst ai
    obtain⟨u,h1,h2,h3⟩:=hb.cell jw _ _ he
    exact⟨u,jk hd ha h1,h3,rfl⟩
   ·cases ai
theorem kW(hρ:∀x e,ρ x=some e→RE β L I w e (a.eval x)):∀(l:List (Nat×Operand)) (ps:List (Nat×PV)),kx ρ l=some ps→sl I w ps (l.map fun (i,x)=>(i,a.eval x))
 |[],ps,h=>by injection h with h;subst h;trivial
 |(i,x)::r,ps,h=>by
  unfold kx at h
  split at h
  ·rename_i p qs hx hr
   injection h with h;subst h
   exact⟨rfl,hρ x _ hx,kW hρ r qs hr⟩
  ·cases h
theorem vV{e:EV}{cs:List EV}{v:Value}(he:RE β L I w e v)(h:iM e=some cs):cs.length=v.cells.size:=by
 cases e with
 |pv p =>
  unfold iM at h
  cases ht:p.mI with
  |true=>simp[ht] at h
  |false =>
   simp only[ht,cond_false] at h
   injection h with h;subst h
   have:=(Rd.cells he (fun vs e=>by subst e;simp[PV.mI] at ht)).1
   simpa using this
 |row r off len sz =>
  injection h with h;subst h
  obtain⟨_,⟨_,_,rfl⟩|⟨b,c,_,rfl,_⟩⟩:=he<;>rfl
 |ptr r off =>
  injection h with h;subst h
  obtain⟨_,b,_,rfl⟩:=he;rfl
 |jD JV =>
  injection h with h;subst h
  obtain⟨b,o,rfl,_⟩:=he;rfl
 |km j len sz =>
  injection h with h;subst h
  obtain⟨_,⟨_,_,rfl⟩|⟨b,c,_,rfl,_⟩⟩:=he<;>rfl
 |jg j off =>
  injection h with h;subst h
  obtain⟨_,b,_,rfl⟩:=he;rfl
 |dead=>cases h
 |jE _ _ _ _ _=>cases h
 |sk _ _=>cases h
 |jF fs =>
  injection h with h;subst h
  obtain⟨us,rfl,g2,_⟩:=he
  simp[Value.cells,g2]
theorem n8(hρ:∀x e,ρ x=some e→RE β L I w e (a.eval x)):∀(l:List (Nat×Operand)) (ps:List (Nat×List FE)),lM ρ l=some ps→o9 (fun f u=>u.oneCell'=true∧RE β L I w f.ev u) ps (l.map fun (i,x)=>(i,a.eval x))
 |[],ps,h=>by injection h with h;subst h;trivial
 |(i,x)::r,ps,h=>by
  unfold lM at h
  split at h
  ·rename_i fs qs hx hr
   injection h with h;subst h
   obtain⟨e,he,hx⟩:=Option.bind_eq_some_iff.1 hx
   obtain⟨es,B4,Im⟩:=Option.bind_eq_some_iff.1 hx
   have sS:=hρ x e he
   have Bm:=lN Im
   refine⟨rfl,⟨?_,fun k c u hc hu => ?_⟩,n8 hρ r qs hr⟩
   ·have:=vV sS B4
    rw[Bm] at this
    simpa using this
   ·obtain⟨u',h1,h2,h3⟩:=iN sS B4 k c.ev (by rw[Bm,List.getElem?_map,hc];rfl)
    have:u=u':=by
     rw[Array.getElem?_toList] at hu
     rw[h1] at hu
     injection hu with hu;exact hu.symm
    subst this
    exact⟨h2,h3⟩
  ·cases h
end
end Go.Proofs.YtnjhplhbmapclaaGreatDoor.Sym
