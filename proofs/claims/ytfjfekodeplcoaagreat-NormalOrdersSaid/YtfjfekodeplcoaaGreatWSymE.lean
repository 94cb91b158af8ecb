/- Lemmas for the statements of this seat. -/
import Derived.Test.YtfjfekodeplcoaaGreatWSymD
namespace Go.Proofs.YtfjfekodeplcoaaGreat.Sym
open Go Go.RowKit
section
variable {P:Program} {T:jZ} {a:Act} {w:World} {β:Nat→Option Nat} {L I:Nat→Prop} {sto:aN} {ρ:Operand→Option EV} {h:Hint} {res:mW}
structure wD (a:Act) (w:World) (β:Nat→Option Nat) (L I:Nat→Prop) (sto:aN) (ρ:Operand→Option EV):Prop where
 ev:∀x e,ρ x=some e→RE β L I w e (a.eval x)
 st:∀r sc,sto.get r=some sc→L r→RB β L I w r sc.pE
 lb:∀r b,L r→β r=some b→b<w.heap.size
 ib:∀b,I b→b<w.heap.size
def cY(P:Program)(o:Oper)(a:Act)(β:Nat→Option Nat)(L I:Nat→Prop)(w:World)(res:mW):Prop :=
 ∃v w',(execOp a.eval o).run P w = .ok (.value v) w'∧ta β L I w o.dst res v w'
theorem cY.pure{o:Oper}{e:EV}{v:Value}(h:(execOp a.eval o).run P w = .ok (.value v) w)(he:RE β L I w e v){ob:List Prop} : cY P o a β L I w ⟨e,none,ob⟩ :=
 ⟨v,w,h,ta.same he⟩
theorem bJ.pE{cs:List PV}{us:List Value}(h:bJ I w cs us)(j:Nat)(e:EV)(he:(cs.map EV.pv)[j]? = some e):∃u,us[j]? = some u∧u.oneCell'=true∧RE β L I w e u:=by
 rw[List.getElem?_map] at he
 cases hc:cs[j]? with
 |none=>simp[hc] at he
 |some c =>
  simp[hc] at he
  subst he
  have hj:j<us.length:=by rw[←h.1];exact(List.getElem?_eq_some_iff.1 hc).1
  have hu:us[j]? = some us[j]:=List.getElem?_eq_getElem hj
  obtain⟨h1,h2⟩:=h.2 j c _ hc hu
  exact⟨_,hu,h2.iD h1,h2⟩
theorem KQ.ev{β:Nat→Option Nat}{L I:Nat→Prop}{w:World}{f:FE}{u:Value}(h:KQ β L I w f u):u.oneCell'=true∧RE β L I w f.ev u:=by
 cases f with
 |pv p=>exact⟨h.2.iD h.1,h.2⟩
 |row r off len sz =>
  refine⟨?_,h⟩
  obtain⟨_,⟨_,_,rfl⟩|⟨b,c,_,rfl,_⟩⟩:=h<;>rfl
theorem mm{e:EV}{cs:List EV}{v:Value}(he:RE β L I w e v)(h:ml e=some cs)(j:Nat)(c:EV)(hc:cs[j]? = some c) :
  ∃u,v.cells[j]? = some u∧u.oneCell'=true∧RE β L I w c u:=by
 cases e with
 |pv p =>
  unfold ml at h
  cases ht:p.ra with
  |true=>simp[ht] at h
  |false =>
   simp[ht] at h
   subst h
   have hr:bJ I w p.cells v.cells.toList:=Rd.cells he (fun vs e=>by subst e;simp[PV.ra] at ht)
   obtain⟨u,h1,h2,h3⟩:=hr.pE (β:=β) (L:=L) j c hc
   exact⟨u,by simpa using h1,h2,h3⟩
 |ptr r off =>
  injection h with h;subst h
  cases j with
  |succ j=>simp at hc
  |zero =>
   simp at hc;subst hc
   obtain⟨h1,b,hb,rfl⟩:=he
   exact⟨_,rfl,rfl,h1,b,hb,rfl⟩
 |row r off len sz =>
  injection h with h;subst h
  cases j with
  |succ j=>simp at hc
  |zero =>
   simp at hc;subst hc
   have gr:=he
   obtain⟨h1,⟨_,_,rfl⟩|⟨b,c,_,rfl,_⟩⟩:=he
   ·exact⟨_,rfl,rfl,gr⟩
   ·exact⟨_,rfl,rfl,gr⟩
 |ox r len sz =>
  injection h with h;subst h
  cases j with
  |succ j=>simp at hc
  |zero =>
   simp at hc;subst hc
   have gr:=he
   obtain⟨h1,⟨_,_,rfl⟩|⟨b,c,_,rfl,_⟩⟩:=he
   ·exact⟨_,rfl,rfl,gr⟩
   ·exact⟨_,rfl,rfl,gr⟩
 |mM r off =>
  injection h with h;subst h
  cases j with
  |succ j=>simp at hc
  |zero =>
   simp at hc;subst hc
   obtain⟨h1,b,hb,rfl⟩:=he
   exact⟨_,rfl,rfl,h1,b,hb,rfl⟩
 |nh Pb =>
  injection h with h;subst h
  cases j with
  |succ j=>simp at hc
  |zero =>
   simp at hc;subst hc
   have gr:=he
   obtain⟨b,o,rfl,_⟩:=he
   exact⟨_,rfl,rfl,gr⟩
 |dead=>cases h
 |ni _ _ _ _ _=>cases h
 |lX _ _=>cases h
 |gj fs =>
  injection h with h;subst h
  obtain⟨us,rfl,g2,g3⟩:=he
  rw[List.getElem?_map] at hc
  obtain⟨f,hf,rfl⟩:=Option.map_eq_some_iff.1 hc
  have hj:j<us.size:=by have:=(List.getElem?_eq_some_iff.1 hf).1;omega
  have hu:us[j]? = some us[j]:=Array.getElem?_eq_getElem hj
  exact⟨us[j],hu,(g3 j f _ hf hu).ev⟩
theorem qk:∀{es:List EV} {fs:List FE},mr es=some fs→es=fs.map FE.ev
 |[],fs,h=>by injection h with h;subst h;rfl
 |.pv p::r,fs,h=>by
  unfold mr at h
  cases hr:mr r with
  |none=>simp[hr] at h
  |some qs =>
   simp[hr] at h
   subst h
   simp[qk hr,FE.ev]
 |.row .. :: r,fs,h=>by
  unfold mr at h
  cases hr:mr r with
  |none=>simp[hr] at h
  |some qs =>
   simp[hr] at h
   subst h
   simp[qk hr,FE.ev]
 |.ptr .. :: _,fs,h=>by simp[mr] at h
 |.nh .. :: _,fs,h=>by simp[mr] at h
 |.dead::_,fs,h=>by simp[mr] at h
 |.ni .. :: _,fs,h=>by simp[mr] at h
 |.lX .. :: _,fs,h=>by simp[mr] at h
 |.ox .. :: _,fs,h=>by simp[mr] at h
 |.mM .. :: _,fs,h=>by simp[mr] at h
 |.gj .. :: _,fs,h=>by simp[mr] at h
theorem xy:∀{es:List EV} {ps:List PV},oB es=some ps→es=ps.map EV.pv
 |[],ps,h=>by injection h with h;subst h;rfl
 |.pv p::r,ps,h=>by
  unfold oB at h
  cases hr:oB r with
  |none=>simp[hr] at h
  |some qs =>
   simp[hr] at h
   subst h
   simp[xy hr]
 |.ptr .. :: _,ps,h=>by simp[oB] at h
 |.row .. :: _,ps,h=>by simp[oB] at h
 |.nh .. :: _,ps,h=>by simp[oB] at h
 |.dead::_,ps,h=>by simp[oB] at h
 |.ni .. :: _,ps,h=>by simp[oB] at h
 |.lX .. :: _,ps,h=>by simp[oB] at h
 |.ox .. :: _,ps,h=>by simp[oB] at h
 |.mM .. :: _,ps,h=>by simp[oB] at h
 |.gj .. :: _,ps,h=>by simp[oB] at h
theorem gk(b o n:Nat):(⟨b,o,none⟩:Addr).add n=⟨b,o+n,none⟩:=by
 unfold Addr.add;split<;>simp_all
theorem qT{t:TypeId}{d:TD}(hd:oy P t d)(ha:d.agg=true){b o:Nat}{ps:List PV}(hl:ps.length=d.size)
  (hc:∀(j:Nat) x,ps[j]? = some x→x.one=true∧∃u,w.cell? ⟨b,o+j,none⟩=some u∧Rd I w x u) :
  ∃v,(loadVar t ⟨b,o,none⟩).run P w = .ok v w∧Rd I w (.agg ps) v:=by
 have key:∃us:List Value,us.length=ps.length∧(∀j v,us[j]? = some v→w.cell? (Addr.add ⟨b,o,none⟩ j)=some v)∧bJ I w ps us:=by
  clear hl
  induction ps generalizing o with
  |nil=>exact⟨[],rfl,fun j v h=>by simp at h,rfl,fun j c u h=>by simp at h⟩
  |cons p r ih =>
   obtain⟨us,h1,h2,h3⟩:=ih (o:=o+1) (fun j x hx=>by
    have:=hc (j+1) x (by simpa using hx)
    rw[show o+1+j=o+(j+1) from by omega];exact this)
   obtain⟨hp,u,hu,hr⟩:=hc 0 p rfl
   refine⟨u::us,by simp[h1],fun j v hv => ?_,by simp[h3.1],fun j c v Lz hv => ?_⟩
   ·cases j with
    |zero=>simp at hv;subst hv;rw[gk];exact hu
    |succ j =>
     have:=h2 j v (by simpa using hv)
     rw[gk] at this ⊢
     rw[show o+(j+1)=o+1+j from by omega];exact this
   ·cases j with
    |zero=>simp at Lz hv;subst Lz hv;exact⟨hp,hr⟩
    |succ j=>exact h3.2 j c v (by simpa using Lz) (by simpa using hv)
 obtain⟨us,h1,h2,h3⟩:=key
 have G5:=run_loadCells_list (P:=P) w ⟨b,o,none⟩ us h2
 refine⟨.agg us.toArray,?_,bJ.agg (by simpa using h3)⟩
 unfold loadVar
 rw[Sem.run_bind,hd.uW w,Result.andThen_ok,ha]
 simp only[if_true]
 rw[Sem.run_bind,hd.run_sizeOf w,Result.andThen_ok,←hl,←h1,Sem.run_bind,G5,Result.andThen_ok]
 rfl
theorem xz{t:TypeId}{d:TD}(hd:oy P t d)(ha:d.agg=true){b o:Nat}{fs:List FE}(hl:fs.length=d.size)
  (hc:∀(j:Nat) f,fs[j]? = some f→∃u,w.cell? ⟨b,o+j,none⟩=some u∧KQ β L I w f u) :
  ∃v,(loadVar t ⟨b,o,none⟩).run P w = .ok v w∧RE β L I w (.gj fs) v:=by
 have key:∃us:List Value,us.length=fs.length∧(∀j v,us[j]? = some v→w.cell? (Addr.add ⟨b,o,none⟩ j)=some v)∧∀(j:Nat) f u,fs[j]? = some f→us[j]? = some u→KQ β L I w f u:=by
  clear hl
  induction fs generalizing o with
  |nil=>exact⟨[],rfl,fun j v h=>by simp at h,fun j c u h=>by simp at h⟩
  |cons p r ih =>
   obtain⟨us,h1,h2,h3⟩:=ih (o:=o+1) (fun j x hx=>by
    have:=hc (j+1) x (by simpa using hx)
    rw[show o+1+j=o+(j+1) from by omega];exact this)
   obtain⟨u,hu,hr⟩:=hc 0 p rfl
   refine⟨u::us,by simp[h1],fun j v hv => ?_,fun j c v Lz hv => ?_⟩
   ·cases j with
    |zero=>simp at hv;subst hv;rw[gk];exact hu
    |succ j =>
     have:=h2 j v (by simpa using hv)
     rw[gk] at this ⊢
     rw[show o+(j+1)=o+1+j from by omega];exact this
   ·cases j with
    |zero=>simp at Lz hv;subst Lz hv;exact hr
    |succ j=>exact h3 j c v (by simpa using Lz) (by simpa using hv)
 obtain⟨us,h1,h2,h3⟩:=key
 have G5:=run_loadCells_list (P:=P) w ⟨b,o,none⟩ us h2
 refine⟨.agg us.toArray,?_,us.toArray,rfl,by simpa using h1,fun j f u hf hu=>h3 j f u hf (by simpa using hu)⟩
 unfold loadVar
 rw[Sem.run_bind,hd.uW w,Result.andThen_ok,ha]
 simp only[if_true]
 rw[Sem.run_bind,hd.run_sizeOf w,Result.andThen_ok,←hl,←h1,Sem.run_bind,G5,Result.andThen_ok]
 rfl
theorem mO{t:TypeId}{d:TD}(hd:oy P t d)(ha:d.agg=false){b o:Nat}{u:Value}(hc:w.cell? ⟨b,o,none⟩=some u) :
  (loadVar t ⟨b,o,none⟩).run P w = .ok u w:=by
 unfold loadVar
 rw[Sem.run_bind,hd.uW w,Result.andThen_ok,ha]
 simp[hc]
theorem RB.cell{r b:Nat}{cells:List EV}(h:RB β L I w r cells)(hb:β r=some b)(j:Nat)(e:EV)(hj:cells[j]? = some e):∃u,w.cell? ⟨b,j,none⟩=some u∧u.oneCell'=true∧RE β L I w e u:=by
 rcases h with ⟨h1,h2⟩|⟨b',arr,el,cX,h1,h2⟩
 ·rw[h1] at hb;cases hb
 ·rw[cX] at hb;injection hb with hb;subst hb
  obtain⟨u,h3,h4,h5⟩:=h2 j e hj
  exact⟨u,by simp[World.cell?,h1,h3],h4,h5⟩
theorem PV.iS{p:PV}{u:Value}(h:Rd I w p u)(ho:u.oneCell'=true):p.one=true:=by
 cases h<;>first|rfl|(simp [Value.oneCell'] at ho)
theorem zY{t:TypeId}{d:TD}(hd:oy P t d){r b off:Nat}{cells:List EV}(hb:RB β L I w r cells)(mX:β r=some b)(ax:AK d cells off h=some res)(cd:dw res.ob) :
  ∃v,(loadVar t ⟨b,off,none⟩).run P w = .ok v w∧RE β L I w res.val v∧res.new=none:=by
 unfold AK at ax
 have ES:∀ps:List PV,d.agg=true→(cells.drop off).take d.size=ps.map EV.pv→ps.length=d.size→∃v,(loadVar t ⟨b,off,none⟩).run P w = .ok v w∧Rd I w (.agg ps) v:=by
  intro ps ha h1 h2
  refine qT hd ha h2 (fun j x hx => ?_)
  have hj:j<d.size:=by rw[←h2];exact(List.getElem?_eq_some_iff.1 hx).1
  have:cells[off+j]? = some (EV.pv x):=by
   have h3:((cells.drop off).take d.size)[j]? = some (EV.pv x):=by rw[h1,List.getElem?_map,hx];rfl
   rw[List.getElem?_take,if_pos hj,List.getElem?_drop] at h3
   exact h3
  obtain⟨u,h4,h5,h6⟩:=hb.cell mX _ _ this
  exact⟨PV.iS h6 h5,u,h4,h6⟩
 cases ha:d.agg with
 |true =>
  simp only[ha,cond_true] at ax
  split at ax
  ·injection ax with ax;subst ax
   obtain⟨v,h1,h2⟩:=ES _ ha cd.cons.1 cd.cons.2
   exact⟨v,h1,h2,rfl⟩
  ·split at ax
   ·rename_i ps mP
    cases cX:Nat.beq ps.length d.size with
    |false=>simp[cX] at ax
    |true =>
     simp only[cX,cond_true,fC] at ax
     injection ax with ax;subst ax
     obtain⟨v,h1,h2⟩:=ES _ ha (xy mP) (Nat.eq_of_beq_eq_true cX)
     exact⟨v,h1,h2,rfl⟩
   ·split at ax
    ·rename_i fs EP
     cases cX:Nat.beq fs.length d.size with
     |false=>simp[cX] at ax
     |true =>
      simp only[cX,cond_true,fC] at ax
      injection ax with ax;subst ax
      have hl:fs.length=d.size:=Nat.eq_of_beq_eq_true cX
      obtain⟨v,h1,h2⟩:=xz (β:=β) (L:=L) (I:=I) (w:=w) (b:=b) (o:=off) hd ha hl (fun j f hf=>by
       have hj:j<d.size:=by rw[←hl];exact(List.getElem?_eq_some_iff.1 hf).1
       have:cells[off+j]? = some f.ev:=by
        have h3:((cells.drop off).take d.size)[j]? = some f.ev:=by rw[qk EP,List.getElem?_map,hf];rfl
        rw[List.getElem?_take,if_pos hj,List.getElem?_drop] at h3
        exact h3
       obtain⟨u,h4,h5,h6⟩:=hb.cell mX _ _ this
       refine⟨u,h4,?_⟩
       cases f with
       |pv p=>exact⟨PV.iS h6 h5,h6⟩
       |row r off len sz=>exact h6)
      exact⟨v,h1,h2,rfl⟩
    ·cases ax
 |false =>
  simp only[ha,cond_false] at ax
  split at ax
  ·injection ax with ax;subst ax
   obtain⟨u,h1,h2,h3⟩:=hb.cell mX _ _ cd
   exact⟨u,mO hd ha h1,h3,rfl⟩
  ·split at ax
   ·rename_i e he
    simp only[fC] at ax
    injection ax with ax;subst ax
    obtain⟨u,h1,h2,h3⟩:=hb.cell mX _ _ he
    exact⟨u,mO hd ha h1,h3,rfl⟩
   ·cases ax
theorem pf(hρ:∀x e,ρ x=some e→RE β L I w e (a.eval x)):∀(l:List (Nat×Operand)) (ps:List (Nat×PV)),oC ρ l=some ps→wV I w ps (l.map fun (i,x)=>(i,a.eval x))
 |[],ps,h=>by injection h with h;subst h;trivial
 |(i,x)::r,ps,h=>by
  unfold oC at h
  split at h
  ·rename_i p qs hx hr
   injection h with h;subst h
   exact⟨rfl,hρ x _ hx,pf hρ r qs hr⟩
  ·cases h
theorem AL{e:EV}{cs:List EV}{v:Value}(he:RE β L I w e v)(h:ml e=some cs):cs.length=v.cells.size:=by
 cases e with
 |pv p =>
  unfold ml at h
  cases ht:p.ra with
  |true=>simp[ht] at h
  |false =>
   simp only[ht,cond_false] at h
   injection h with h;subst h
   have:=(Rd.cells he (fun vs e=>by subst e;simp[PV.ra] at ht)).1
   simpa using this
 |row r off len sz =>
  injection h with h;subst h
  obtain⟨_,⟨_,_,rfl⟩|⟨b,c,_,rfl,_⟩⟩:=he<;>rfl
 |ptr r off =>
  injection h with h;subst h
  obtain⟨_,b,_,rfl⟩:=he;rfl
 |nh Pb =>
  injection h with h;subst h
  obtain⟨b,o,rfl,_⟩:=he;rfl
 |ox j len sz =>
  injection h with h;subst h
  obtain⟨_,⟨_,_,rfl⟩|⟨b,c,_,rfl,_⟩⟩:=he<;>rfl
 |mM j off =>
  injection h with h;subst h
  obtain⟨_,b,_,rfl⟩:=he;rfl
 |dead=>cases h
 |ni _ _ _ _ _=>cases h
 |lX _ _=>cases h
 |gj fs =>
  injection h with h;subst h
  obtain⟨us,rfl,g2,_⟩:=he
  simp[Value.cells,g2]
theorem sK(hρ:∀x e,ρ x=some e→RE β L I w e (a.eval x)):∀(l:List (Nat×Operand)) (ps:List (Nat×List FE)),qj ρ l=some ps→tU (fun f u=>u.oneCell'=true∧RE β L I w f.ev u) ps (l.map fun (i,x)=>(i,a.eval x))
 |[],ps,h=>by injection h with h;subst h;trivial
 |(i,x)::r,ps,h=>by
  unfold qj at h
  split at h
  ·rename_i fs qs hx hr
   injection h with h;subst h
   obtain⟨e,he,hx⟩:=Option.bind_eq_some_iff.1 hx
   obtain⟨es,GA,EP⟩:=Option.bind_eq_some_iff.1 hx
   have xA:=hρ x e he
   have FN:=qk EP
   refine⟨rfl,⟨?_,fun k c u hc hu => ?_⟩,sK hρ r qs hr⟩
   ·have:=AL xA GA
    rw[FN] at this
    simpa using this
   ·obtain⟨u',h1,h2,h3⟩:=mm xA GA k c.ev (by rw[FN,List.getElem?_map,hc];rfl)
    have:u=u':=by
     rw[Array.getElem?_toList] at hu
     rw[h1] at hu
     injection hu with hu;exact hu.symm
    subst this
    exact⟨h2,h3⟩
  ·cases h
end
end Go.Proofs.YtfjfekodeplcoaaGreat.Sym
