/- The comparison of algebraic numbers is a total order that agrees with the comparison with fractions. The law AlgebraicOrder returns true for every input, with the tables of numerals of the Go library that the row lists as they are laid. -/
import Derived.Test.YtllmkadmohkbfaaGreatDoorYSymD
namespace Go.Proofs.YtllmkadmohkbfaaGreatDoor.Sym
open Go Go.RowKit
section
variable {P:Program} {T:j0} {a:Act} {w:World} {β:Nat→Option Nat} {L I:Nat→Prop} {aG:aS} {ρ:Operand→Option EV} {h:Hint} {res:mN}
structure xR (a:Act) (w:World) (β:Nat→Option Nat) (L I:Nat→Prop) (aG:aS) (ρ:Operand→Option EV):Prop where
 ev:∀x e,ρ x=some e→RE β L I w e (a.eval x)
 st:∀r sc,aG.get r=some sc→L r→RB β L I w r sc.qR
 lb:∀r b,L r→β r=some b→b<w.heap.size
 ib:∀b,I b→b<w.heap.size
def cY(P:Program)(o:Oper)(a:Act)(β:Nat→Option Nat)(L I:Nat→Prop)(w:World)(res:mN):Prop :=
 ∃v w',(execOp a.eval o).run P w = .ok (.value v) w'∧tJ β L I w o.dst res v w'
theorem cY.pure{o:Oper}{e:EV}{v:Value}(h:(execOp a.eval o).run P w = .ok (.value v) w)(he:RE β L I w e v){ob:List Prop} : cY P o a β L I w ⟨e,none,ob⟩ :=
 ⟨v,w,h,tJ.same he⟩
theorem bQ.qR{cs:List PV}{us:List Value}(h:bQ I w cs us)(j:Nat)(e:EV)(he:(cs.map EV.pv)[j]? = some e):∃u,us[j]? = some u∧u.oneCell'=true∧RE β L I w e u:=by
 rw[List.getElem?_map] at he
 cases hc:cs[j]? with
 |none=>simp[hc] at he
 |some c =>
  simp[hc] at he
  subst he
  have hj:j<us.length:=by rw[←h.1];exact(List.getElem?_eq_some_iff.1 hc).1
  have hu:us[j]? = some us[j]:=List.getElem?_eq_getElem hj
  obtain⟨h1,h2⟩:=h.2 j c _ hc hu
  exact⟨_,hu,h2.kJ h1,h2⟩
theorem oV{e:EV}{cs:List EV}{v:Value}(he:RE β L I w e v)(h:pW e=some cs)(j:Nat)(c:EV)(hc:cs[j]? = some c) :
  ∃u,v.cells[j]? = some u∧u.oneCell'=true∧RE β L I w c u:=by
 cases e with
 |pv p =>
  unfold pW at h
  cases ht:p.td with
  |true=>simp[ht] at h
  |false =>
   simp[ht] at h
   subst h
   have hr:bQ I w p.cells v.cells.toList:=Rd.cells he (fun vs e=>by subst e;simp[PV.td] at ht)
   obtain⟨u,h1,h2,h3⟩:=hr.qR (β:=β) (L:=L) j c hc
   exact⟨u,by simpa using h1,h2,h3⟩
 |ptr r off =>
  injection h with h;subst h
  cases j with
  |succ j=>simp at hc
  |zero =>
   simp at hc;subst hc
   obtain⟨h1,b,hb,rfl⟩:=he
   exact⟨_,rfl,rfl,h1,b,hb,rfl⟩
 |row r off len sz =>
  injection h with h;subst h
  cases j with
  |succ j=>simp at hc
  |zero =>
   simp at hc;subst hc
   have gn:=he
   obtain⟨h1,⟨_,_,rfl⟩|⟨b,c,_,rfl,_⟩⟩:=he
   ·exact⟨_,rfl,rfl,gn⟩
   ·exact⟨_,rfl,rfl,gn⟩
 |pg r len sz =>
  injection h with h;subst h
  cases j with
  |succ j=>simp at hc
  |zero =>
   simp at hc;subst hc
   have gn:=he
   obtain⟨h1,⟨_,_,rfl⟩|⟨b,c,_,rfl,_⟩⟩:=he
   ·exact⟨_,rfl,rfl,gn⟩
   ·exact⟨_,rfl,rfl,gn⟩
 |nj r off =>
  injection h with h;subst h
  cases j with
  |succ j=>simp at hc
  |zero =>
   simp at hc;subst hc
   obtain⟨h1,b,hb,rfl⟩:=he
   exact⟨_,rfl,rfl,h1,b,hb,rfl⟩
 |n6 Ti =>
  injection h with h;subst h
  cases j with
  |succ j=>simp at hc
  |zero =>
   simp at hc;subst hc
   have gn:=he
   obtain⟨b,o,rfl,_⟩:=he
   exact⟨_,rfl,rfl,gn⟩
 |dead=>cases h
 |n7 _ _ _ _ _=>cases h
 |AT _ _=>cases h
theorem yJ:∀{es:List EV} {ps:List PV},pk es=some ps→es=ps.map EV.pv
 |[],ps,h=>by injection h with h;subst h;rfl
 |.pv p::r,ps,h=>by
  unfold pk at h
  cases hr:pk r with
  |none=>simp[hr] at h
  |some qs =>
   simp[hr] at h
   subst h
   simp[yJ hr]
 |.ptr .. :: _,ps,h=>by simp[pk] at h
 |.row .. :: _,ps,h=>by simp[pk] at h
 |.n6 .. :: _,ps,h=>by simp[pk] at h
 |.dead::_,ps,h=>by simp[pk] at h
 |.n7 .. :: _,ps,h=>by simp[pk] at h
 |.AT .. :: _,ps,h=>by simp[pk] at h
 |.pg .. :: _,ps,h=>by simp[pk] at h
 |.nj .. :: _,ps,h=>by simp[pk] at h
theorem ia(b o n:Nat):(⟨b,o,none⟩:Addr).add n=⟨b,o+n,none⟩:=by
 unfold Addr.add;split<;>simp_all
theorem qS{t:TypeId}{d:TD}(hd:ph P t d)(ha:d.agg=true){b o:Nat}{ps:List PV}(hl:ps.length=d.size)
  (hc:∀(j:Nat) x,ps[j]? = some x→x.one=true∧∃u,w.cell? ⟨b,o+j,none⟩=some u∧Rd I w x u) :
  ∃v,(loadVar t ⟨b,o,none⟩).run P w = .ok v w∧Rd I w (.agg ps) v:=by
 have key:∃us:List Value,us.length=ps.length∧(∀j v,us[j]? = some v→w.cell? (Addr.add ⟨b,o,none⟩ j)=some v)∧bQ I w ps us:=by
  clear hl
  induction ps generalizing o with
  |nil=>exact⟨[],rfl,fun j v h=>by simp at h,rfl,fun j c u h=>by simp at h⟩
  |cons p r ih =>
   obtain⟨us,h1,h2,h3⟩:=ih (o:=o+1) (fun j x hx=>by
    have:=hc (j+1) x (by simpa using hx)
    rw[show o+1+j=o+(j+1) from by omega];exact this)
   obtain⟨hp,u,hu,hr⟩:=hc 0 p rfl
   refine⟨u::us,by simp[h1],fun j v hv => ?_,by simp[h3.1],fun j c v Tj hv => ?_⟩
   ·cases j with
    |zero=>simp at hv;subst hv;rw[ia];exact hu
    |succ j =>
     have:=h2 j v (by simpa using hv)
     rw[ia] at this ⊢
     rw[show o+(j+1)=o+1+j from by omega];exact this
   ·cases j with
    |zero=>simp at Tj hv;subst Tj hv;exact⟨hp,hr⟩
    |succ j=>exact h3.2 j c v (by simpa using Tj) (by simpa using hv)
 obtain⟨us,h1,h2,h3⟩:=key
 have Q2:=run_loadCells_list (P:=P) w ⟨b,o,none⟩ us h2
 refine⟨.agg us.toArray,?_,bQ.agg (by simpa using h3)⟩
 unfold loadVar
 rw[Sem.run_bind,hd.Bp w,Result.andThen_ok,ha]
 simp only[if_true]
 rw[Sem.run_bind,hd.run_sizeOf w,Result.andThen_ok,←hl,←h1,Sem.run_bind,Q2,Result.andThen_ok]
 rfl
theorem mD{t:TypeId}{d:TD}(hd:ph P t d)(ha:d.agg=false){b o:Nat}{u:Value}(hc:w.cell? ⟨b,o,none⟩=some u) :
  (loadVar t ⟨b,o,none⟩).run P w = .ok u w:=by
 unfold loadVar
 rw[Sem.run_bind,hd.Bp w,Result.andThen_ok,ha]
 simp[hc]
theorem RB.cell{r b:Nat}{cells:List EV}(h:RB β L I w r cells)(hb:β r=some b)(j:Nat)(e:EV)(hj:cells[j]? = some e):∃u,w.cell? ⟨b,j,none⟩=some u∧u.oneCell'=true∧RE β L I w e u:=by
 rcases h with ⟨h1,h2⟩|⟨b',arr,el,eN,h1,h2⟩
 ·rw[h1] at hb;cases hb
 ·rw[eN] at hb;injection hb with hb;subst hb
  obtain⟨u,h3,h4,h5⟩:=h2 j e hj
  exact⟨u,by simp[World.cell?,h1,h3],h4,h5⟩
theorem PV.oa{p:PV}{u:Value}(h:Rd I w p u)(ho:u.oneCell'=true):p.one=true:=by
 cases h<;>first|rfl|(simp [Value.oneCell'] at ho)
theorem Bu{t:TypeId}{d:TD}(hd:ph P t d){r b off:Nat}{cells:List EV}(hb:RB β L I w r cells)(mS:β r=some b)(aq:Ct d cells off h=some res)(cb:dA res.ob) :
  ∃v,(loadVar t ⟨b,off,none⟩).run P w = .ok v w∧RE β L I w res.val v∧res.new=none:=by
 unfold Ct at aq
 have G6:∀ps:List PV,d.agg=true→(cells.drop off).take d.size=ps.map EV.pv→ps.length=d.size→∃v,(loadVar t ⟨b,off,none⟩).run P w = .ok v w∧Rd I w (.agg ps) v:=by
  intro ps ha h1 h2
  refine qS hd ha h2 (fun j x hx => ?_)
  have hj:j<d.size:=by rw[←h2];exact(List.getElem?_eq_some_iff.1 hx).1
  have:cells[off+j]? = some (EV.pv x):=by
   have h3:((cells.drop off).take d.size)[j]? = some (EV.pv x):=by rw[h1,List.getElem?_map,hx];rfl
   rw[List.getElem?_take,if_pos hj,List.getElem?_drop] at h3
   exact h3
  obtain⟨u,h4,h5,h6⟩:=hb.cell mS _ _ this
  exact⟨PV.oa h6 h5,u,h4,h6⟩
 cases ha:d.agg with
 |true =>
  simp only[ha,cond_true] at aq
  split at aq
  ·injection aq with aq;subst aq
   obtain⟨v,h1,h2⟩:=G6 _ ha cb.cons.1 cb.cons.2
   exact⟨v,h1,h2,rfl⟩
  ·split at aq
   ·rename_i ps na
    cases eN:Nat.beq ps.length d.size with
    |false=>simp[eN] at aq
    |true =>
     simp only[eN,cond_true,fS] at aq
     injection aq with aq;subst aq
     obtain⟨v,h1,h2⟩:=G6 _ ha (yJ na) (Nat.eq_of_beq_eq_true eN)
     exact⟨v,h1,h2,rfl⟩
   ·cases aq
 |false =>
  simp only[ha,cond_false] at aq
  split at aq
  ·injection aq with aq;subst aq
   obtain⟨u,h1,h2,h3⟩:=hb.cell mS _ _ cb
   exact⟨u,mD hd ha h1,h3,rfl⟩
  ·split at aq
   ·rename_i e he
    simp only[fS] at aq
    injection aq with aq;subst aq
    obtain⟨u,h1,h2,h3⟩:=hb.cell mS _ _ he
    exact⟨u,mD hd ha h1,h3,rfl⟩
   ·cases aq
theorem oW(hρ:∀x e,ρ x=some e→RE β L I w e (a.eval x)):∀(l:List (Nat×Operand)) (ps:List (Nat×PV)),n9 ρ l=some ps→yc I w ps (l.map fun (i,x)=>(i,a.eval x))
 |[],ps,h=>by injection h with h;subst h;trivial
 |(i,x)::r,ps,h=>by
  unfold n9 at h
  split at h
  ·rename_i p qs hx hr
   injection h with h;subst h
   exact⟨rfl,hρ x _ hx,oW hρ r qs hr⟩
  ·cases h
end
end Go.Proofs.YtllmkadmohkbfaaGreatDoor.Sym
