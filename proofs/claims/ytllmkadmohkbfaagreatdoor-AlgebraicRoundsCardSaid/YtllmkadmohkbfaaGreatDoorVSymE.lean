/- Lemmas for the statements of this seat. -/
import Derived.Test.YtllmkadmohkbfaaGreatDoorVSymD
namespace Go.Proofs.YtllmkadmohkbfaaGreatDoor.Sym
open Go Go.RowKit
section
variable {P:Program} {T:kL} {a:Act} {w:World} {β:Nat→Option Nat} {L I:Nat→Prop} {aG:aS} {ρ:Operand→Option EV} {h:Hint} {res:nZ}
structure zG (a:Act) (w:World) (β:Nat→Option Nat) (L I:Nat→Prop) (aG:aS) (ρ:Operand→Option EV):Prop where
 ev:∀x e,ρ x=some e→RE β L I w e (a.eval x)
 st:∀r sc,aG.get r=some sc→L r→RB β L I w r sc.sE
 lb:∀r b,L r→β r=some b→b<w.heap.size
 ib:∀b,I b→b<w.heap.size
def dq(P:Program)(o:Oper)(a:Act)(β:Nat→Option Nat)(L I:Nat→Prop)(w:World)(res:nZ):Prop :=
 ∃v w',(execOp a.eval o).run P w = .ok (.value v) w'∧vh β L I w o.dst res v w'
theorem dq.pure{o:Oper}{e:EV}{v:Value}(h:(execOp a.eval o).run P w = .ok (.value v) w)(he:RE β L I w e v){ob:List Prop} : dq P o a β L I w ⟨e,none,ob⟩ :=
 ⟨v,w,h,vh.same he⟩
theorem bV.sE{cs:List PV}{us:List Value}(h:bV I w cs us)(j:Nat)(e:EV)(he:(cs.map EV.pv)[j]? = some e):∃u,us[j]? = some u∧u.oneCell'=true∧RE β L I w e u:=by
 rw[List.getElem?_map] at he
 cases hc:cs[j]? with
 |none=>simp[hc] at he
 |some c =>
  simp[hc] at he
  subst he
  have hj:j<us.length:=by rw[←h.1];exact(List.getElem?_eq_some_iff.1 hc).1
  have hu:us[j]? = some us[j]:=List.getElem?_eq_getElem hj
  obtain⟨h1,h2⟩:=h.2 j c _ hc hu
  exact⟨_,hu,h2.lM h1,h2⟩
theorem qy{e:EV}{cs:List EV}{v:Value}(he:RE β L I w e v)(h:rC e=some cs)(j:Nat)(c:EV)(hc:cs[j]? = some c) :
  ∃u,v.cells[j]? = some u∧u.oneCell'=true∧RE β L I w c u:=by
 cases e with
 |pv p =>
  unfold rC at h
  cases ht:p.wc with
  |true=>simp[ht] at h
  |false =>
   simp[ht] at h
   subst h
   have hr:bV I w p.cells v.cells.toList:=Rd.cells he (fun vs e=>by subst e;simp[PV.wc] at ht)
   obtain⟨u,h1,h2,h3⟩:=hr.sE (β:=β) (L:=L) j c hc
   exact⟨u,by simpa using h1,h2,h3⟩
 |ptr r off =>
  injection h with h;subst h
  cases j with
  |succ j=>simp at hc
  |zero =>
   simp at hc;subst hc
   obtain⟨h1,b,hb,rfl⟩:=he
   exact⟨_,rfl,rfl,h1,b,hb,rfl⟩
 |row r off len sz =>
  injection h with h;subst h
  cases j with
  |succ j=>simp at hc
  |zero =>
   simp at hc;subst hc
   have hO:=he
   obtain⟨h1,⟨_,_,rfl⟩|⟨b,c,_,rfl,_⟩⟩:=he
   ·exact⟨_,rfl,rfl,hO⟩
   ·exact⟨_,rfl,rfl,hO⟩
 |qM r len sz =>
  injection h with h;subst h
  cases j with
  |succ j=>simp at hc
  |zero =>
   simp at hc;subst hc
   have hO:=he
   obtain⟨h1,⟨_,_,rfl⟩|⟨b,c,_,rfl,_⟩⟩:=he
   ·exact⟨_,rfl,rfl,hO⟩
   ·exact⟨_,rfl,rfl,hO⟩
 |oA r off =>
  injection h with h;subst h
  cases j with
  |succ j=>simp at hc
  |zero =>
   simp at hc;subst hc
   obtain⟨h1,b,hb,rfl⟩:=he
   exact⟨_,rfl,rfl,h1,b,hb,rfl⟩
 |pz Vt =>
  injection h with h;subst h
  cases j with
  |succ j=>simp at hc
  |zero =>
   simp at hc;subst hc
   have hO:=he
   obtain⟨b,o,rfl,_⟩:=he
   exact⟨_,rfl,rfl,hO⟩
 |dead=>cases h
 |pA _ _ _ _ _=>cases h
 |Cu _ _=>cases h
theorem AG:∀{es:List EV} {ps:List PV},qP es=some ps→es=ps.map EV.pv
 |[],ps,h=>by injection h with h;subst h;rfl
 |.pv p::r,ps,h=>by
  unfold qP at h
  cases hr:qP r with
  |none=>simp[hr] at h
  |some qs =>
   simp[hr] at h
   subst h
   simp[AG hr]
 |.ptr .. :: _,ps,h=>by simp[qP] at h
 |.row .. :: _,ps,h=>by simp[qP] at h
 |.pz .. :: _,ps,h=>by simp[qP] at h
 |.dead::_,ps,h=>by simp[qP] at h
 |.pA .. :: _,ps,h=>by simp[qP] at h
 |.Cu .. :: _,ps,h=>by simp[qP] at h
 |.qM .. :: _,ps,h=>by simp[qP] at h
 |.oA .. :: _,ps,h=>by simp[qP] at h
theorem iZ(b o n:Nat):(⟨b,o,none⟩:Addr).add n=⟨b,o+n,none⟩:=by
 unfold Addr.add;split<;>simp_all
theorem sF{t:TypeId}{d:TD}(hd:qN P t d)(ha:d.agg=true){b o:Nat}{ps:List PV}(hl:ps.length=d.size)
  (hc:∀(j:Nat) x,ps[j]? = some x→x.one=true∧∃u,w.cell? ⟨b,o+j,none⟩=some u∧Rd I w x u) :
  ∃v,(loadVar t ⟨b,o,none⟩).run P w = .ok v w∧Rd I w (.agg ps) v:=by
 have key:∃us:List Value,us.length=ps.length∧(∀j v,us[j]? = some v→w.cell? (Addr.add ⟨b,o,none⟩ j)=some v)∧bV I w ps us:=by
  clear hl
  induction ps generalizing o with
  |nil=>exact⟨[],rfl,fun j v h=>by simp at h,rfl,fun j c u h=>by simp at h⟩
  |cons p r ih =>
   obtain⟨us,h1,h2,h3⟩:=ih (o:=o+1) (fun j x hx=>by
    have:=hc (j+1) x (by simpa using hx)
    rw[show o+1+j=o+(j+1) from by omega];exact this)
   obtain⟨hp,u,hu,hr⟩:=hc 0 p rfl
   refine⟨u::us,by simp[h1],fun j v hv => ?_,by simp[h3.1],fun j c v Vu hv => ?_⟩
   ·cases j with
    |zero=>simp at hv;subst hv;rw[iZ];exact hu
    |succ j =>
     have:=h2 j v (by simpa using hv)
     rw[iZ] at this ⊢
     rw[show o+(j+1)=o+1+j from by omega];exact this
   ·cases j with
    |zero=>simp at Vu hv;subst Vu hv;exact⟨hp,hr⟩
    |succ j=>exact h3.2 j c v (by simpa using Vu) (by simpa using hv)
 obtain⟨us,h1,h2,h3⟩:=key
 have S9:=run_loadCells_list (P:=P) w ⟨b,o,none⟩ us h2
 refine⟨.agg us.toArray,?_,bV.agg (by simpa using h3)⟩
 unfold loadVar
 rw[Sem.run_bind,hd.CX w,Result.andThen_ok,ha]
 simp only[if_true]
 rw[Sem.run_bind,hd.run_sizeOf w,Result.andThen_ok,←hl,←h1,Sem.run_bind,S9,Result.andThen_ok]
 rfl
theorem nN{t:TypeId}{d:TD}(hd:qN P t d)(ha:d.agg=false){b o:Nat}{u:Value}(hc:w.cell? ⟨b,o,none⟩=some u) :
  (loadVar t ⟨b,o,none⟩).run P w = .ok u w:=by
 unfold loadVar
 rw[Sem.run_bind,hd.CX w,Result.andThen_ok,ha]
 simp[hc]
theorem RB.cell{r b:Nat}{cells:List EV}(h:RB β L I w r cells)(hb:β r=some b)(j:Nat)(e:EV)(hj:cells[j]? = some e):∃u,w.cell? ⟨b,j,none⟩=some u∧u.oneCell'=true∧RE β L I w e u:=by
 rcases h with ⟨h1,h2⟩|⟨b',arr,el,fz,h1,h2⟩
 ·rw[h1] at hb;cases hb
 ·rw[fz] at hb;injection hb with hb;subst hb
  obtain⟨u,h3,h4,h5⟩:=h2 j e hj
  exact⟨u,by simp[World.cell?,h1,h3],h4,h5⟩
theorem PV.pE{p:PV}{u:Value}(h:Rd I w p u)(ho:u.oneCell'=true):p.one=true:=by
 cases h<;>first|rfl|(simp [Value.oneCell'] at ho)
theorem C2{t:TypeId}{d:TD}(hd:qN P t d){r b off:Nat}{cells:List EV}(hb:RB β L I w r cells)(oe:β r=some b)(aq:D1 d cells off h=some res)(cr:dP res.ob) :
  ∃v,(loadVar t ⟨b,off,none⟩).run P w = .ok v w∧RE β L I w res.val v∧res.new=none:=by
 unfold D1 at aq
 have I4:∀ps:List PV,d.agg=true→(cells.drop off).take d.size=ps.map EV.pv→ps.length=d.size→∃v,(loadVar t ⟨b,off,none⟩).run P w = .ok v w∧Rd I w (.agg ps) v:=by
  intro ps ha h1 h2
  refine sF hd ha h2 (fun j x hx => ?_)
  have hj:j<d.size:=by rw[←h2];exact(List.getElem?_eq_some_iff.1 hx).1
  have:cells[off+j]? = some (EV.pv x):=by
   have h3:((cells.drop off).take d.size)[j]? = some (EV.pv x):=by rw[h1,List.getElem?_map,hx];rfl
   rw[List.getElem?_take,if_pos hj,List.getElem?_drop] at h3
   exact h3
  obtain⟨u,h4,h5,h6⟩:=hb.cell oe _ _ this
  exact⟨PV.pE h6 h5,u,h4,h6⟩
 cases ha:d.agg with
 |true =>
  simp only[ha,cond_true] at aq
  split at aq
  ·injection aq with aq;subst aq
   obtain⟨v,h1,h2⟩:=I4 _ ha cr.cons.1 cr.cons.2
   exact⟨v,h1,h2,rfl⟩
  ·split at aq
   ·rename_i ps ov
    cases fz:Nat.beq ps.length d.size with
    |false=>simp[fz] at aq
    |true =>
     simp only[fz,cond_true,gJ] at aq
     injection aq with aq;subst aq
     obtain⟨v,h1,h2⟩:=I4 _ ha (AG ov) (Nat.eq_of_beq_eq_true fz)
     exact⟨v,h1,h2,rfl⟩
   ·cases aq
 |false =>
  simp only[ha,cond_false] at aq
  split at aq
  ·injection aq with aq;subst aq
   obtain⟨u,h1,h2,h3⟩:=hb.cell oe _ _ cr
   exact⟨u,nN hd ha h1,h3,rfl⟩
  ·split at aq
   ·rename_i e he
    simp only[gJ] at aq
    injection aq with aq;subst aq
    obtain⟨u,h1,h2,h3⟩:=hb.cell oe _ _ he
    exact⟨u,nN hd ha h1,h3,rfl⟩
   ·cases aq
theorem qz(hρ:∀x e,ρ x=some e→RE β L I w e (a.eval x)):∀(l:List (Nat×Operand)) (ps:List (Nat×PV)),pD ρ l=some ps→zX I w ps (l.map fun (i,x)=>(i,a.eval x))
 |[],ps,h=>by injection h with h;subst h;trivial
 |(i,x)::r,ps,h=>by
  unfold pD at h
  split at h
  ·rename_i p qs hx hr
   injection h with h;subst h
   exact⟨rfl,hρ x _ hx,qz hρ r qs hr⟩
  ·cases h
end
end Go.Proofs.YtllmkadmohkbfaaGreatDoor.Sym
