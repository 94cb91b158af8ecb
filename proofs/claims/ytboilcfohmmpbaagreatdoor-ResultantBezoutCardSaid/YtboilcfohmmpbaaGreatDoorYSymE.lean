/- Bezout and Accepts of the program answer as the reference does. -/
import Derived.Test.YtboilcfohmmpbaaGreatDoorYSymD
namespace Go.Proofs.YtboilcfohmmpbaaGreatDoor.Sym
open Go Go.RowKit
section
variable {P:Program} {T:Tab} {a:Act} {w:World} {β:Nat→Option Nat} {L I:Nat→Prop} {sto:Sto} {ρ:Operand→Option EV} {h:Hint} {res:OpRes}
structure Pre (a:Act) (w:World) (β:Nat→Option Nat) (L I:Nat→Prop) (sto:Sto) (ρ:Operand→Option EV):Prop where
 ev:∀x e,ρ x=some e→RE β L I w e (a.eval x)
 st:∀r sc,sto.get r=some sc→L r→RB β L I w r sc.evs
 lb:∀r b,L r→β r=some b→b<w.heap.size
 ib:∀b,I b→b<w.heap.size
def Does(P:Program)(o:Oper)(a:Act)(β:Nat→Option Nat)(L I:Nat→Prop)(w:World)(res:OpRes):Prop :=
 ∃v w',(execOp a.eval o).run P w = .ok (.value v) w'∧Post β L I w o.dst res v w'
theorem Does.pure{o:Oper}{e:EV}{v:Value}(h:(execOp a.eval o).run P w = .ok (.value v) w)(he:RE β L I w e v){ob:List Prop} : Does P o a β L I w ⟨e,none,ob⟩ :=
 ⟨v,w,h,Post.same he⟩
theorem RdCells.evs{cs:List PV}{us:List Value}(h:RdCells I w cs us)(j:Nat)(e:EV)(he:(cs.map EV.pv)[j]? = some e):∃u,us[j]? = some u∧u.oneCell'=true∧RE β L I w e u:=by
 rw[List.getElem?_map] at he
 cases hc:cs[j]? with
 |none=>simp[hc] at he
 |some c =>
  simp[hc] at he
  subst he
  have hj:j<us.length:=by rw[←h.1];exact(List.getElem?_eq_some_iff.1 hc).1
  have hu:us[j]? = some us[j]:=List.getElem?_eq_getElem hj
  obtain⟨h1,h2⟩:=h.2 j c _ hc hu
  exact⟨_,hu,h2.oneCell h1,h2⟩
theorem cellsEV_sound{e:EV}{cs:List EV}{v:Value}(he:RE β L I w e v)(h:cellsEV e=some cs)(j:Nat)(c:EV)(hc:cs[j]? = some c) :
  ∃u,v.cells[j]? = some u∧u.oneCell'=true∧RE β L I w c u:=by
 cases e with
 |pv p =>
  unfold cellsEV at h
  cases ht:p.isTup with
  |true=>simp[ht] at h
  |false =>
   simp[ht] at h
   subst h
   have hr:RdCells I w p.cells v.cells.toList:=Rd.cells he (fun vs e=>by subst e;simp[PV.isTup] at ht)
   obtain⟨u,h1,h2,h3⟩:=hr.evs (β:=β) (L:=L) j c hc
   exact⟨u,by simpa using h1,h2,h3⟩
 |ptr r off =>
  injection h with h;subst h
  cases j with
  |succ j=>simp at hc
  |zero =>
   simp at hc;subst hc
   obtain⟨h1,b,hb,rfl⟩:=he
   exact⟨_,rfl,rfl,h1,b,hb,rfl⟩
 |row r off len sz =>
  injection h with h;subst h
  cases j with
  |succ j=>simp at hc
  |zero =>
   simp at hc;subst hc
   have he':=he
   obtain⟨h1,⟨_,_,rfl⟩|⟨b,c,_,rfl,_⟩⟩:=he
   ·exact⟨_,rfl,rfl,he'⟩
   ·exact⟨_,rfl,rfl,he'⟩
 |mrow r len sz =>
  injection h with h;subst h
  cases j with
  |succ j=>simp at hc
  |zero =>
   simp at hc;subst hc
   have he':=he
   obtain⟨h1,⟨_,_,rfl⟩|⟨b,c,_,rfl,_⟩⟩:=he
   ·exact⟨_,rfl,rfl,he'⟩
   ·exact⟨_,rfl,rfl,he'⟩
 |mptr r off =>
  injection h with h;subst h
  cases j with
  |succ j=>simp at hc
  |zero =>
   simp at hc;subst hc
   obtain⟨h1,b,hb,rfl⟩:=he
   exact⟨_,rfl,rfl,h1,b,hb,rfl⟩
 |cptr cs' =>
  injection h with h;subst h
  cases j with
  |succ j=>simp at hc
  |zero =>
   simp at hc;subst hc
   have he':=he
   obtain⟨b,o,rfl,_⟩:=he
   exact⟨_,rfl,rfl,he'⟩
 |dead=>cases h
 |rowT _ _ _ _ _=>cases h
 |clo _ _=>cases h
theorem allPV_spec:∀{es:List EV} {ps:List PV},allPV es=some ps→es=ps.map EV.pv
 |[],ps,h=>by injection h with h;subst h;rfl
 |.pv p::r,ps,h=>by
  unfold allPV at h
  cases hr:allPV r with
  |none=>simp[hr] at h
  |some qs =>
   simp[hr] at h
   subst h
   simp[allPV_spec hr]
 |.ptr .. :: _,ps,h=>by simp[allPV] at h
 |.row .. :: _,ps,h=>by simp[allPV] at h
 |.cptr .. :: _,ps,h=>by simp[allPV] at h
 |.dead::_,ps,h=>by simp[allPV] at h
 |.rowT .. :: _,ps,h=>by simp[allPV] at h
 |.clo .. :: _,ps,h=>by simp[allPV] at h
 |.mrow .. :: _,ps,h=>by simp[allPV] at h
 |.mptr .. :: _,ps,h=>by simp[allPV] at h
theorem add_addr(b o n:Nat):(⟨b,o,none⟩:Addr).add n=⟨b,o+n,none⟩:=by
 unfold Addr.add;split<;>simp_all
theorem run_loadVar_agg{t:TypeId}{d:TD}(hd:TDok P t d)(ha:d.agg=true){b o:Nat}{ps:List PV}(hl:ps.length=d.size)
  (hc:∀(j:Nat) x,ps[j]? = some x→x.one=true∧∃u,w.cell? ⟨b,o+j,none⟩=some u∧Rd I w x u) :
  ∃v,(loadVar t ⟨b,o,none⟩).run P w = .ok v w∧Rd I w (.agg ps) v:=by
 have key:∃us:List Value,us.length=ps.length∧(∀j v,us[j]? = some v→w.cell? (Addr.add ⟨b,o,none⟩ j)=some v)∧RdCells I w ps us:=by
  clear hl
  induction ps generalizing o with
  |nil=>exact⟨[],rfl,fun j v h=>by simp at h,rfl,fun j c u h=>by simp at h⟩
  |cons p r ih =>
   obtain⟨us,h1,h2,h3⟩:=ih (o:=o+1) (fun j x hx=>by
    have:=hc (j+1) x (by simpa using hx)
    rw[show o+1+j=o+(j+1) from by omega];exact this)
   obtain⟨hp,u,hu,hr⟩:=hc 0 p rfl
   refine⟨u::us,by simp[h1],fun j v hv => ?_,by simp[h3.1],fun j c v hcj hv => ?_⟩
   ·cases j with
    |zero=>simp at hv;subst hv;rw[add_addr];exact hu
    |succ j =>
     have:=h2 j v (by simpa using hv)
     rw[add_addr] at this ⊢
     rw[show o+(j+1)=o+1+j from by omega];exact this
   ·cases j with
    |zero=>simp at hcj hv;subst hcj hv;exact⟨hp,hr⟩
    |succ j=>exact h3.2 j c v (by simpa using hcj) (by simpa using hv)
 obtain⟨us,h1,h2,h3⟩:=key
 have hload:=run_loadCells_list (P:=P) w ⟨b,o,none⟩ us h2
 refine⟨.agg us.toArray,?_,RdCells.agg (by simpa using h3)⟩
 unfold loadVar
 rw[Sem.run_bind,hd.run_isAgg w,Result.andThen_ok,ha]
 simp only[if_true]
 rw[Sem.run_bind,hd.run_sizeOf w,Result.andThen_ok,←hl,←h1,Sem.run_bind,hload,Result.andThen_ok]
 rfl
theorem run_loadVar_one{t:TypeId}{d:TD}(hd:TDok P t d)(ha:d.agg=false){b o:Nat}{u:Value}(hc:w.cell? ⟨b,o,none⟩=some u) :
  (loadVar t ⟨b,o,none⟩).run P w = .ok u w:=by
 unfold loadVar
 rw[Sem.run_bind,hd.run_isAgg w,Result.andThen_ok,ha]
 simp[hc]
theorem RB.cell{r b:Nat}{cells:List EV}(h:RB β L I w r cells)(hb:β r=some b)(j:Nat)(e:EV)(hj:cells[j]? = some e):∃u,w.cell? ⟨b,j,none⟩=some u∧u.oneCell'=true∧RE β L I w e u:=by
 rcases h with ⟨h1,h2⟩|⟨b',arr,el,hb',h1,h2⟩
 ·rw[h1] at hb;cases hb
 ·rw[hb'] at hb;injection hb with hb;subst hb
  obtain⟨u,h3,h4,h5⟩:=h2 j e hj
  exact⟨u,by simp[World.cell?,h1,h3],h4,h5⟩
theorem PV.one_of_cell{p:PV}{u:Value}(h:Rd I w p u)(ho:u.oneCell'=true):p.one=true:=by
 cases h<;>first|rfl|(simp [Value.oneCell'] at ho)
theorem load_site{t:TypeId}{d:TD}(hd:TDok P t d){r b off:Nat}{cells:List EV}(hb:RB β L I w r cells)(hbr:β r=some b)(hrun:loadEV d cells off h=some res)(hob:Alls res.ob) :
  ∃v,(loadVar t ⟨b,off,none⟩).run P w = .ok v w∧RE β L I w res.val v∧res.new=none:=by
 unfold loadEV at hrun
 have aggCase:∀ps:List PV,d.agg=true→(cells.drop off).take d.size=ps.map EV.pv→ps.length=d.size→∃v,(loadVar t ⟨b,off,none⟩).run P w = .ok v w∧Rd I w (.agg ps) v:=by
  intro ps ha h1 h2
  refine run_loadVar_agg hd ha h2 (fun j x hx => ?_)
  have hj:j<d.size:=by rw[←h2];exact(List.getElem?_eq_some_iff.1 hx).1
  have:cells[off+j]? = some (EV.pv x):=by
   have h3:((cells.drop off).take d.size)[j]? = some (EV.pv x):=by rw[h1,List.getElem?_map,hx];rfl
   rw[List.getElem?_take,if_pos hj,List.getElem?_drop] at h3
   exact h3
  obtain⟨u,h4,h5,h6⟩:=hb.cell hbr _ _ this
  exact⟨PV.one_of_cell h6 h5,u,h4,h6⟩
 cases ha:d.agg with
 |true =>
  simp only[ha,cond_true] at hrun
  split at hrun
  ·injection hrun with hrun;subst hrun
   obtain⟨v,h1,h2⟩:=aggCase _ ha hob.cons.1 hob.cons.2
   exact⟨v,h1,h2,rfl⟩
  ·split at hrun
   ·rename_i ps hps
    cases hb':Nat.beq ps.length d.size with
    |false=>simp[hb'] at hrun
    |true =>
     simp only[hb',cond_true,pure1] at hrun
     injection hrun with hrun;subst hrun
     obtain⟨v,h1,h2⟩:=aggCase _ ha (allPV_spec hps) (Nat.eq_of_beq_eq_true hb')
     exact⟨v,h1,h2,rfl⟩
   ·cases hrun
 |false =>
  simp only[ha,cond_false] at hrun
  split at hrun
  ·injection hrun with hrun;subst hrun
   obtain⟨u,h1,h2,h3⟩:=hb.cell hbr _ _ hob
   exact⟨u,run_loadVar_one hd ha h1,h3,rfl⟩
  ·split at hrun
   ·rename_i e he
    simp only[pure1] at hrun
    injection hrun with hrun;subst hrun
    obtain⟨u,h1,h2,h3⟩:=hb.cell hbr _ _ he
    exact⟨u,run_loadVar_one hd ha h1,h3,rfl⟩
   ·cases hrun
theorem partsPV_sound(hρ:∀x e,ρ x=some e→RE β L I w e (a.eval x)):∀(l:List (Nat×Operand)) (ps:List (Nat×PV)),partsPV ρ l=some ps→RdParts I w ps (l.map fun (i,x)=>(i,a.eval x))
 |[],ps,h=>by injection h with h;subst h;trivial
 |(i,x)::r,ps,h=>by
  unfold partsPV at h
  split at h
  ·rename_i p qs hx hr
   injection h with h;subst h
   exact⟨rfl,hρ x _ hx,partsPV_sound hρ r qs hr⟩
  ·cases h
end
end Go.Proofs.YtboilcfohmmpbaaGreatDoor.Sym
