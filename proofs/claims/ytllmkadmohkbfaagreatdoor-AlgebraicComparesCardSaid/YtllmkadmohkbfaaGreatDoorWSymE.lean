/- Lemmas for the statements of this seat. -/
import Derived.Test.YtllmkadmohkbfaaGreatDoorWSymD
namespace Go.Proofs.YtllmkadmohkbfaaGreatDoor.Sym
open Go Go.RowKit
section
variable {P:Program} {T:qU} {a:Act} {w:World} {β:Nat→Option Nat} {L I:Nat→Prop} {bp:cq} {ρ:Operand→Option EV} {h:Hint} {res:uC}
structure Fk (a:Act) (w:World) (β:Nat→Option Nat) (L I:Nat→Prop) (bp:cq) (ρ:Operand→Option EV):Prop where
 ev:∀x e,ρ x=some e→RE β L I w e (a.eval x)
 st:∀r sc,bp.get r=some sc→L r→RB β L I w r sc.zw
 lb:∀r b,L r→β r=some b→b<w.heap.size
 ib:∀b,I b→b<w.heap.size
def im(P:Program)(o:Oper)(a:Act)(β:Nat→Option Nat)(L I:Nat→Prop)(w:World)(res:uC):Prop :=
 ∃v w',(execOp a.eval o).run P w = .ok (.value v) w'∧BC β L I w o.dst res v w'
theorem im.pure{o:Oper}{e:EV}{v:Value}(h:(execOp a.eval o).run P w = .ok (.value v) w)(he:RE β L I w e v){ob:List Prop} : im P o a β L I w ⟨e,none,ob⟩ :=
 ⟨v,w,h,BC.same he⟩
theorem eh.zw{cs:List PV}{us:List Value}(h:eh I w cs us)(j:Nat)(e:EV)(he:(cs.map EV.pv)[j]? = some e):∃u,us[j]? = some u∧u.oneCell'=true∧RE β L I w e u:=by
 rw[List.getElem?_map] at he
 cases hc:cs[j]? with
 |none=>simp[hc] at he
 |some c =>
  simp[hc] at he
  subst he
  have hj:j<us.length:=by rw[←h.1];exact(List.getElem?_eq_some_iff.1 hc).1
  have hu:us[j]? = some us[j]:=List.getElem?_eq_getElem hj
  obtain⟨h1,h2⟩:=h.2 j c _ hc hu
  exact⟨_,hu,h2.rI h1,h2⟩
theorem xe{e:EV}{cs:List EV}{v:Value}(he:RE β L I w e v)(h:yl e=some cs)(j:Nat)(c:EV)(hc:cs[j]? = some c) :
  ∃u,v.cells[j]? = some u∧u.oneCell'=true∧RE β L I w c u:=by
 cases e with
 |pv p =>
  unfold yl at h
  cases ht:p.Bk with
  |true=>simp[ht] at h
  |false =>
   simp[ht] at h
   subst h
   have hr:eh I w p.cells v.cells.toList:=Rd.cells he (fun vs e=>by subst e;simp[PV.Bk] at ht)
   obtain⟨u,h1,h2,h3⟩:=hr.zw (β:=β) (L:=L) j c hc
   exact⟨u,by simpa using h1,h2,h3⟩
 |ptr r off =>
  injection h with h;subst h
  cases j with
  |succ j=>simp at hc
  |zero =>
   simp at hc;subst hc
   obtain⟨h1,b,hb,rfl⟩:=he
   exact⟨_,rfl,rfl,h1,b,hb,rfl⟩
 |row r off len sz =>
  injection h with h;subst h
  cases j with
  |succ j=>simp at hc
  |zero =>
   simp at hc;subst hc
   have mJ:=he
   obtain⟨h1,⟨_,_,rfl⟩|⟨b,c,_,rfl,_⟩⟩:=he
   ·exact⟨_,rfl,rfl,mJ⟩
   ·exact⟨_,rfl,rfl,mJ⟩
 |xx r len sz =>
  injection h with h;subst h
  cases j with
  |succ j=>simp at hc
  |zero =>
   simp at hc;subst hc
   have mJ:=he
   obtain⟨h1,⟨_,_,rfl⟩|⟨b,c,_,rfl,_⟩⟩:=he
   ·exact⟨_,rfl,rfl,mJ⟩
   ·exact⟨_,rfl,rfl,mJ⟩
 |u0 r off =>
  injection h with h;subst h
  cases j with
  |succ j=>simp at hc
  |zero =>
   simp at hc;subst hc
   obtain⟨h1,b,hb,rfl⟩:=he
   exact⟨_,rfl,rfl,h1,b,hb,rfl⟩
 |wi YC =>
  injection h with h;subst h
  cases j with
  |succ j=>simp at hc
  |zero =>
   simp at hc;subst hc
   have mJ:=he
   obtain⟨b,o,rfl,_⟩:=he
   exact⟨_,rfl,rfl,mJ⟩
 |dead=>cases h
 |wj _ _ _ _ _=>cases h
 |H6 _ _=>cases h
theorem Gf:∀{es:List EV} {ps:List PV},xz es=some ps→es=ps.map EV.pv
 |[],ps,h=>by injection h with h;subst h;rfl
 |.pv p::r,ps,h=>by
  unfold xz at h
  cases hr:xz r with
  |none=>simp[hr] at h
  |some qs =>
   simp[hr] at h
   subst h
   simp[Gf hr]
 |.ptr .. :: _,ps,h=>by simp[xz] at h
 |.row .. :: _,ps,h=>by simp[xz] at h
 |.wi .. :: _,ps,h=>by simp[xz] at h
 |.dead::_,ps,h=>by simp[xz] at h
 |.wj .. :: _,ps,h=>by simp[xz] at h
 |.H6 .. :: _,ps,h=>by simp[xz] at h
 |.xx .. :: _,ps,h=>by simp[xz] at h
 |.u0 .. :: _,ps,h=>by simp[xz] at h
theorem n9(b o n:Nat):(⟨b,o,none⟩:Addr).add n=⟨b,o+n,none⟩:=by
 unfold Addr.add;split<;>simp_all
theorem zx{t:TypeId}{d:TD}(hd:xy P t d)(ha:d.agg=true){b o:Nat}{ps:List PV}(hl:ps.length=d.size)
  (hc:∀(j:Nat) x,ps[j]? = some x→x.one=true∧∃u,w.cell? ⟨b,o+j,none⟩=some u∧Rd I w x u) :
  ∃v,(loadVar t ⟨b,o,none⟩).run P w = .ok v w∧Rd I w (.agg ps) v:=by
 have key:∃us:List Value,us.length=ps.length∧(∀j v,us[j]? = some v→w.cell? (Addr.add ⟨b,o,none⟩ j)=some v)∧eh I w ps us:=by
  clear hl
  induction ps generalizing o with
  |nil=>exact⟨[],rfl,fun j v h=>by simp at h,rfl,fun j c u h=>by simp at h⟩
  |cons p r ih =>
   obtain⟨us,h1,h2,h3⟩:=ih (o:=o+1) (fun j x hx=>by
    have:=hc (j+1) x (by simpa using hx)
    rw[show o+1+j=o+(j+1) from by omega];exact this)
   obtain⟨hp,u,hu,hr⟩:=hc 0 p rfl
   refine⟨u::us,by simp[h1],fun j v hv => ?_,by simp[h3.1],fun j c v YD hv => ?_⟩
   ·cases j with
    |zero=>simp at hv;subst hv;rw[n9];exact hu
    |succ j =>
     have:=h2 j v (by simpa using hv)
     rw[n9] at this ⊢
     rw[show o+(j+1)=o+1+j from by omega];exact this
   ·cases j with
    |zero=>simp at YD hv;subst YD hv;exact⟨hp,hr⟩
    |succ j=>exact h3.2 j c v (by simpa using YD) (by simpa using hv)
 obtain⟨us,h1,h2,h3⟩:=key
 have WG:=run_loadCells_list (P:=P) w ⟨b,o,none⟩ us h2
 refine⟨.agg us.toArray,?_,eh.agg (by simpa using h3)⟩
 unfold loadVar
 rw[Sem.run_bind,hd.IH w,Result.andThen_ok,ha]
 simp only[if_true]
 rw[Sem.run_bind,hd.run_sizeOf w,Result.andThen_ok,←hl,←h1,Sem.run_bind,WG,Result.andThen_ok]
 rfl
theorem uk{t:TypeId}{d:TD}(hd:xy P t d)(ha:d.agg=false){b o:Nat}{u:Value}(hc:w.cell? ⟨b,o,none⟩=some u) :
  (loadVar t ⟨b,o,none⟩).run P w = .ok u w:=by
 unfold loadVar
 rw[Sem.run_bind,hd.IH w,Result.andThen_ok,ha]
 simp[hc]
theorem RB.cell{r b:Nat}{cells:List EV}(h:RB β L I w r cells)(hb:β r=some b)(j:Nat)(e:EV)(hj:cells[j]? = some e):∃u,w.cell? ⟨b,j,none⟩=some u∧u.oneCell'=true∧RE β L I w e u:=by
 rcases h with ⟨h1,h2⟩|⟨b',arr,el,kI,h1,h2⟩
 ·rw[h1] at hb;cases hb
 ·rw[kI] at hb;injection hb with hb;subst hb
  obtain⟨u,h3,h4,h5⟩:=h2 j e hj
  exact⟨u,by simp[World.cell?,h1,h3],h4,h5⟩
theorem PV.wq{p:PV}{u:Value}(h:Rd I w p u)(ho:u.oneCell'=true):p.one=true:=by
 cases h<;>first|rfl|(simp [Value.oneCell'] at ho)
theorem IM{t:TypeId}{d:TD}(hd:xy P t d){r b off:Nat}{cells:List EV}(hb:RB β L I w r cells)(uI:β r=some b)(aH:Ju d cells off h=some res)(fK:je res.ob) :
  ∃v,(loadVar t ⟨b,off,none⟩).run P w = .ok v w∧RE β L I w res.val v∧res.new=none:=by
 unfold Ju at aH
 have NU:∀ps:List PV,d.agg=true→(cells.drop off).take d.size=ps.map EV.pv→ps.length=d.size→∃v,(loadVar t ⟨b,off,none⟩).run P w = .ok v w∧Rd I w (.agg ps) v:=by
  intro ps ha h1 h2
  refine zx hd ha h2 (fun j x hx => ?_)
  have hj:j<d.size:=by rw[←h2];exact(List.getElem?_eq_some_iff.1 hx).1
  have:cells[off+j]? = some (EV.pv x):=by
   have h3:((cells.drop off).take d.size)[j]? = some (EV.pv x):=by rw[h1,List.getElem?_map,hx];rfl
   rw[List.getElem?_take,if_pos hj,List.getElem?_drop] at h3
   exact h3
  obtain⟨u,h4,h5,h6⟩:=hb.cell uI _ _ this
  exact⟨PV.wq h6 h5,u,h4,h6⟩
 cases ha:d.agg with
 |true =>
  simp only[ha,cond_true] at aH
  split at aH
  ·injection aH with aH;subst aH
   obtain⟨v,h1,h2⟩:=NU _ ha fK.cons.1 fK.cons.2
   exact⟨v,h1,h2,rfl⟩
  ·split at aH
   ·rename_i ps uR
    cases kI:Nat.beq ps.length d.size with
    |false=>simp[kI] at aH
    |true =>
     simp only[kI,cond_true,mj] at aH
     injection aH with aH;subst aH
     obtain⟨v,h1,h2⟩:=NU _ ha (Gf uR) (Nat.eq_of_beq_eq_true kI)
     exact⟨v,h1,h2,rfl⟩
   ·cases aH
 |false =>
  simp only[ha,cond_false] at aH
  split at aH
  ·injection aH with aH;subst aH
   obtain⟨u,h1,h2,h3⟩:=hb.cell uI _ _ fK
   exact⟨u,uk hd ha h1,h3,rfl⟩
  ·split at aH
   ·rename_i e he
    simp only[mj] at aH
    injection aH with aH;subst aH
    obtain⟨u,h1,h2,h3⟩:=hb.cell uI _ _ he
    exact⟨u,uk hd ha h1,h3,rfl⟩
   ·cases aH
theorem xf(hρ:∀x e,ρ x=some e→RE β L I w e (a.eval x)):∀(l:List (Nat×Operand)) (ps:List (Nat×PV)),wo ρ l=some ps→FF I w ps (l.map fun (i,x)=>(i,a.eval x))
 |[],ps,h=>by injection h with h;subst h;trivial
 |(i,x)::r,ps,h=>by
  unfold wo at h
  split at h
  ·rename_i p qs hx hr
   injection h with h;subst h
   exact⟨rfl,hρ x _ hx,xf hρ r qs hr⟩
  ·cases h
end
end Go.Proofs.YtllmkadmohkbfaaGreatDoor.Sym
