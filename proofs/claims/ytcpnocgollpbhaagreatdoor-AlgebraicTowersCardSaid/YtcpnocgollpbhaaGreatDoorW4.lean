/- Lemmas for the statements of this seat. -/
import Derived.Test.YtcpnocgollpbhaaGreatDoorW3
namespace Go.Proofs.YtcpnocgollpbhaaGreatDoor.Sym
open Go Go.RowKit
section
variable {P:Program} {T:lh} {a:Act} {w:World} {β:Nat→Option Nat} {L I:Nat→Prop} {aK:aT} {ρ:Operand→Option EV} {h:Hint} {res:oP}
structure Bq (a:Act) (w:World) (β:Nat→Option Nat) (L I:Nat→Prop) (aK:aT) (ρ:Operand→Option EV):Prop where
 ev:∀x e,ρ x=some e→RE β L I w e (a.eval x)
 st:∀r sc,aK.get r=some sc→L r→RB β L I w r sc.sG
 lb:∀r b,L r→β r=some b→b<w.heap.size
 ib:∀b,I b→b<w.heap.size
def dy(P:Program)(o:Oper)(a:Act)(β:Nat→Option Nat)(L I:Nat→Prop)(w:World)(res:oP):Prop :=
 ∃v w',(execOp a.eval o).run P w = .ok (.value v) w'∧wT β L I w o.dst res v w'
theorem dy.pure{o:Oper}{e:EV}{v:Value}(h:(execOp a.eval o).run P w = .ok (.value v) w)(he:RE β L I w e v){ob:List Prop} : dy P o a β L I w ⟨e,none,ob⟩ :=
 ⟨v,w,h,wT.same he⟩
theorem bM.sG{cs:List PV}{us:List Value}(h:bM I w cs us)(j:Nat)(e:EV)(he:(cs.map EV.pv)[j]? = some e):∃u,us[j]? = some u∧u.oneCell'=true∧RE β L I w e u:=by
 rw[afu] at he;cases hc:cs[j]? with
 |none=>simp[hc] at he
 |some c =>
  simp[hc] at he;subst he;have hj:j<us.length:=by rw[←h.1];exact(afs.1 hc).1
  have hu:us[j]? = some us[j]:=afp hj;obtain⟨h1,h2⟩:=h.2 j c _ hc hu;exact⟨_,hu,h2.kA h1,h2⟩
theorem Tf.ev{β:Nat→Option Nat}{L I:Nat→Prop}{w:World}{f:FE}{u:Value}(h:Tf β L I w f u):u.oneCell'=true∧RE β L I w f.ev u:=by
 cases f with
 |pv p=>exact⟨h.2.kA h.1,h.2⟩
 |row r off len sz =>refine⟨?_,h⟩;obtain⟨_,⟨_,_,rfl⟩|⟨b,c,_,rfl,_⟩⟩:=h<;>rfl
 |jB j len sz =>refine⟨?_,h⟩;obtain⟨_,⟨_,_,rfl⟩|⟨b,c,_,rfl,_⟩⟩:=h<;>rfl
theorem nX{e:EV}{cs:List EV}{v:Value}(he:RE β L I w e v)(h:nW e=some cs)(j:Nat)(c:EV)(hc:cs[j]? = some c) :
  ∃u,v.cells[j]? = some u∧u.oneCell'=true∧RE β L I w c u:=by
 cases e with
 |pv p =>
  unfold nW at h;cases ht:p.ub with
  |true=>simp[ht] at h
  |false =>simp[ht] at h;subst h;have hr:bM I w p.cells v.cells.toList:=Rd.cells he (fun vs e=>by subst e;simp[PV.ub] at ht);obtain⟨u,h1,h2,h3⟩:=hr.sG (β:=β) (L:=L) j c hc;exact⟨u,by simpa using h1,h2,h3⟩
 |ptr r off =>
  injection h with h;subst h
  cases j with
  |succ j=>simp at hc
  |zero =>simp at hc;subst hc;obtain⟨h1,b,hb,rfl⟩:=he;exact⟨_,rfl,rfl,h1,b,hb,rfl⟩
 |row r off len sz =>
  injection h with h;subst h
  cases j with
  |succ j=>simp at hc
  |zero =>
   simp at hc;subst hc;have iu:=he;obtain⟨h1,⟨_,_,rfl⟩|⟨b,c,_,rfl,_⟩⟩:=he
   ·exact⟨_,rfl,rfl,iu⟩
   ·exact⟨_,rfl,rfl,iu⟩
 |jB r len sz =>
  injection h with h;subst h
  cases j with
  |succ j=>simp at hc
  |zero =>
   simp at hc;subst hc;have iu:=he;obtain⟨h1,⟨_,_,rfl⟩|⟨b,c,_,rfl,_⟩⟩:=he
   ·exact⟨_,rfl,rfl,iu⟩
   ·exact⟨_,rfl,rfl,iu⟩
 |oD r off =>
  injection h with h;subst h
  cases j with
  |succ j=>simp at hc
  |zero =>simp at hc;subst hc;obtain⟨h1,b,hb,rfl⟩:=he;exact⟨_,rfl,rfl,h1,b,hb,rfl⟩
 |oY YD =>
  injection h with h;subst h
  cases j with
  |succ j=>simp at hc
  |zero =>simp at hc;subst hc;have iu:=he;obtain⟨b,o,rfl,_⟩:=he;exact⟨_,rfl,rfl,iu⟩
 |dead=>cases h
 |oZ _ _ _ _ _=>cases h
 |BI _ _=>cases h
 |nC fs =>
  injection h with h;subst h
  obtain⟨us,rfl,g2,g3⟩:=he;rw[afu] at hc;obtain⟨f,hf,rfl⟩:=ah4.1 hc;have hj:j<us.size:=by have:=(afs.1 hf).1;omega
  have hu:us[j]? = some us[j]:=agH hj;exact⟨us[j],hu,(g3 j f _ hf hu).ev⟩
theorem pD:∀{es:List EV} {fs:List FE},mn es=some fs→es=fs.map FE.ev
 |[],fs,h=>by injection h with h;subst h;rfl
 |.pv p::r,fs,h=>by
  unfold mn at h;cases hr:mn r with
  |none=>simp[hr] at h
  |some qs =>simp[hr] at h;subst h;simp[pD hr,FE.ev]
 |.row .. :: r,fs,h=>by
  unfold mn at h;cases hr:mn r with
  |none=>simp[hr] at h
  |some qs =>simp[hr] at h;subst h;simp[pD hr,FE.ev]
 |.jB .. :: r,fs,h=>by
  unfold mn at h;cases hr:mn r with
  |none=>simp[hr] at h
  |some qs =>simp[hr] at h;subst h;simp[pD hr,FE.ev]
 |.ptr .. :: _,fs,h=>by simp[mn] at h
 |.oY .. :: _,fs,h=>by simp[mn] at h
 |.dead::_,fs,h=>by simp[mn] at h
 |.oZ .. :: _,fs,h=>by simp[mn] at h
 |.BI .. :: _,fs,h=>by simp[mn] at h
 |.oD .. :: _,fs,h=>by simp[mn] at h
 |.nC .. :: _,fs,h=>by simp[mn] at h
theorem Cs:∀{es:List EV} {ps:List PV},qI es=some ps→es=ps.map EV.pv
 |[],ps,h=>by injection h with h;subst h;rfl
 |.pv p::r,ps,h=>by
  unfold qI at h;cases hr:qI r with
  |none=>simp[hr] at h
  |some qs =>simp[hr] at h;subst h;simp[Cs hr]
 |.ptr .. :: _,ps,h=>by simp[qI] at h
 |.row .. :: _,ps,h=>by simp[qI] at h
 |.oY .. :: _,ps,h=>by simp[qI] at h
 |.dead::_,ps,h=>by simp[qI] at h
 |.oZ .. :: _,ps,h=>by simp[qI] at h
 |.BI .. :: _,ps,h=>by simp[qI] at h
 |.jB .. :: _,ps,h=>by simp[qI] at h
 |.oD .. :: _,ps,h=>by simp[qI] at h
 |.nC .. :: _,ps,h=>by simp[qI] at h
theorem gU(b o n:Nat):(⟨b,o,none⟩:Addr).add n=⟨b,o+n,none⟩:=by unfold Addr.add;split<;>simp_all
theorem tH{t:TypeId}{d:TD}(hd:qD P t d)(ha:d.agg=true){b o:Nat}{ps:List PV}(hl:ps.length=d.size)
  (hc:∀(j:Nat) x,ps[j]? = some x→x.one=true∧∃u,w.cell? ⟨b,o+j,none⟩=some u∧Rd I w x u) :
  ∃v,(loadVar t ⟨b,o,none⟩).run P w = .ok v w∧Rd I w (.agg ps) v:=by
 have key:∃us:List Value,us.length=ps.length∧(∀j v,us[j]? = some v→w.cell? (Addr.add ⟨b,o,none⟩ j)=some v)∧bM I w ps us:=by
  clear hl
  induction ps generalizing o with
  |nil=>exact⟨[],rfl,fun j v h=>by simp at h,rfl,fun j c u h=>by simp at h⟩
  |cons p r ih =>
   obtain⟨us,h1,h2,h3⟩:=ih (o:=o+1) (fun j x hx=>by have:=hc (j+1) x (by simpa using hx);rw[show o+1+j=o+(j+1) from by omega];exact this)
   obtain⟨hp,u,hu,hr⟩:=hc 0 p rfl;refine⟨u::us,by simp[h1],fun j v hv => ?_,by simp[h3.1],fun j c v Ul hv => ?_⟩
   ·cases j with
    |zero=>simp at hv;subst hv;rw[gU];exact hu
    |succ j =>have:=h2 j v (by simpa using hv);rw[gU] at this ⊢;rw[show o+(j+1)=o+1+j from by omega];exact this
   ·cases j with
    |zero=>simp at Ul hv;subst Ul hv;exact⟨hp,hr⟩
    |succ j=>exact h3.2 j c v (by simpa using Ul) (by simpa using hv)
 obtain⟨us,h1,h2,h3⟩:=key;have OB:=run_loadCells_list (P:=P) w ⟨b,o,none⟩ us h2;refine⟨.agg us.toArray,?_,bM.agg (by simpa using h3)⟩;unfold loadVar;rw[afL,hd.zw w,aft,ha];simp only[if_true];rw[afL,hd.run_sizeOf w,aft,←hl,←h1,afL,OB,aft];rfl
theorem Ct{t:TypeId}{d:TD}(hd:qD P t d)(ha:d.agg=true){b o:Nat}{fs:List FE}(hl:fs.length=d.size)
  (hc:∀(j:Nat) f,fs[j]? = some f→∃u,w.cell? ⟨b,o+j,none⟩=some u∧Tf β L I w f u) :
  ∃v,(loadVar t ⟨b,o,none⟩).run P w = .ok v w∧RE β L I w (.nC fs) v:=by
 have key:∃us:List Value,us.length=fs.length∧(∀j v,us[j]? = some v→w.cell? (Addr.add ⟨b,o,none⟩ j)=some v)∧∀(j:Nat) f u,fs[j]? = some f→us[j]? = some u→Tf β L I w f u:=by
  clear hl
  induction fs generalizing o with
  |nil=>exact⟨[],rfl,fun j v h=>by simp at h,fun j c u h=>by simp at h⟩
  |cons p r ih =>
   obtain⟨us,h1,h2,h3⟩:=ih (o:=o+1) (fun j x hx=>by have:=hc (j+1) x (by simpa using hx);rw[show o+1+j=o+(j+1) from by omega];exact this)
   obtain⟨u,hu,hr⟩:=hc 0 p rfl;refine⟨u::us,by simp[h1],fun j v hv => ?_,fun j c v Ul hv => ?_⟩
   ·cases j with
    |zero=>simp at hv;subst hv;rw[gU];exact hu
    |succ j =>have:=h2 j v (by simpa using hv);rw[gU] at this ⊢;rw[show o+(j+1)=o+1+j from by omega];exact this
   ·cases j with
    |zero=>simp at Ul hv;subst Ul hv;exact hr
    |succ j=>exact h3 j c v (by simpa using Ul) (by simpa using hv)
 obtain⟨us,h1,h2,h3⟩:=key;have OB:=run_loadCells_list (P:=P) w ⟨b,o,none⟩ us h2;refine⟨.agg us.toArray,?_,us.toArray,rfl,by simpa using h1,fun j f u hf hu=>h3 j f u hf (by simpa using hu)⟩;unfold loadVar;rw[afL,hd.zw w,aft,ha];simp only[if_true];rw[afL,hd.run_sizeOf w,aft,←hl,←h1,afL,OB,aft];rfl
theorem oF{t:TypeId}{d:TD}(hd:qD P t d)(ha:d.agg=false){b o:Nat}{u:Value}(hc:w.cell? ⟨b,o,none⟩=some u) :
  (loadVar t ⟨b,o,none⟩).run P w = .ok u w:=by
 unfold loadVar;rw[afL,hd.zw w,aft,ha];simp[hc]
theorem RB.cell{r b:Nat}{cells:List EV}(h:RB β L I w r cells)(hb:β r=some b)(j:Nat)(e:EV)(hj:cells[j]? = some e):∃u,w.cell? ⟨b,j,none⟩=some u∧u.oneCell'=true∧RE β L I w e u:=by
 rcases h with ⟨h1,h2⟩|⟨b',arr,el,fG,h1,h2⟩
 ·rw[h1] at hb;cases hb
 ·rw[fG] at hb;injection hb with hb;subst hb
  obtain⟨u,h3,h4,h5⟩:=h2 j e hj;exact⟨u,by simp[World.cell?,h1,h3],h4,h5⟩
theorem PV.l5{p:PV}{u:Value}(h:Rd I w p u)(ho:u.oneCell'=true):p.one=true:=by cases h<;>first|rfl|(simp [Value.oneCell'] at ho)
theorem E1{t:TypeId}{d:TD}(hd:qD P t d){r b off:Nat}{cells:List EV}(hb:RB β L I w r cells)(oQ:β r=some b)(aw:Gb d cells off h=some res)(cv:dX res.ob) :
  ∃v,(loadVar t ⟨b,off,none⟩).run P w = .ok v w∧RE β L I w res.val v∧res.new=none:=by
 unfold Gb at aw;have Lw:∀ps:List PV,d.agg=true→(cells.drop off).take d.size=ps.map EV.pv→ps.length=d.size→∃v,(loadVar t ⟨b,off,none⟩).run P w = .ok v w∧Rd I w (.agg ps) v:=by
  intro ps ha h1 h2;refine tH hd ha h2 (fun j x hx => ?_);have hj:j<d.size:=by rw[←h2];exact(afs.1 hx).1
  have:cells[off+j]? = some (EV.pv x):=by
   have h3:((cells.drop off).take d.size)[j]? = some (EV.pv x):=by rw[h1,afu,hx];rfl
   rw[agh,afI hj,agn] at h3;exact h3
  obtain⟨u,h4,h5,h6⟩:=hb.cell oQ _ _ this;exact⟨PV.l5 h6 h5,u,h4,h6⟩
 have OC:∀fs:List FE,d.agg=true→(cells.drop off).take d.size=fs.map FE.ev→fs.length=d.size→∃v,(loadVar t ⟨b,off,none⟩).run P w = .ok v w∧RE β L I w (.nC fs) v:=by
  intro fs ha h1 hl;exact Ct (β:=β) (L:=L) (I:=I) (w:=w) (b:=b) (o:=off) hd ha hl (fun j f hf=>by
   have hj:j<d.size:=by rw[←hl];exact(afs.1 hf).1
   have:cells[off+j]? = some f.ev:=by
    have h3:((cells.drop off).take d.size)[j]? = some f.ev:=by rw[h1,afu,hf];rfl
    rw[agh,afI hj,agn] at h3;exact h3
   obtain⟨u,h4,h5,h6⟩:=hb.cell oQ _ _ this;refine⟨u,h4,?_⟩;cases f with
   |pv p=>exact⟨PV.l5 h6 h5,h6⟩
   |row r off len sz=>exact h6
   |jB j len sz=>exact h6)
 cases ha:d.agg with
 |true =>
  simp only[ha,cond_true] at aw;split at aw
  ·injection aw with aw;subst aw
   obtain⟨v,h1,h2⟩:=Lw _ ha cv.cons.1 cv.cons.2;exact⟨v,h1,h2,rfl⟩
  ·injection aw with aw;subst aw
   obtain⟨v,h1,h2⟩:=OC _ ha cv.cons.1 cv.cons.2;exact⟨v,h1,h2,rfl⟩
  ·split at aw
   ·rename_i ps o0;cases fG:Nat.beq ps.length d.size with
    |false=>simp[fG] at aw
    |true =>
     simp only[fG,cond_true,gp] at aw;injection aw with aw;subst aw
     obtain⟨v,h1,h2⟩:=Lw _ ha (Cs o0) (afB fG);exact⟨v,h1,h2,rfl⟩
   ·split at aw
    ·rename_i fs Ww;cases fG:Nat.beq fs.length d.size with
     |false=>simp[fG] at aw
     |true =>
      simp only[fG,cond_true,gp] at aw;injection aw with aw;subst aw
      obtain⟨v,h1,h2⟩:=OC _ ha (pD Ww) (afB fG);exact⟨v,h1,h2,rfl⟩
    ·cases aw
 |false =>
  simp only[ha,cond_false] at aw;split at aw
  ·injection aw with aw;subst aw
   obtain⟨u,h1,h2,h3⟩:=hb.cell oQ _ _ cv;exact⟨u,oF hd ha h1,h3,rfl⟩
  ·split at aw
   ·rename_i e he;simp only[gp] at aw;injection aw with aw;subst aw
    obtain⟨u,h1,h2,h3⟩:=hb.cell oQ _ _ he;exact⟨u,oF hd ha h1,h3,rfl⟩
   ·cases aw
theorem rK(hρ:∀x e,ρ x=some e→RE β L I w e (a.eval x)):∀(l:List (Nat×Operand)) (ps:List (Nat×PV)),qJ ρ l=some ps→BJ I w ps (l.map fun (i,x)=>(i,a.eval x))
 |[],ps,h=>by injection h with h;subst h;trivial
 |(i,x)::r,ps,h=>by
  unfold qJ at h;split at h
  ·rename_i p qs hx hr;injection h with h;subst h
   exact⟨rfl,hρ x _ hx,rK hρ r qs hr⟩
  ·cases h
theorem Gc{e:EV}{cs:List EV}{v:Value}(he:RE β L I w e v)(h:nW e=some cs):cs.length=v.cells.size:=by
 cases e with
 |pv p =>
  unfold nW at h;cases ht:p.ub with
  |true=>simp[ht] at h
  |false =>
   simp only[ht,cond_false] at h;injection h with h;subst h
   have:=(Rd.cells he (fun vs e=>by subst e;simp[PV.ub] at ht)).1;simpa using this
 |row r off len sz =>
  injection h with h;subst h
  obtain⟨_,⟨_,_,rfl⟩|⟨b,c,_,rfl,_⟩⟩:=he<;>rfl
 |ptr r off =>
  injection h with h;subst h
  obtain⟨_,b,_,rfl⟩:=he;rfl
 |oY YD =>
  injection h with h;subst h
  obtain⟨b,o,rfl,_⟩:=he;rfl
 |jB j len sz =>
  injection h with h;subst h
  obtain⟨_,⟨_,_,rfl⟩|⟨b,c,_,rfl,_⟩⟩:=he<;>rfl
 |oD j off =>
  injection h with h;subst h
  obtain⟨_,b,_,rfl⟩:=he;rfl
 |dead=>cases h
 |oZ _ _ _ _ _=>cases h
 |BI _ _=>cases h
 |nC fs =>
  injection h with h;subst h
  obtain⟨us,rfl,g2,_⟩:=he;simp[Value.cells,g2]
theorem we(hρ:∀x e,ρ x=some e→RE β L I w e (a.eval x)):∀(l:List (Nat×Operand)) (ps:List (Nat×List FE)),sM ρ l=some ps→xQ (fun f u=>u.oneCell'=true∧RE β L I w f.ev u) ps (l.map fun (i,x)=>(i,a.eval x))
 |[],ps,h=>by injection h with h;subst h;trivial
 |(i,x)::r,ps,h=>by
  unfold sM at h;split at h
  ·rename_i fs qs hx hr;injection h with h;subst h
   obtain⟨e,he,hx⟩:=Option.bind_eq_some_iff.1 hx;obtain⟨es,N7,Ww⟩:=Option.bind_eq_some_iff.1 hx;have tT:=hρ x e he;have M5:=pD Ww;refine⟨rfl,⟨?_,fun k c u hc hu => ?_⟩,we hρ r qs hr⟩
   ·have:=Gc tT N7;rw[M5] at this;simpa using this
   ·obtain⟨u',h1,h2,h3⟩:=nX tT N7 k c.ev (by rw[M5,afu,hc];rfl);have:u=u':=by
     rw[agQ] at hu;rw[h1] at hu;injection hu with hu;exact hu.symm
    subst this;exact⟨h2,h3⟩
  ·cases h
end
end Go.Proofs.YtcpnocgollpbhaaGreatDoor.Sym
