/- Lemmas for the statements of this seat. -/
import Derived.Test.YtfjfekodeplcoaaGreatWSymMb
namespace Go.Proofs.YtfjfekodeplcoaaGreat.Sym
open Go Go.RowKit
inductive eh where
 |code (c:Code)
 |zf (id:Nat)
 |ri (c:Code)
def po(P:Program)(c:Code)(Q:Exit→Act→World→Prop)(a:Act)(w:World):Prop :=
 ∀(b:Frame) (k:List Item) (cs:List Frame),
  ∃e a' w',Q e a' w'∧Arrives P (lone (b.at a (.code c :: .inLoop c::k)) cs w) b k cs e a' w'
def we(P:Program)(fn:Func)(R:Ending→World→Prop):List eh→Exit→Act→World→Prop
 |[],e,a,w=>bodyPost P fn R e a w
 |.code c::K,.normal,a,w=>c.wp P (we P fn R K) a w
 |.code _::K,e,a,w=>we P fn R K e a w
 |.zf id::K,.exit id',a,w=>if id'=id then we P fn R K .normal a w else we P fn R K (.exit id') a w
 |.zf _::K,e,a,w=>we P fn R K e a w
 |.ri c::K,.normal,a,w=>po P c (we P fn R K) a w
 |.ri _::K,e,a,w=>we P fn R K e a w
def Sat(P:Program)(fn:Func)(Γ:Ctx)(R:Ending→World→Prop)(K:List eh)(s:St):Prop :=
 ∀a w,Rel Γ s a w→we P fn R K .normal a w
section
variable {P:Program} {T:ja} {fn:Func} {Γ:Ctx} {R:Ending→World→Prop} {K:List eh} {s s':St} {a:Act} {w:World}
theorem po.wp{c:Code}{Q:Exit→Act→World→Prop}(h:po P c Q a w):(Code.loop c).wp P Q a w:=by
 intro b k cs
 obtain⟨e,a',w',hq,Dc⟩:=h b k cs
 exact⟨e,a',w',hq,.of_steps (.one step_loop) Dc⟩
theorem po.round{c:Code}{Q:Exit→Act→World→Prop}(h:c.wp P (Exit.then (po P c Q) Q) a w):po P c Q a w:=by
 intro b k cs
 obtain⟨e,a₁,w₁,hq,Dc⟩:=h b (.inLoop c::k) cs
 cases e with
 |normal =>
  obtain⟨e₂,a₂,w₂,Pn,KG⟩:=hq b k cs
  exact⟨e₂,a₂,w₂,Pn,.of_steps (Steps.trans Dc (.one step_inLoop)) KG⟩
 |exit id=>exact⟨_,a₁,w₁,hq,.pass (x := .inLoop c) rfl (fun _ _ => .inl (by simp)) Dc⟩
 |goto l=>exact⟨_,a₁,w₁,hq,.pass (x := .inLoop c) rfl (fun _ _ => .inl (by simp)) Dc⟩
 |ret=>exact⟨_,a₁,w₁,hq,.pass (x := .inLoop c) rfl (fun _ _ => .inl (by simp)) Dc⟩
 |panic ch=>exact⟨_,a₁,w₁,hq,.pass (x := .inLoop c) rfl (fun _ _ => .inl (by simp)) Dc⟩
 |outgrown=>exact⟨_,a₁,w₁,hq,.pass (x := .inLoop c) rfl (fun _ _ => .inl (by simp)) Dc⟩
theorem then_eq{c:Code} : Exit.then (we P fn R (.code c::K) .normal) (we P fn R K)=we P fn R (.code c::K):=by
 funext e a w
 cases e<;>rfl
theorem Ii{id:Nat} : Exit.inBlock id (we P fn R K)=we P fn R (.zf id::K):=by
 funext e a w
 cases e<;>rfl
theorem KH{c:Code} : Exit.then (po P c (we P fn R K)) (we P fn R K)=we P fn R (.ri c::K):=by
 funext e a w
 cases e<;>rfl
theorem Sat.round{c:Code}(h:Sat P fn Γ R (.code c :: .ri c::K) s):Sat P fn Γ R (.ri c::K) s:=by
 intro a w hr
 have:=h a w hr
 show po P c (we P fn R K) a w
 refine po.round ?_
 rw[KH]
 exact this
theorem Sat.loop{c:Code}(h:Sat P fn Γ R (.ri c::K) s):Sat P fn Γ R (.code (.loop c)::K) s:=by
 intro a w hr
 exact po.wp (h a w hr)
def unwind(id:Nat):List eh→Option (List eh)
 |[]=>none
 |.zf id'::K=>bif Nat.beq id' id then some K else unwind id K
 |_::K=>unwind id K
theorem qu{id:Nat} : ∀{K K':List eh},unwind id K=some K'→we P fn R K' .normal a w→we P fn R K (.exit id) a w
 |[],K',h,_=>by cases h
 |.code c::K,K',h,hs=>qu (K:=K) h hs
 |.ri k::K,K',h,hs=>qu (K:=K) h hs
 |.zf id'::K,K',h,hs=>by
  simp only[unwind] at h
  simp only[we]
  cases hb:Nat.beq id' id with
  |true =>
   have:id'=id:=Nat.eq_of_beq_eq_true hb
   subst this
   simp only[hb,cond_true] at h
   injection h with h;subst h
   rw[if_pos rfl];exact hs
  |false =>
   simp only[hb,cond_false] at h
   rw[if_neg (fun e=>by subst e;simp at hb)]
   exact qu h hs
theorem x4:∀(K:List eh),bodyPost P fn R .ret a w→we P fn R K .ret a w
 |[],h=>h
 |.code _::K,h=>x4 K h
 |.zf _::K,h=>x4 K h
 |.ri _::K,h=>x4 K h
def zg(T:ja)(s:St):List ResultVar→Option (List EV)
 |[]=>some []
 |.tmp t::r=>match s.env.get t,zg T s r with
  |some e,some es=>some (e::es)
  |_,_=>none
 |.cell x t::r=>match s.env.get x,T.get t,zg T s r with
  |some (.ptr q off),some d,some es=>match s.sto.get q with
   |some sc=>match vG d sc.jc off .none with
    |some res=>match res.ob with
     |[]=>some (res.val::es)
     |_=>none
    |none=>none
   |none=>none
  |_,_,_=>none
def EY(β:Nat→Option Nat)(L I:Nat→Prop)(w:World):List EV→List Value→Prop
 |[],[]=>True
 |e::es,v::vs=>RE β L I w e v∧EY β L I w es vs
 |_,_=>False
theorem rT(hT:lH P T){β:Nat→Option Nat}{I:Nat→Prop}(hr:cq Γ s a w β I):∀(l:List ResultVar) (es:List EV),zg T s l=some es →
  ∃vs,(l.mapM (fun | .tmp t=>pure (a.tmps.getD t undef) | .cell x t=>do loadVar t (←asAddr (a.tmps.getD x undef)):ResultVar→Sem Value)).run P w = .ok vs w∧EY β (aS s.sto) I w es vs
 |[],es,h=>by injection h with h;subst h;exact⟨[],rfl,trivial⟩
 |.tmp t::r,es,h=>by
  simp only[zg] at h
  split at h
  ·rename_i e Kd he FN
   injection h with h;subst h
   obtain⟨vs,h1,h2⟩:=rT hT hr r Kd FN
   refine⟨a.tmps.getD t undef::vs,?_,hr.env t e he,h2⟩
   rw[List.mapM_cons,Sem.run_bind,Sem.run_pure,Result.andThen_ok,Sem.run_bind,h1]
   rfl
  ·cases h
 |.cell x t::r,es,h=>by
  simp only[zg] at h
  split at h
  ·rename_i q off d Kd he hd FN
   split at h
   ·rename_i sc gD
    split at h
    ·rename_i res nP
     split at h
     ·rename_i bK
      injection h with h;subst h
      obtain⟨vs,h1,h2⟩:=rT hT hr r Kd FN
      obtain⟨sq,b,hb,hv⟩:=hr.env x _ he
      obtain⟨v,g1,g2,_⟩:=so (hT t d hd) ((hr.sto.1 q sc gD).1) hb nP (by rw[bK];trivial)
      refine⟨v::vs,?_,g2,h2⟩
      have ha:(asAddr (a.tmps.getD x undef)).run P w = .ok ⟨b,off,none⟩ w:=by rw[hv];rfl
      rw[List.mapM_cons,Sem.run_bind,Sem.run_bind,ha,Result.andThen_ok,g1,Result.andThen_ok,Sem.run_bind,h1]
      rfl
     ·cases h
    ·cases h
   ·cases h
  ·cases h
def oH:List EV→Option (List PV)
 |[]=>some []
 |.pv p::r=>match oH r with
  |some ps=>some (p::ps)
  |none=>none
 |_=>none
def FX:List EV→Option EV
 |[e]=>some e
 |.row r off len sz::es=>match oH es with
  |some ps=>some (.kN r off len sz ps)
  |none=>none
 |es=>match oH es with
  |some ps=>some (.pv (.bx ps))
  |none=>none
theorem wg{β:Nat→Option Nat}{L I:Nat→Prop} : ∀(es:List EV) (ps:List PV) (vs:List Value),oH es=some ps→EY β L I w es vs→ps.length=vs.length∧∀(j:Nat) p v,ps[j]? = some p→vs[j]? = some v→Rd I w p v
 |[],ps,[],h,_=>by injection h with h;subst h;exact⟨rfl,fun j p v hp=>by simp at hp⟩
 |.pv p::r,ps,v::vs,h,hr=>by
  simp only[oH] at h
  split at h
  ·rename_i qs hq
   injection h with h;subst h
   obtain⟨h1,h2⟩:=wg r qs vs hq hr.2
   refine⟨by simp[h1],fun j q u hj hu => ?_⟩
   cases j with
   |zero=>simp at hj hu;subst hj hu;exact hr.1
   |succ j=>exact h2 j q u (by simpa using hj) (by simpa using hu)
  ·cases h
 |.pv p::r,ps,[],h,hr=>hr.elim
 |[],ps,_::_,h,hr=>hr.elim
 |.ptr _ _::_,ps,_,h,_=>by simp[oH] at h
 |.row _ _ _ _::_,ps,_,h,_=>by simp[oH] at h
 |.mL _::_,ps,_,h,_=>by simp[oH] at h
 |.dead::_,ps,_,h,_=>by simp[oH] at h
 |.kN _ _ _ _ _::_,ps,_,h,_=>by simp[oH] at h
 |.mM _ _::_,ps,_,h,_=>by simp[oH] at h
 |.cv _ _ _::_,ps,_,h,_=>by simp[oH] at h
 |.kf _ _::_,ps,_,h,_=>by simp[oH] at h
 |.dV _::_,ps,_,h,_=>by simp[oH] at h
theorem AF(hT:lH P T){β:Nat→Option Nat}{I:Nat→Prop}(hr:cq Γ s a w β I){es:List EV}{e:EV}(h1:zg T s fn.results.toList=some es)(h2:FX es=some e) :
  ∃v,(results fn a.tmps).run P w = .ok v w∧RE β (aS s.sto) I w e v:=by
 obtain⟨vs,hm,gY⟩:=rT hT hr _ es h1
 have GM:(fn.results.mapM (fun | .tmp t=>pure (a.tmps.getD t undef) | .cell x t=>do loadVar t (←asAddr (a.tmps.getD x undef)):ResultVar→Sem Value)).run P w = .ok vs.toArray w:=by
  rw[←Array.toList_mapM] at hm
  rw[Sem.run_map] at hm
  cases hx:(fn.results.mapM (fun | .tmp t=>pure (a.tmps.getD t undef) | .cell x t=>do loadVar t (←asAddr (a.tmps.getD x undef)):ResultVar→Sem Value)).run P w with
  |halt e' w'=>rw[hx] at hm;cases hm
  |ok x w' =>
   rw[hx] at hm
   simp only[Result.andThen_ok,Result.ok.injEq] at hm
   obtain⟨g1,rfl⟩:=hm
   congr 1
   apply Array.ext'
   simpa using g1
 have nP:(results fn a.tmps).run P w = .ok (if h:vs.toArray.size=1 then vs.toArray[0] else .tuple vs.toArray) w:=by
  unfold results
  rw[Sem.run_bind]
  exact congrArg (fun r=>Result.andThen r (fun vs w'=>(Pure.pure (if h:vs.size=1 then vs[0] else .tuple vs):Sem Value).run P w')) GM
 refine⟨_,nP,?_⟩
 match es,vs,gY,h2 with
 |[e'],[v],gY,h2 =>
  have h2:some e'=some e:=h2
  injection h2 with h2;subst h2
  simpa using gY.1
 |[],[],_,h2 =>
  have h2:some (EV.pv (PV.bx []))=some e:=h2
  injection h2 with h2;subst h2
  exact Rd.bx [] #[] rfl (fun j c u hc=>by simp at hc)
 |e1::e2::Kd,v1::v2::TV,gY,h2 =>
  have jC:¬((v1::v2::TV).toArray.size=1):=by simp
  rw[dif_neg jC]
  cases e1 with
  |row r off len sz =>
   simp only[FX] at h2
   split at h2
   ·rename_i ps jf
    injection h2 with h2;subst h2
    obtain⟨g1,g2⟩:=wg _ _ _ jf gY.2
    refine⟨_,rfl,by simpa using g1.symm,⟨v1,by simp,gY.1⟩,fun j p u hp hu=>g2 j p u hp (by simpa using hu)⟩
   ·cases h2
  |_ =>
   simp only[FX] at h2
   split at h2
   ·rename_i ps jf
    injection h2 with h2;subst h2
    obtain⟨g1,g2⟩:=wg _ _ _ jf gY
    exact Rd.bx ps _ (by simpa using g1) (fun j c u hc hu=>g2 j c u hc (by simpa using hu))
   ·cases h2
 |[_],[],gY,_=>exact gY.elim
 |[_],_::_::_,gY,_=>exact gY.2.elim
 |[],_::_,gY,_=>exact gY.elim
 |_::_::_,[],gY,_=>exact gY.elim
 |_::_::_,[_],gY,_=>exact gY.2.elim
end
end Go.Proofs.YtfjfekodeplcoaaGreat.Sym
