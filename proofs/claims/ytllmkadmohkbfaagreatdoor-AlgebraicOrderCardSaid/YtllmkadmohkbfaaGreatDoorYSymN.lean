/- The comparison of algebraic numbers is a total order that agrees with the comparison with fractions. The law AlgebraicOrder returns true for every input, with the tables of numerals of the Go library that the row lists as they are laid. -/
import Derived.Test.YtllmkadmohkbfaaGreatDoorYSymMb
namespace Go.Proofs.YtllmkadmohkbfaaGreatDoor.Sym
open Go Go.RowKit
inductive eg where
 |code (c:Code)
 |zk (id:Nat)
 |q8 (c:Code)
def oY(P:Program)(c:Code)(Q:Exit→Act→World→Prop)(a:Act)(w:World):Prop :=
 ∀(b:Frame) (k:List Item) (cs:List Frame),
  ∃e a' w',Q e a' w'∧Arrives P (lone (b.at a (.code c :: .inLoop c::k)) cs w) b k cs e a' w'
def wi(P:Program)(fn:Func)(R:Ending→World→Prop):List eg→Exit→Act→World→Prop
 |[],e,a,w=>bodyPost P fn R e a w
 |.code c::K,.normal,a,w=>c.wp P (wi P fn R K) a w
 |.code _::K,e,a,w=>wi P fn R K e a w
 |.zk id::K,.exit id',a,w=>if id'=id then wi P fn R K .normal a w else wi P fn R K (.exit id') a w
 |.zk _::K,e,a,w=>wi P fn R K e a w
 |.q8 c::K,.normal,a,w=>oY P c (wi P fn R K) a w
 |.q8 _::K,e,a,w=>wi P fn R K e a w
def Sat(P:Program)(fn:Func)(Γ:Ctx)(R:Ending→World→Prop)(K:List eg)(s:St):Prop :=
 ∀a w,Rel Γ s a w→wi P fn R K .normal a w
section
variable {P:Program} {T:j0} {fn:Func} {Γ:Ctx} {R:Ending→World→Prop} {K:List eg} {s s':St} {a:Act} {w:World}
theorem oY.wp{c:Code}{Q:Exit→Act→World→Prop}(h:oY P c Q a w):(Code.loop c).wp P Q a w:=by
 intro b k cs
 obtain⟨e,a',w',hq,Ei⟩:=h b k cs
 exact⟨e,a',w',hq,.of_steps (.one step_loop) Ei⟩
theorem oY.round{c:Code}{Q:Exit→Act→World→Prop}(h:c.wp P (Exit.then (oY P c Q) Q) a w):oY P c Q a w:=by
 intro b k cs
 obtain⟨e,a₁,w₁,hq,Ei⟩:=h b (.inLoop c::k) cs
 cases e with
 |normal =>
  obtain⟨e₂,a₂,w₂,Rj,MF⟩:=hq b k cs
  exact⟨e₂,a₂,w₂,Rj,.of_steps (Steps.trans Ei (.one step_inLoop)) MF⟩
 |exit id=>exact⟨_,a₁,w₁,hq,.pass (x := .inLoop c) rfl (fun _ _ => .inl (by simp)) Ei⟩
 |goto l=>exact⟨_,a₁,w₁,hq,.pass (x := .inLoop c) rfl (fun _ _ => .inl (by simp)) Ei⟩
 |ret=>exact⟨_,a₁,w₁,hq,.pass (x := .inLoop c) rfl (fun _ _ => .inl (by simp)) Ei⟩
 |panic ch=>exact⟨_,a₁,w₁,hq,.pass (x := .inLoop c) rfl (fun _ _ => .inl (by simp)) Ei⟩
 |outgrown=>exact⟨_,a₁,w₁,hq,.pass (x := .inLoop c) rfl (fun _ _ => .inl (by simp)) Ei⟩
theorem then_eq{c:Code} : Exit.then (wi P fn R (.code c::K) .normal) (wi P fn R K)=wi P fn R (.code c::K):=by
 funext e a w
 cases e<;>rfl
theorem JS{id:Nat} : Exit.inBlock id (wi P fn R K)=wi P fn R (.zk id::K):=by
 funext e a w
 cases e<;>rfl
theorem MG{c:Code} : Exit.then (oY P c (wi P fn R K)) (wi P fn R K)=wi P fn R (.q8 c::K):=by
 funext e a w
 cases e<;>rfl
theorem Sat.round{c:Code}(h:Sat P fn Γ R (.code c :: .q8 c::K) s):Sat P fn Γ R (.q8 c::K) s:=by
 intro a w hr
 have:=h a w hr
 show oY P c (wi P fn R K) a w
 refine oY.round ?_
 rw[MG]
 exact this
theorem Sat.loop{c:Code}(h:Sat P fn Γ R (.q8 c::K) s):Sat P fn Γ R (.code (.loop c)::K) s:=by
 intro a w hr
 exact oY.wp (h a w hr)
def unwind(id:Nat):List eg→Option (List eg)
 |[]=>none
 |.zk id'::K=>bif Nat.beq id' id then some K else unwind id K
 |_::K=>unwind id K
theorem qc{id:Nat} : ∀{K K':List eg},unwind id K=some K'→wi P fn R K' .normal a w→wi P fn R K (.exit id) a w
 |[],K',h,_=>by cases h
 |.code c::K,K',h,hs=>qc (K:=K) h hs
 |.q8 k::K,K',h,hs=>qc (K:=K) h hs
 |.zk id'::K,K',h,hs=>by
  simp only[unwind] at h
  simp only[wi]
  cases hb:Nat.beq id' id with
  |true =>
   have:id'=id:=Nat.eq_of_beq_eq_true hb
   subst this
   simp only[hb,cond_true] at h
   injection h with h;subst h
   rw[if_pos rfl];exact hs
  |false =>
   simp only[hb,cond_false] at h
   rw[if_neg (fun e=>by subst e;simp at hb)]
   exact qc h hs
theorem yg:∀(K:List eg),bodyPost P fn R .ret a w→wi P fn R K .ret a w
 |[],h=>h
 |.code _::K,h=>yg K h
 |.zk _::K,h=>yg K h
 |.q8 _::K,h=>yg K h
def zl(T:j0)(s:St):List ResultVar→Option (List EV)
 |[]=>some []
 |.tmp t::r=>match s.env.get t,zl T s r with
  |some e,some es=>some (e::es)
  |_,_=>none
 |.cell x t::r=>match s.env.get x,T.get t,zl T s r with
  |some (.ptr q off),some d,some es=>match s.aG.get q with
   |some sc=>match Ct d sc.qR off .none with
    |some res=>match res.ob with
     |[]=>some (res.val::es)
     |_=>none
    |none=>none
   |none=>none
  |_,_,_=>none
def F8(β:Nat→Option Nat)(L I:Nat→Prop)(w:World):List EV→List Value→Prop
 |[],[]=>True
 |e::es,v::vs=>RE β L I w e v∧F8 β L I w es vs
 |_,_=>False
theorem ru(hT:mC P T){β:Nat→Option Nat}{I:Nat→Prop}(hr:dh Γ s a w β I):∀(l:List ResultVar) (es:List EV),zl T s l=some es →
  ∃vs,(l.mapM (fun | .tmp t=>pure (a.tmps.getD t undef) | .cell x t=>do loadVar t (←asAddr (a.tmps.getD x undef)):ResultVar→Sem Value)).run P w = .ok vs w∧F8 β (bM s.aG) I w es vs
 |[],es,h=>by injection h with h;subst h;exact⟨[],rfl,trivial⟩
 |.tmp t::r,es,h=>by
  simp only[zl] at h
  split at h
  ·rename_i e QK he MD
   injection h with h;subst h
   obtain⟨vs,h1,h2⟩:=ru hT hr r QK MD
   refine⟨a.tmps.getD t undef::vs,?_,hr.env t e he,h2⟩
   rw[List.mapM_cons,Sem.run_bind,Sem.run_pure,Result.andThen_ok,Sem.run_bind,h1]
   rfl
  ·cases h
 |.cell x t::r,es,h=>by
  simp only[zl] at h
  split at h
  ·rename_i q off d QK he hd MD
   split at h
   ·rename_i sc nY
    split at h
    ·rename_i res np
     split at h
     ·rename_i cb
      injection h with h;subst h
      obtain⟨vs,h1,h2⟩:=ru hT hr r QK MD
      obtain⟨vY,b,hb,hv⟩:=hr.env x _ he
      obtain⟨v,g1,g2,_⟩:=Bu (hT t d hd) ((hr.aG.1 q sc nY).1) hb np (by rw[cb];trivial)
      refine⟨v::vs,?_,g2,h2⟩
      have ha:(asAddr (a.tmps.getD x undef)).run P w = .ok ⟨b,off,none⟩ w:=by rw[hv];rfl
      rw[List.mapM_cons,Sem.run_bind,Sem.run_bind,ha,Result.andThen_ok,g1,Result.andThen_ok,Sem.run_bind,h1]
      rfl
     ·cases h
    ·cases h
   ·cases h
  ·cases h
def pz:List EV→Option (List PV)
 |[]=>some []
 |.pv p::r=>match pz r with
  |some ps=>some (p::ps)
  |none=>none
 |_=>none
def Hd:List EV→Option EV
 |[e]=>some e
 |.row r off len sz::es=>match pz es with
  |some ps=>some (.n7 r off len sz ps)
  |none=>none
 |es=>match pz es with
  |some ps=>some (.pv (.aE ps))
  |none=>none
theorem wj{β:Nat→Option Nat}{L I:Nat→Prop} : ∀(es:List EV) (ps:List PV) (vs:List Value),pz es=some ps→F8 β L I w es vs→ps.length=vs.length∧∀(j:Nat) p v,ps[j]? = some p→vs[j]? = some v→Rd I w p v
 |[],ps,[],h,_=>by injection h with h;subst h;exact⟨rfl,fun j p v hp=>by simp at hp⟩
 |.pv p::r,ps,v::vs,h,hr=>by
  simp only[pz] at h
  split at h
  ·rename_i qs hq
   injection h with h;subst h
   obtain⟨h1,h2⟩:=wj r qs vs hq hr.2
   refine⟨by simp[h1],fun j q u hj hu => ?_⟩
   cases j with
   |zero=>simp at hj hu;subst hj hu;exact hr.1
   |succ j=>exact h2 j q u (by simpa using hj) (by simpa using hu)
  ·cases h
 |.pv p::r,ps,[],h,hr=>hr.elim
 |[],ps,_::_,h,hr=>hr.elim
 |.ptr _ _::_,ps,_,h,_=>by simp[pz] at h
 |.row _ _ _ _::_,ps,_,h,_=>by simp[pz] at h
 |.n6 _::_,ps,_,h,_=>by simp[pz] at h
 |.dead::_,ps,_,h,_=>by simp[pz] at h
 |.n7 _ _ _ _ _::_,ps,_,h,_=>by simp[pz] at h
 |.AT _ _::_,ps,_,h,_=>by simp[pz] at h
 |.pg _ _ _::_,ps,_,h,_=>by simp[pz] at h
 |.nj _ _::_,ps,_,h,_=>by simp[pz] at h
theorem A8(hT:mC P T){β:Nat→Option Nat}{I:Nat→Prop}(hr:dh Γ s a w β I){es:List EV}{e:EV}(h1:zl T s fn.results.toList=some es)(h2:Hd es=some e) :
  ∃v,(results fn a.tmps).run P w = .ok v w∧RE β (bM s.aG) I w e v:=by
 obtain⟨vs,hm,jD⟩:=ru hT hr _ es h1
 have Tu:(fn.results.mapM (fun | .tmp t=>pure (a.tmps.getD t undef) | .cell x t=>do loadVar t (←asAddr (a.tmps.getD x undef)):ResultVar→Sem Value)).run P w = .ok vs.toArray w:=by
  rw[←Array.toList_mapM] at hm
  rw[Sem.run_map] at hm
  cases hx:(fn.results.mapM (fun | .tmp t=>pure (a.tmps.getD t undef) | .cell x t=>do loadVar t (←asAddr (a.tmps.getD x undef)):ResultVar→Sem Value)).run P w with
  |halt e' w'=>rw[hx] at hm;cases hm
  |ok x w' =>
   rw[hx] at hm
   simp only[Result.andThen_ok,Result.ok.injEq] at hm
   obtain⟨g1,rfl⟩:=hm
   congr 1
   apply Array.ext'
   simpa using g1
 have np:(results fn a.tmps).run P w = .ok (if h:vs.toArray.size=1 then vs.toArray[0] else .tuple vs.toArray) w:=by
  unfold results
  rw[Sem.run_bind]
  exact congrArg (fun r=>Result.andThen r (fun vs w'=>(Pure.pure (if h:vs.size=1 then vs[0] else .tuple vs):Sem Value).run P w')) Tu
 refine⟨_,np,?_⟩
 match es,vs,jD,h2 with
 |[e'],[v],jD,h2 =>
  have h2:some e'=some e:=h2
  injection h2 with h2;subst h2
  simpa using jD.1
 |[],[],_,h2 =>
  have h2:some (EV.pv (PV.aE []))=some e:=h2
  injection h2 with h2;subst h2
  exact Rd.aE [] #[] rfl (fun j c u hc=>by simp at hc)
 |e1::e2::QK,v1::v2::VY,jD,h2 =>
  have kF:¬((v1::v2::VY).toArray.size=1):=by simp
  rw[dif_neg kF]
  cases e1 with
  |row r off len sz =>
   simp only[Hd] at h2
   split at h2
   ·rename_i ps na
    injection h2 with h2;subst h2
    obtain⟨g1,g2⟩:=wj _ _ _ na jD.2
    refine⟨_,rfl,by simpa using g1.symm,⟨v1,by simp,jD.1⟩,fun j p u hp hu=>g2 j p u hp (by simpa using hu)⟩
   ·cases h2
  |_ =>
   simp only[Hd] at h2
   split at h2
   ·rename_i ps na
    injection h2 with h2;subst h2
    obtain⟨g1,g2⟩:=wj _ _ _ na jD
    exact Rd.aE ps _ (by simpa using g1) (fun j c u hc hu=>g2 j c u hc (by simpa using hu))
   ·cases h2
 |[_],[],jD,_=>exact jD.elim
 |[_],_::_::_,jD,_=>exact jD.2.elim
 |[],_::_,jD,_=>exact jD.elim
 |_::_::_,[],jD,_=>exact jD.elim
 |_::_::_,[_],jD,_=>exact jD.2.elim
end
end Go.Proofs.YtllmkadmohkbfaaGreatDoor.Sym
