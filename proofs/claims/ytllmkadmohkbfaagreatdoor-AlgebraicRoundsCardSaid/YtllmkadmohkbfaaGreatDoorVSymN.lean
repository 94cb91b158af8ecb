/- Lemmas for the statements of this seat. -/
import Derived.Test.YtllmkadmohkbfaaGreatDoorVSymMb
namespace Go.Proofs.YtllmkadmohkbfaaGreatDoor.Sym
open Go Go.RowKit
inductive eH where
 |code (c:Code)
 |A6 (id:Nat)
 |sQ (c:Code)
def qA(P:Program)(c:Code)(Q:Exit→Act→World→Prop)(a:Act)(w:World):Prop :=
 ∀(b:Frame) (k:List Item) (cs:List Frame),
  ∃e a' w',Q e a' w'∧Arrives P (lone (b.at a (.code c :: .inLoop c::k)) cs w) b k cs e a' w'
def xQ(P:Program)(fn:Func)(R:Ending→World→Prop):List eH→Exit→Act→World→Prop
 |[],e,a,w=>bodyPost P fn R e a w
 |.code c::K,.normal,a,w=>c.wp P (xQ P fn R K) a w
 |.code _::K,e,a,w=>xQ P fn R K e a w
 |.A6 id::K,.exit id',a,w=>if id'=id then xQ P fn R K .normal a w else xQ P fn R K (.exit id') a w
 |.A6 _::K,e,a,w=>xQ P fn R K e a w
 |.sQ c::K,.normal,a,w=>qA P c (xQ P fn R K) a w
 |.sQ _::K,e,a,w=>xQ P fn R K e a w
def Sat(P:Program)(fn:Func)(Γ:Ctx)(R:Ending→World→Prop)(K:List eH)(s:St):Prop :=
 ∀a w,Rel Γ s a w→xQ P fn R K .normal a w
section
variable {P:Program} {T:kL} {fn:Func} {Γ:Ctx} {R:Ending→World→Prop} {K:List eH} {s s':St} {a:Act} {w:World}
theorem qA.wp{c:Code}{Q:Exit→Act→World→Prop}(h:qA P c Q a w):(Code.loop c).wp P Q a w:=by
 intro b k cs
 obtain⟨e,a',w',hq,FQ⟩:=h b k cs
 exact⟨e,a',w',hq,.of_steps (.one step_loop) FQ⟩
theorem qA.round{c:Code}{Q:Exit→Act→World→Prop}(h:c.wp P (Exit.then (qA P c Q) Q) a w):qA P c Q a w:=by
 intro b k cs
 obtain⟨e,a₁,w₁,hq,FQ⟩:=h b (.inLoop c::k) cs
 cases e with
 |normal =>
  obtain⟨e₂,a₂,w₂,To,OF⟩:=hq b k cs
  exact⟨e₂,a₂,w₂,To,.of_steps (Steps.trans FQ (.one step_inLoop)) OF⟩
 |exit id=>exact⟨_,a₁,w₁,hq,.pass (x := .inLoop c) rfl (fun _ _ => .inl (by simp)) FQ⟩
 |goto l=>exact⟨_,a₁,w₁,hq,.pass (x := .inLoop c) rfl (fun _ _ => .inl (by simp)) FQ⟩
 |ret=>exact⟨_,a₁,w₁,hq,.pass (x := .inLoop c) rfl (fun _ _ => .inl (by simp)) FQ⟩
 |panic ch=>exact⟨_,a₁,w₁,hq,.pass (x := .inLoop c) rfl (fun _ _ => .inl (by simp)) FQ⟩
 |outgrown=>exact⟨_,a₁,w₁,hq,.pass (x := .inLoop c) rfl (fun _ _ => .inl (by simp)) FQ⟩
theorem then_eq{c:Code} : Exit.then (xQ P fn R (.code c::K) .normal) (xQ P fn R K)=xQ P fn R (.code c::K):=by
 funext e a w
 cases e<;>rfl
theorem LU{id:Nat} : Exit.inBlock id (xQ P fn R K)=xQ P fn R (.A6 id::K):=by
 funext e a w
 cases e<;>rfl
theorem OG{c:Code} : Exit.then (qA P c (xQ P fn R K)) (xQ P fn R K)=xQ P fn R (.sQ c::K):=by
 funext e a w
 cases e<;>rfl
theorem Sat.round{c:Code}(h:Sat P fn Γ R (.code c :: .sQ c::K) s):Sat P fn Γ R (.sQ c::K) s:=by
 intro a w hr
 have:=h a w hr
 show qA P c (xQ P fn R K) a w
 refine qA.round ?_
 rw[OG]
 exact this
theorem Sat.loop{c:Code}(h:Sat P fn Γ R (.sQ c::K) s):Sat P fn Γ R (.code (.loop c)::K) s:=by
 intro a w hr
 exact qA.wp (h a w hr)
def unwind(id:Nat):List eH→Option (List eH)
 |[]=>none
 |.A6 id'::K=>bif Nat.beq id' id then some K else unwind id K
 |_::K=>unwind id K
theorem rJ{id:Nat} : ∀{K K':List eH},unwind id K=some K'→xQ P fn R K' .normal a w→xQ P fn R K (.exit id) a w
 |[],K',h,_=>by cases h
 |.code c::K,K',h,hs=>rJ (K:=K) h hs
 |.sQ k::K,K',h,hs=>rJ (K:=K) h hs
 |.A6 id'::K,K',h,hs=>by
  simp only[unwind] at h
  simp only[xQ]
  cases hb:Nat.beq id' id with
  |true =>
   have:id'=id:=Nat.eq_of_beq_eq_true hb
   subst this
   simp only[hb,cond_true] at h
   injection h with h;subst h
   rw[if_pos rfl];exact hs
  |false =>
   simp only[hb,cond_false] at h
   rw[if_neg (fun e=>by subst e;simp at hb)]
   exact rJ h hs
theorem z7:∀(K:List eH),bodyPost P fn R .ret a w→xQ P fn R K .ret a w
 |[],h=>h
 |.code _::K,h=>z7 K h
 |.A6 _::K,h=>z7 K h
 |.sQ _::K,h=>z7 K h
def A7(T:kL)(s:St):List ResultVar→Option (List EV)
 |[]=>some []
 |.tmp t::r=>match s.env.get t,A7 T s r with
  |some e,some es=>some (e::es)
  |_,_=>none
 |.cell x t::r=>match s.env.get x,T.get t,A7 T s r with
  |some (.ptr q off),some d,some es=>match s.aG.get q with
   |some sc=>match D1 d sc.sE off .none with
    |some res=>match res.ob with
     |[]=>some (res.val::es)
     |_=>none
    |none=>none
   |none=>none
  |_,_,_=>none
def HV(β:Nat→Option Nat)(L I:Nat→Prop)(w:World):List EV→List Value→Prop
 |[],[]=>True
 |e::es,v::vs=>RE β L I w e v∧HV β L I w es vs
 |_,_=>False
theorem tg(hT:nM P T){β:Nat→Option Nat}{I:Nat→Prop}(hr:dD Γ s a w β I):∀(l:List ResultVar) (es:List EV),A7 T s l=some es →
  ∃vs,(l.mapM (fun | .tmp t=>pure (a.tmps.getD t undef) | .cell x t=>do loadVar t (←asAddr (a.tmps.getD x undef)):ResultVar→Sem Value)).run P w = .ok vs w∧HV β (bS s.aG) I w es vs
 |[],es,h=>by injection h with h;subst h;exact⟨[],rfl,trivial⟩
 |.tmp t::r,es,h=>by
  simp only[A7] at h
  split at h
  ·rename_i e SK he OD
   injection h with h;subst h
   obtain⟨vs,h1,h2⟩:=tg hT hr r SK OD
   refine⟨a.tmps.getD t undef::vs,?_,hr.env t e he,h2⟩
   rw[List.mapM_cons,Sem.run_bind,Sem.run_pure,Result.andThen_ok,Sem.run_bind,h1]
   rfl
  ·cases h
 |.cell x t::r,es,h=>by
  simp only[A7] at h
  split at h
  ·rename_i q off d SK he hd OD
   split at h
   ·rename_i sc pr
    split at h
    ·rename_i res oD
     split at h
     ·rename_i cr
      injection h with h;subst h
      obtain⟨vs,h1,h2⟩:=tg hT hr r SK OD
      obtain⟨xG,b,hb,hv⟩:=hr.env x _ he
      obtain⟨v,g1,g2,_⟩:=C2 (hT t d hd) ((hr.aG.1 q sc pr).1) hb oD (by rw[cr];trivial)
      refine⟨v::vs,?_,g2,h2⟩
      have ha:(asAddr (a.tmps.getD x undef)).run P w = .ok ⟨b,off,none⟩ w:=by rw[hv];rfl
      rw[List.mapM_cons,Sem.run_bind,Sem.run_bind,ha,Result.andThen_ok,g1,Result.andThen_ok,Sem.run_bind,h1]
      rfl
     ·cases h
    ·cases h
   ·cases h
  ·cases h
def qV:List EV→Option (List PV)
 |[]=>some []
 |.pv p::r=>match qV r with
  |some ps=>some (p::ps)
  |none=>none
 |_=>none
def Jc:List EV→Option EV
 |[e]=>some e
 |.row r off len sz::es=>match qV es with
  |some ps=>some (.pA r off len sz ps)
  |none=>none
 |es=>match qV es with
  |some ps=>some (.pv (.aB ps))
  |none=>none
theorem xR{β:Nat→Option Nat}{L I:Nat→Prop} : ∀(es:List EV) (ps:List PV) (vs:List Value),qV es=some ps→HV β L I w es vs→ps.length=vs.length∧∀(j:Nat) p v,ps[j]? = some p→vs[j]? = some v→Rd I w p v
 |[],ps,[],h,_=>by injection h with h;subst h;exact⟨rfl,fun j p v hp=>by simp at hp⟩
 |.pv p::r,ps,v::vs,h,hr=>by
  simp only[qV] at h
  split at h
  ·rename_i qs hq
   injection h with h;subst h
   obtain⟨h1,h2⟩:=xR r qs vs hq hr.2
   refine⟨by simp[h1],fun j q u hj hu => ?_⟩
   cases j with
   |zero=>simp at hj hu;subst hj hu;exact hr.1
   |succ j=>exact h2 j q u (by simpa using hj) (by simpa using hu)
  ·cases h
 |.pv p::r,ps,[],h,hr=>hr.elim
 |[],ps,_::_,h,hr=>hr.elim
 |.ptr _ _::_,ps,_,h,_=>by simp[qV] at h
 |.row _ _ _ _::_,ps,_,h,_=>by simp[qV] at h
 |.pz _::_,ps,_,h,_=>by simp[qV] at h
 |.dead::_,ps,_,h,_=>by simp[qV] at h
 |.pA _ _ _ _ _::_,ps,_,h,_=>by simp[qV] at h
 |.Cu _ _::_,ps,_,h,_=>by simp[qV] at h
 |.qM _ _ _::_,ps,_,h,_=>by simp[qV] at h
 |.oA _ _::_,ps,_,h,_=>by simp[qV] at h
theorem CH(hT:nM P T){β:Nat→Option Nat}{I:Nat→Prop}(hr:dD Γ s a w β I){es:List EV}{e:EV}(h1:A7 T s fn.results.toList=some es)(h2:Jc es=some e) :
  ∃v,(results fn a.tmps).run P w = .ok v w∧RE β (bS s.aG) I w e v:=by
 obtain⟨vs,hm,kl⟩:=tg hT hr _ es h1
 have VF:(fn.results.mapM (fun | .tmp t=>pure (a.tmps.getD t undef) | .cell x t=>do loadVar t (←asAddr (a.tmps.getD x undef)):ResultVar→Sem Value)).run P w = .ok vs.toArray w:=by
  rw[←Array.toList_mapM] at hm
  rw[Sem.run_map] at hm
  cases hx:(fn.results.mapM (fun | .tmp t=>pure (a.tmps.getD t undef) | .cell x t=>do loadVar t (←asAddr (a.tmps.getD x undef)):ResultVar→Sem Value)).run P w with
  |halt e' w'=>rw[hx] at hm;cases hm
  |ok x w' =>
   rw[hx] at hm
   simp only[Result.andThen_ok,Result.ok.injEq] at hm
   obtain⟨g1,rfl⟩:=hm
   congr 1
   apply Array.ext'
   simpa using g1
 have oD:(results fn a.tmps).run P w = .ok (if h:vs.toArray.size=1 then vs.toArray[0] else .tuple vs.toArray) w:=by
  unfold results
  rw[Sem.run_bind]
  exact congrArg (fun r=>Result.andThen r (fun vs w'=>(Pure.pure (if h:vs.size=1 then vs[0] else .tuple vs):Sem Value).run P w')) VF
 refine⟨_,oD,?_⟩
 match es,vs,kl,h2 with
 |[e'],[v],kl,h2 =>
  have h2:some e'=some e:=h2
  injection h2 with h2;subst h2
  simpa using kl.1
 |[],[],_,h2 =>
  have h2:some (EV.pv (PV.aB []))=some e:=h2
  injection h2 with h2;subst h2
  exact Rd.aB [] #[] rfl (fun j c u hc=>by simp at hc)
 |e1::e2::SK,v1::v2::Yb,kl,h2 =>
  have lI:¬((v1::v2::Yb).toArray.size=1):=by simp
  rw[dif_neg lI]
  cases e1 with
  |row r off len sz =>
   simp only[Jc] at h2
   split at h2
   ·rename_i ps ov
    injection h2 with h2;subst h2
    obtain⟨g1,g2⟩:=xR _ _ _ ov kl.2
    refine⟨_,rfl,by simpa using g1.symm,⟨v1,by simp,kl.1⟩,fun j p u hp hu=>g2 j p u hp (by simpa using hu)⟩
   ·cases h2
  |_ =>
   simp only[Jc] at h2
   split at h2
   ·rename_i ps ov
    injection h2 with h2;subst h2
    obtain⟨g1,g2⟩:=xR _ _ _ ov kl
    exact Rd.aB ps _ (by simpa using g1) (fun j c u hc hu=>g2 j c u hc (by simpa using hu))
   ·cases h2
 |[_],[],kl,_=>exact kl.elim
 |[_],_::_::_,kl,_=>exact kl.2.elim
 |[],_::_,kl,_=>exact kl.elim
 |_::_::_,[],kl,_=>exact kl.elim
 |_::_::_,[_],kl,_=>exact kl.2.elim
end
end Go.Proofs.YtllmkadmohkbfaaGreatDoor.Sym
