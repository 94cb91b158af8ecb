/- Lemmas for the statements of this seat. -/
import Derived.Test.YtfjfekodeplcoaaGreatWSymMb
namespace Go.Proofs.YtfjfekodeplcoaaGreat.Sym
open Go Go.RowKit
inductive dI where
 |code (c:Code)
 |xZ (id:Nat)
 |q7 (c:Code)
def ph(P:Program)(c:Code)(Q:Exit→Act→World→Prop)(a:Act)(w:World):Prop :=
 ∀(b:Frame) (k:List Item) (cs:List Frame),
  ∃e a' w',Q e a' w'∧Arrives P (lone (b.at a (.code c :: .inLoop c::k)) cs w) b k cs e a' w'
def vg(P:Program)(fn:Func)(R:Ending→World→Prop):List dI→Exit→Act→World→Prop
 |[],e,a,w=>bodyPost P fn R e a w
 |.code c::K,.normal,a,w=>c.wp P (vg P fn R K) a w
 |.code _::K,e,a,w=>vg P fn R K e a w
 |.xZ id::K,.exit id',a,w=>if id'=id then vg P fn R K .normal a w else vg P fn R K (.exit id') a w
 |.xZ _::K,e,a,w=>vg P fn R K e a w
 |.q7 c::K,.normal,a,w=>ph P c (vg P fn R K) a w
 |.q7 _::K,e,a,w=>vg P fn R K e a w
def Sat(P:Program)(fn:Func)(Γ:Ctx)(R:Ending→World→Prop)(K:List dI)(s:St):Prop :=
 ∀a w,Rel Γ s a w→vg P fn R K .normal a w
section
variable {P:Program} {T:jZ} {fn:Func} {Γ:Ctx} {R:Ending→World→Prop} {K:List dI} {s s':St} {a:Act} {w:World}
theorem ph.wp{c:Code}{Q:Exit→Act→World→Prop}(h:ph P c Q a w):(Code.loop c).wp P Q a w:=by
 intro b k cs
 obtain⟨e,a',w',hq,Cv⟩:=h b k cs
 exact⟨e,a',w',hq,.of_steps (.one step_loop) Cv⟩
theorem ph.round{c:Code}{Q:Exit→Act→World→Prop}(h:c.wp P (Exit.then (ph P c Q) Q) a w):ph P c Q a w:=by
 intro b k cs
 obtain⟨e,a₁,w₁,hq,Cv⟩:=h b (.inLoop c::k) cs
 cases e with
 |normal =>
  obtain⟨e₂,a₂,w₂,N4,JV⟩:=hq b k cs
  exact⟨e₂,a₂,w₂,N4,.of_steps (Steps.trans Cv (.one step_inLoop)) JV⟩
 |exit id=>exact⟨_,a₁,w₁,hq,.pass (x := .inLoop c) rfl (fun _ _ => .inl (by simp)) Cv⟩
 |goto l=>exact⟨_,a₁,w₁,hq,.pass (x := .inLoop c) rfl (fun _ _ => .inl (by simp)) Cv⟩
 |ret=>exact⟨_,a₁,w₁,hq,.pass (x := .inLoop c) rfl (fun _ _ => .inl (by simp)) Cv⟩
 |panic ch=>exact⟨_,a₁,w₁,hq,.pass (x := .inLoop c) rfl (fun _ _ => .inl (by simp)) Cv⟩
 |outgrown=>exact⟨_,a₁,w₁,hq,.pass (x := .inLoop c) rfl (fun _ _ => .inl (by simp)) Cv⟩
theorem then_eq{c:Code} : Exit.then (vg P fn R (.code c::K) .normal) (vg P fn R K)=vg P fn R (.code c::K):=by
 funext e a w
 cases e<;>rfl
theorem Ht{id:Nat} : Exit.inBlock id (vg P fn R K)=vg P fn R (.xZ id::K):=by
 funext e a w
 cases e<;>rfl
theorem JW{c:Code} : Exit.then (ph P c (vg P fn R K)) (vg P fn R K)=vg P fn R (.q7 c::K):=by
 funext e a w
 cases e<;>rfl
theorem Sat.round{c:Code}(h:Sat P fn Γ R (.code c :: .q7 c::K) s):Sat P fn Γ R (.q7 c::K) s:=by
 intro a w hr
 have:=h a w hr
 show ph P c (vg P fn R K) a w
 refine ph.round ?_
 rw[JW]
 exact this
theorem Sat.loop{c:Code}(h:Sat P fn Γ R (.q7 c::K) s):Sat P fn Γ R (.code (.loop c)::K) s:=by
 intro a w hr
 exact ph.wp (h a w hr)
def unwind(id:Nat):List dI→Option (List dI)
 |[]=>none
 |.xZ id'::K=>bif Nat.beq id' id then some K else unwind id K
 |_::K=>unwind id K
theorem qt{id:Nat} : ∀{K K':List dI},unwind id K=some K'→vg P fn R K' .normal a w→vg P fn R K (.exit id) a w
 |[],K',h,_=>by cases h
 |.code c::K,K',h,hs=>qt (K:=K) h hs
 |.q7 k::K,K',h,hs=>qt (K:=K) h hs
 |.xZ id'::K,K',h,hs=>by
  simp only[unwind] at h
  simp only[vg]
  cases hb:Nat.beq id' id with
  |true =>
   have:id'=id:=Nat.eq_of_beq_eq_true hb
   subst this
   simp only[hb,cond_true] at h
   injection h with h;subst h
   rw[if_pos rfl];exact hs
  |false =>
   simp only[hb,cond_false] at h
   rw[if_neg (fun e=>by subst e;simp at hb)]
   exact qt h hs
theorem w6:∀(K:List dI),bodyPost P fn R .ret a w→vg P fn R K .ret a w
 |[],h=>h
 |.code _::K,h=>w6 K h
 |.xZ _::K,h=>w6 K h
 |.q7 _::K,h=>w6 K h
def x3(T:jZ)(s:St):List ResultVar→Option (List EV)
 |[]=>some []
 |.tmp t::r=>match s.env.get t,x3 T s r with
  |some e,some es=>some (e::es)
  |_,_=>none
 |.cell x t::r=>match s.env.get x,T.get t,x3 T s r with
  |some (.ptr q off),some d,some es=>match s.sto.get q with
   |some sc=>match AK d sc.pE off .none with
    |some res=>match res.ob with
     |[]=>some (res.val::es)
     |_=>none
    |none=>none
   |none=>none
  |_,_,_=>none
def D6(β:Nat→Option Nat)(L I:Nat→Prop)(w:World):List EV→List Value→Prop
 |[],[]=>True
 |e::es,v::vs=>RE β L I w e v∧D6 β L I w es vs
 |_,_=>False
theorem rB(hT:mN P T){β:Nat→Option Nat}{I:Nat→Prop}(hr:cO Γ s a w β I):∀(l:List ResultVar) (es:List EV),x3 T s l=some es →
  ∃vs,(l.mapM (fun | .tmp t=>pure (a.tmps.getD t undef) | .cell x t=>do loadVar t (←asAddr (a.tmps.getD x undef)):ResultVar→Sem Value)).run P w = .ok vs w∧D6 β (bk s.sto) I w es vs
 |[],es,h=>by injection h with h;subst h;exact⟨[],rfl,trivial⟩
 |.tmp t::r,es,h=>by
  simp only[x3] at h
  split at h
  ·rename_i e Nt he GA
   injection h with h;subst h
   obtain⟨vs,h1,h2⟩:=rB hT hr r Nt GA
   refine⟨a.tmps.getD t undef::vs,?_,hr.env t e he,h2⟩
   rw[List.mapM_cons,Sem.run_bind,Sem.run_pure,Result.andThen_ok,Sem.run_bind,h1]
   rfl
  ·cases h
 |.cell x t::r,es,h=>by
  simp only[x3] at h
  split at h
  ·rename_i q off d Nt he hd GA
   split at h
   ·rename_i sc lO
    split at h
    ·rename_i res nQ
     split at h
     ·rename_i cd
      injection h with h;subst h
      obtain⟨vs,h1,h2⟩:=rB hT hr r Nt GA
      obtain⟨u7,b,hb,hv⟩:=hr.env x _ he
      obtain⟨v,g1,g2,_⟩:=zY (hT t d hd) ((hr.sto.1 q sc lO).1) hb nQ (by rw[cd];trivial)
      refine⟨v::vs,?_,g2,h2⟩
      have ha:(asAddr (a.tmps.getD x undef)).run P w = .ok ⟨b,off,none⟩ w:=by rw[hv];rfl
      rw[List.mapM_cons,Sem.run_bind,Sem.run_bind,ha,Result.andThen_ok,g1,Result.andThen_ok,Sem.run_bind,h1]
      rfl
     ·cases h
    ·cases h
   ·cases h
  ·cases h
def oF:List EV→Option (List PV)
 |[]=>some []
 |.pv p::r=>match oF r with
  |some ps=>some (p::ps)
  |none=>none
 |_=>none
def E0:List EV→Option EV
 |[e]=>some e
 |.row r off len sz::es=>match oF es with
  |some ps=>some (.ni r off len sz ps)
  |none=>none
 |es=>match oF es with
  |some ps=>some (.pv (.bh ps))
  |none=>none
theorem vh{β:Nat→Option Nat}{L I:Nat→Prop} : ∀(es:List EV) (ps:List PV) (vs:List Value),oF es=some ps→D6 β L I w es vs→ps.length=vs.length∧∀(j:Nat) p v,ps[j]? = some p→vs[j]? = some v→Rd I w p v
 |[],ps,[],h,_=>by injection h with h;subst h;exact⟨rfl,fun j p v hp=>by simp at hp⟩
 |.pv p::r,ps,v::vs,h,hr=>by
  simp only[oF] at h
  split at h
  ·rename_i qs hq
   injection h with h;subst h
   obtain⟨h1,h2⟩:=vh r qs vs hq hr.2
   refine⟨by simp[h1],fun j q u hj hu => ?_⟩
   cases j with
   |zero=>simp at hj hu;subst hj hu;exact hr.1
   |succ j=>exact h2 j q u (by simpa using hj) (by simpa using hu)
  ·cases h
 |.pv p::r,ps,[],h,hr=>hr.elim
 |[],ps,_::_,h,hr=>hr.elim
 |.ptr _ _::_,ps,_,h,_=>by simp[oF] at h
 |.row _ _ _ _::_,ps,_,h,_=>by simp[oF] at h
 |.nh _::_,ps,_,h,_=>by simp[oF] at h
 |.dead::_,ps,_,h,_=>by simp[oF] at h
 |.ni _ _ _ _ _::_,ps,_,h,_=>by simp[oF] at h
 |.lX _ _::_,ps,_,h,_=>by simp[oF] at h
 |.ox _ _ _::_,ps,_,h,_=>by simp[oF] at h
 |.mM _ _::_,ps,_,h,_=>by simp[oF] at h
 |.gj _::_,ps,_,h,_=>by simp[oF] at h
theorem zC(hT:mN P T){β:Nat→Option Nat}{I:Nat→Prop}(hr:cO Γ s a w β I){es:List EV}{e:EV}(h1:x3 T s fn.results.toList=some es)(h2:E0 es=some e) :
  ∃v,(results fn a.tmps).run P w = .ok v w∧RE β (bk s.sto) I w e v:=by
 obtain⟨vs,hm,jL⟩:=rB hT hr _ es h1
 have FW:(fn.results.mapM (fun | .tmp t=>pure (a.tmps.getD t undef) | .cell x t=>do loadVar t (←asAddr (a.tmps.getD x undef)):ResultVar→Sem Value)).run P w = .ok vs.toArray w:=by
  rw[←Array.toList_mapM] at hm
  rw[Sem.run_map] at hm
  cases hx:(fn.results.mapM (fun | .tmp t=>pure (a.tmps.getD t undef) | .cell x t=>do loadVar t (←asAddr (a.tmps.getD x undef)):ResultVar→Sem Value)).run P w with
  |halt e' w'=>rw[hx] at hm;cases hm
  |ok x w' =>
   rw[hx] at hm
   simp only[Result.andThen_ok,Result.ok.injEq] at hm
   obtain⟨g1,rfl⟩:=hm
   congr 1
   apply Array.ext'
   simpa using g1
 have nQ:(results fn a.tmps).run P w = .ok (if h:vs.toArray.size=1 then vs.toArray[0] else .tuple vs.toArray) w:=by
  unfold results
  rw[Sem.run_bind]
  exact congrArg (fun r=>Result.andThen r (fun vs w'=>(Pure.pure (if h:vs.size=1 then vs[0] else .tuple vs):Sem Value).run P w')) FW
 refine⟨_,nQ,?_⟩
 match es,vs,jL,h2 with
 |[e'],[v],jL,h2 =>
  have h2:some e'=some e:=h2
  injection h2 with h2;subst h2
  simpa using jL.1
 |[],[],_,h2 =>
  have h2:some (EV.pv (PV.bh []))=some e:=h2
  injection h2 with h2;subst h2
  exact Rd.bh [] #[] rfl (fun j c u hc=>by simp at hc)
 |e1::e2::Nt,v1::v2::Si,jL,h2 =>
  have jo:¬((v1::v2::Si).toArray.size=1):=by simp
  rw[dif_neg jo]
  cases e1 with
  |row r off len sz =>
   simp only[E0] at h2
   split at h2
   ·rename_i ps mP
    injection h2 with h2;subst h2
    obtain⟨g1,g2⟩:=vh _ _ _ mP jL.2
    refine⟨_,rfl,by simpa using g1.symm,⟨v1,by simp,jL.1⟩,fun j p u hp hu=>g2 j p u hp (by simpa using hu)⟩
   ·cases h2
  |_ =>
   simp only[E0] at h2
   split at h2
   ·rename_i ps mP
    injection h2 with h2;subst h2
    obtain⟨g1,g2⟩:=vh _ _ _ mP jL
    exact Rd.bh ps _ (by simpa using g1) (fun j c u hc hu=>g2 j c u hc (by simpa using hu))
   ·cases h2
 |[_],[],jL,_=>exact jL.elim
 |[_],_::_::_,jL,_=>exact jL.2.elim
 |[],_::_,jL,_=>exact jL.elim
 |_::_::_,[],jL,_=>exact jL.elim
 |_::_::_,[_],jL,_=>exact jL.2.elim
end
end Go.Proofs.YtfjfekodeplcoaaGreat.Sym
