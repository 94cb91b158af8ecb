/- Lemmas for the statements of this seat. -/
import Derived.Test.YtnjhplhbmapclaaGreatDoorWSymMb
namespace Go.Proofs.YtnjhplhbmapclaaGreatDoor.Sym
open Go Go.RowKit
inductive dB where
 |code (c:Code)
 |tt (id:Nat)
 |mF (c:Code)
def kY(P:Program)(c:Code)(Q:Exit→Act→World→Prop)(a:Act)(w:World):Prop :=
 ∀(b:Frame) (k:List Item) (cs:List Frame),
  ∃e a' w',Q e a' w'∧Arrives P (lone (b.at a (.code c :: .inLoop c::k)) cs w) b k cs e a' w'
def qI(P:Program)(fn:Func)(R:Ending→World→Prop):List dB→Exit→Act→World→Prop
 |[],e,a,w=>bodyPost P fn R e a w
 |.code c::K,.normal,a,w=>c.wp P (qI P fn R K) a w
 |.code _::K,e,a,w=>qI P fn R K e a w
 |.tt id::K,.exit id',a,w=>if id'=id then qI P fn R K .normal a w else qI P fn R K (.exit id') a w
 |.tt _::K,e,a,w=>qI P fn R K e a w
 |.mF c::K,.normal,a,w=>kY P c (qI P fn R K) a w
 |.mF _::K,e,a,w=>qI P fn R K e a w
def Sat(P:Program)(fn:Func)(Γ:Ctx)(R:Ending→World→Prop)(K:List dB)(s:St):Prop :=
 ∀a w,Rel Γ s a w→qI P fn R K .normal a w
section
variable {P:Program} {T:gi} {fn:Func} {Γ:Ctx} {R:Ending→World→Prop} {K:List dB} {s s':St} {a:Act} {w:World}
theorem kY.wp{c:Code}{Q:Exit→Act→World→Prop}(h:kY P c Q a w):(Code.loop c).wp P Q a w:=by
 intro b k cs
 obtain⟨e,a',w',hq,xL⟩:=h b k cs
 exact⟨e,a',w',hq,.of_steps (.one step_loop) xL⟩
theorem kY.round{c:Code}{Q:Exit→Act→World→Prop}(h:c.wp P (Exit.then (kY P c Q) Q) a w):kY P c Q a w:=by
 intro b k cs
 obtain⟨e,a₁,w₁,hq,xL⟩:=h b (.inLoop c::k) cs
 cases e with
 |normal =>
  obtain⟨e₂,a₂,w₂,IY,E2⟩:=hq b k cs
  exact⟨e₂,a₂,w₂,IY,.of_steps (Steps.trans xL (.one step_inLoop)) E2⟩
 |exit id=>exact⟨_,a₁,w₁,hq,.pass (x := .inLoop c) rfl (fun _ _ => .inl (by simp)) xL⟩
 |goto l=>exact⟨_,a₁,w₁,hq,.pass (x := .inLoop c) rfl (fun _ _ => .inl (by simp)) xL⟩
 |ret=>exact⟨_,a₁,w₁,hq,.pass (x := .inLoop c) rfl (fun _ _ => .inl (by simp)) xL⟩
 |panic ch=>exact⟨_,a₁,w₁,hq,.pass (x := .inLoop c) rfl (fun _ _ => .inl (by simp)) xL⟩
 |outgrown=>exact⟨_,a₁,w₁,hq,.pass (x := .inLoop c) rfl (fun _ _ => .inl (by simp)) xL⟩
theorem then_eq{c:Code} : Exit.then (qI P fn R (.code c::K) .normal) (qI P fn R K)=qI P fn R (.code c::K):=by
 funext e a w
 cases e<;>rfl
theorem CX{id:Nat} : Exit.inBlock id (qI P fn R K)=qI P fn R (.tt id::K):=by
 funext e a w
 cases e<;>rfl
theorem E3{c:Code} : Exit.then (kY P c (qI P fn R K)) (qI P fn R K)=qI P fn R (.mF c::K):=by
 funext e a w
 cases e<;>rfl
theorem Sat.round{c:Code}(h:Sat P fn Γ R (.code c :: .mF c::K) s):Sat P fn Γ R (.mF c::K) s:=by
 intro a w hr
 have:=h a w hr
 show kY P c (qI P fn R K) a w
 refine kY.round ?_
 rw[E3]
 exact this
theorem Sat.loop{c:Code}(h:Sat P fn Γ R (.mF c::K) s):Sat P fn Γ R (.code (.loop c)::K) s:=by
 intro a w hr
 exact kY.wp (h a w hr)
def unwind(id:Nat):List dB→Option (List dB)
 |[]=>none
 |.tt id'::K=>bif Nat.beq id' id then some K else unwind id K
 |_::K=>unwind id K
theorem lS{id:Nat} : ∀{K K':List dB},unwind id K=some K'→qI P fn R K' .normal a w→qI P fn R K (.exit id) a w
 |[],K',h,_=>by cases h
 |.code c::K,K',h,hs=>lS (K:=K) h hs
 |.mF k::K,K',h,hs=>lS (K:=K) h hs
 |.tt id'::K,K',h,hs=>by
  simp only[unwind] at h
  simp only[qI]
  cases hb:Nat.beq id' id with
  |true =>
   have:id'=id:=Nat.eq_of_beq_eq_true hb
   subst this
   simp only[hb,cond_true] at h
   injection h with h;subst h
   rw[if_pos rfl];exact hs
  |false =>
   simp only[hb,cond_false] at h
   rw[if_neg (fun e=>by subst e;simp at hb)]
   exact lS h hs
theorem sv:∀(K:List dB),bodyPost P fn R .ret a w→qI P fn R K .ret a w
 |[],h=>h
 |.code _::K,h=>sv K h
 |.tt _::K,h=>sv K h
 |.mF _::K,h=>sv K h
def tu(T:gi)(s:St):List ResultVar→Option (List EV)
 |[]=>some []
 |.tmp t::r=>match s.env.get t,tu T s r with
  |some e,some es=>some (e::es)
  |_,_=>none
 |.cell x t::r=>match s.env.get x,T.get t,tu T s r with
  |some (.ptr q off),some d,some es=>match s.aw.get q with
   |some sc=>match vT d sc.mw off .none with
    |some res=>match res.ob with
     |[]=>some (res.val::es)
     |_=>none
    |none=>none
   |none=>none
  |_,_,_=>none
def zj(β:Nat→Option Nat)(L I:Nat→Prop)(w:World):List EV→List Value→Prop
 |[],[]=>True
 |e::es,v::vs=>RE β L I w e v∧zj β L I w es vs
 |_,_=>False
theorem mX(hT:jh P T){β:Nat→Option Nat}{I:Nat→Prop}(hr:bK Γ s a w β I):∀(l:List ResultVar) (es:List EV),tu T s l=some es →
  ∃vs,(l.mapM (fun | .tmp t=>pure (a.tmps.getD t undef) | .cell x t=>do loadVar t (←asAddr (a.tmps.getD x undef)):ResultVar→Sem Value)).run P w = .ok vs w∧zj β (aT s.aw) I w es vs
 |[],es,h=>by injection h with h;subst h;exact⟨[],rfl,trivial⟩
 |.tmp t::r,es,h=>by
  simp only[tu] at h
  split at h
  ·rename_i e Is he B4
   injection h with h;subst h
   obtain⟨vs,h1,h2⟩:=mX hT hr r Is B4
   refine⟨a.tmps.getD t undef::vs,?_,hr.env t e he,h2⟩
   rw[List.mapM_cons,Sem.run_bind,Sem.run_pure,Result.andThen_ok,Sem.run_bind,h1]
   rfl
  ·cases h
 |.cell x t::r,es,h=>by
  simp only[tu] at h
  split at h
  ·rename_i q off d Is he hd B4
   split at h
   ·rename_i sc jP
    split at h
    ·rename_i res jV
     split at h
     ·rename_i bj
      injection h with h;subst h
      obtain⟨vs,h1,h2⟩:=mX hT hr r Is B4
      obtain⟨r6,b,hb,hv⟩:=hr.env x _ he
      obtain⟨v,g1,g2,_⟩:=vb (hT t d hd) ((hr.aw.1 q sc jP).1) hb jV (by rw[bj];trivial)
      refine⟨v::vs,?_,g2,h2⟩
      have ha:(asAddr (a.tmps.getD x undef)).run P w = .ok ⟨b,off,none⟩ w:=by rw[hv];rfl
      rw[List.mapM_cons,Sem.run_bind,Sem.run_bind,ha,Result.andThen_ok,g1,Result.andThen_ok,Sem.run_bind,h1]
      rfl
     ·cases h
    ·cases h
   ·cases h
  ·cases h
def kA:List EV→Option (List PV)
 |[]=>some []
 |.pv p::r=>match kA r with
  |some ps=>some (p::ps)
  |none=>none
 |_=>none
def AB:List EV→Option EV
 |[e]=>some e
 |.row r off len sz::es=>match kA es with
  |some ps=>some (.jE r off len sz ps)
  |none=>none
 |es=>match kA es with
  |some ps=>some (.pv (.aY ps))
  |none=>none
theorem qJ{β:Nat→Option Nat}{L I:Nat→Prop} : ∀(es:List EV) (ps:List PV) (vs:List Value),kA es=some ps→zj β L I w es vs→ps.length=vs.length∧∀(j:Nat) p v,ps[j]? = some p→vs[j]? = some v→Rd I w p v
 |[],ps,[],h,_=>by injection h with h;subst h;exact⟨rfl,fun j p v hp=>by simp at hp⟩
 |.pv p::r,ps,v::vs,h,hr=>by
  simp only[kA] at h
  split at h
  ·rename_i qs hq
   injection h with h;subst h
   obtain⟨h1,h2⟩:=qJ r qs vs hq hr.2
   refine⟨by simp[h1],fun j q u hj hu => ?_⟩
   cases j with
   |zero=>simp at hj hu;subst hj hu;exact hr.1
   |succ j=>exact h2 j q u (by simpa using hj) (by simpa using hu)
  ·cases h
 |.pv p::r,ps,[],h,hr=>hr.elim
 |[],ps,_::_,h,hr=>hr.elim
 |.ptr _ _::_,ps,_,h,_=>by simp[kA] at h
 |.row _ _ _ _::_,ps,_,h,_=>by simp[kA] at h
 |.jD _::_,ps,_,h,_=>by simp[kA] at h
 |.dead::_,ps,_,h,_=>by simp[kA] at h
 |.jE _ _ _ _ _::_,ps,_,h,_=>by simp[kA] at h
 |.sk _ _::_,ps,_,h,_=>by simp[kA] at h
 |.km _ _ _::_,ps,_,h,_=>by simp[kA] at h
 |.jg _ _::_,ps,_,h,_=>by simp[kA] at h
 |.jF _::_,ps,_,h,_=>by simp[kA] at h
theorem uQ(hT:jh P T){β:Nat→Option Nat}{I:Nat→Prop}(hr:bK Γ s a w β I){es:List EV}{e:EV}(h1:tu T s fn.results.toList=some es)(h2:AB es=some e) :
  ∃v,(results fn a.tmps).run P w = .ok v w∧RE β (aT s.aw) I w e v:=by
 obtain⟨vs,hm,fR⟩:=mX hT hr _ es h1
 have KC:(fn.results.mapM (fun | .tmp t=>pure (a.tmps.getD t undef) | .cell x t=>do loadVar t (←asAddr (a.tmps.getD x undef)):ResultVar→Sem Value)).run P w = .ok vs.toArray w:=by
  rw[←Array.toList_mapM] at hm
  rw[Sem.run_map] at hm
  cases hx:(fn.results.mapM (fun | .tmp t=>pure (a.tmps.getD t undef) | .cell x t=>do loadVar t (←asAddr (a.tmps.getD x undef)):ResultVar→Sem Value)).run P w with
  |halt e' w'=>rw[hx] at hm;cases hm
  |ok x w' =>
   rw[hx] at hm
   simp only[Result.andThen_ok,Result.ok.injEq] at hm
   obtain⟨g1,rfl⟩:=hm
   congr 1
   apply Array.ext'
   simpa using g1
 have jV:(results fn a.tmps).run P w = .ok (if h:vs.toArray.size=1 then vs.toArray[0] else .tuple vs.toArray) w:=by
  unfold results
  rw[Sem.run_bind]
  exact congrArg (fun r=>Result.andThen r (fun vs w'=>(Pure.pure (if h:vs.size=1 then vs[0] else .tuple vs):Sem Value).run P w')) KC
 refine⟨_,jV,?_⟩
 match es,vs,fR,h2 with
 |[e'],[v],fR,h2 =>
  have h2:some e'=some e:=h2
  injection h2 with h2;subst h2
  simpa using fR.1
 |[],[],_,h2 =>
  have h2:some (EV.pv (PV.aY []))=some e:=h2
  injection h2 with h2;subst h2
  exact Rd.aY [] #[] rfl (fun j c u hc=>by simp at hc)
 |e1::e2::Is,v1::v2::MA,fR,h2 =>
  have gn:¬((v1::v2::MA).toArray.size=1):=by simp
  rw[dif_neg gn]
  cases e1 with
  |row r off len sz =>
   simp only[AB] at h2
   split at h2
   ·rename_i ps jG
    injection h2 with h2;subst h2
    obtain⟨g1,g2⟩:=qJ _ _ _ jG fR.2
    refine⟨_,rfl,by simpa using g1.symm,⟨v1,by simp,fR.1⟩,fun j p u hp hu=>g2 j p u hp (by simpa using hu)⟩
   ·cases h2
  |_ =>
   simp only[AB] at h2
   split at h2
   ·rename_i ps jG
    injection h2 with h2;subst h2
    obtain⟨g1,g2⟩:=qJ _ _ _ jG fR
    exact Rd.aY ps _ (by simpa using g1) (fun j c u hc hu=>g2 j c u hc (by simpa using hu))
   ·cases h2
 |[_],[],fR,_=>exact fR.elim
 |[_],_::_::_,fR,_=>exact fR.2.elim
 |[],_::_,fR,_=>exact fR.elim
 |_::_::_,[],fR,_=>exact fR.elim
 |_::_::_,[_],fR,_=>exact fR.2.elim
end
end Go.Proofs.YtnjhplhbmapclaaGreatDoor.Sym
