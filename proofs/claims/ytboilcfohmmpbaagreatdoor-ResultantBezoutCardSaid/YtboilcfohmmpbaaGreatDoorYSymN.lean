/- Bezout and Accepts of the program answer as the reference does. -/
import Derived.Test.YtboilcfohmmpbaaGreatDoorYSymMb
namespace Go.Proofs.YtboilcfohmmpbaaGreatDoor.Sym
open Go Go.RowKit
inductive Itm where
 |code (c:Code)
 |endB (id:Nat)
 |endL (c:Code)
def LoopAt(P:Program)(c:Code)(Q:Exit→Act→World→Prop)(a:Act)(w:World):Prop :=
 ∀(b:Frame) (k:List Item) (cs:List Frame),
  ∃e a' w',Q e a' w'∧Arrives P (lone (b.at a (.code c :: .inLoop c::k)) cs w) b k cs e a' w'
def sem(P:Program)(fn:Func)(R:Ending→World→Prop):List Itm→Exit→Act→World→Prop
 |[],e,a,w=>bodyPost P fn R e a w
 |.code c::K,.normal,a,w=>c.wp P (sem P fn R K) a w
 |.code _::K,e,a,w=>sem P fn R K e a w
 |.endB id::K,.exit id',a,w=>if id'=id then sem P fn R K .normal a w else sem P fn R K (.exit id') a w
 |.endB _::K,e,a,w=>sem P fn R K e a w
 |.endL c::K,.normal,a,w=>LoopAt P c (sem P fn R K) a w
 |.endL _::K,e,a,w=>sem P fn R K e a w
def Sat(P:Program)(fn:Func)(Γ:Ctx)(R:Ending→World→Prop)(K:List Itm)(s:St):Prop :=
 ∀a w,Rel Γ s a w→sem P fn R K .normal a w
section
variable {P:Program} {T:Tab} {fn:Func} {Γ:Ctx} {R:Ending→World→Prop} {K:List Itm} {s s':St} {a:Act} {w:World}
theorem LoopAt.wp{c:Code}{Q:Exit→Act→World→Prop}(h:LoopAt P c Q a w):(Code.loop c).wp P Q a w:=by
 intro b k cs
 obtain⟨e,a',w',hq,harr⟩:=h b k cs
 exact⟨e,a',w',hq,.of_steps (.one step_loop) harr⟩
theorem LoopAt.round{c:Code}{Q:Exit→Act→World→Prop}(h:c.wp P (Exit.then (LoopAt P c Q) Q) a w):LoopAt P c Q a w:=by
 intro b k cs
 obtain⟨e,a₁,w₁,hq,harr⟩:=h b (.inLoop c::k) cs
 cases e with
 |normal =>
  obtain⟨e₂,a₂,w₂,hq₂,harr₂⟩:=hq b k cs
  exact⟨e₂,a₂,w₂,hq₂,.of_steps (Steps.trans harr (.one step_inLoop)) harr₂⟩
 |exit id=>exact⟨_,a₁,w₁,hq,.pass (x := .inLoop c) rfl (fun _ _ => .inl (by simp)) harr⟩
 |goto l=>exact⟨_,a₁,w₁,hq,.pass (x := .inLoop c) rfl (fun _ _ => .inl (by simp)) harr⟩
 |ret=>exact⟨_,a₁,w₁,hq,.pass (x := .inLoop c) rfl (fun _ _ => .inl (by simp)) harr⟩
 |panic ch=>exact⟨_,a₁,w₁,hq,.pass (x := .inLoop c) rfl (fun _ _ => .inl (by simp)) harr⟩
 |outgrown=>exact⟨_,a₁,w₁,hq,.pass (x := .inLoop c) rfl (fun _ _ => .inl (by simp)) harr⟩
theorem then_eq{c:Code} : Exit.then (sem P fn R (.code c::K) .normal) (sem P fn R K)=sem P fn R (.code c::K):=by
 funext e a w
 cases e<;>rfl
theorem block_eq{id:Nat} : Exit.inBlock id (sem P fn R K)=sem P fn R (.endB id::K):=by
 funext e a w
 cases e<;>rfl
theorem loop_eq{c:Code} : Exit.then (LoopAt P c (sem P fn R K)) (sem P fn R K)=sem P fn R (.endL c::K):=by
 funext e a w
 cases e<;>rfl
theorem Sat.round{c:Code}(h:Sat P fn Γ R (.code c :: .endL c::K) s):Sat P fn Γ R (.endL c::K) s:=by
 intro a w hr
 have:=h a w hr
 show LoopAt P c (sem P fn R K) a w
 refine LoopAt.round ?_
 rw[loop_eq]
 exact this
theorem Sat.loop{c:Code}(h:Sat P fn Γ R (.endL c::K) s):Sat P fn Γ R (.code (.loop c)::K) s:=by
 intro a w hr
 exact LoopAt.wp (h a w hr)
def unwind(id:Nat):List Itm→Option (List Itm)
 |[]=>none
 |.endB id'::K=>bif Nat.beq id' id then some K else unwind id K
 |_::K=>unwind id K
theorem unwind_sem{id:Nat} : ∀{K K':List Itm},unwind id K=some K'→sem P fn R K' .normal a w→sem P fn R K (.exit id) a w
 |[],K',h,_=>by cases h
 |.code c::K,K',h,hs=>unwind_sem (K:=K) h hs
 |.endL k::K,K',h,hs=>unwind_sem (K:=K) h hs
 |.endB id'::K,K',h,hs=>by
  simp only[unwind] at h
  simp only[sem]
  cases hb:Nat.beq id' id with
  |true =>
   have:id'=id:=Nat.eq_of_beq_eq_true hb
   subst this
   simp only[hb,cond_true] at h
   injection h with h;subst h
   rw[if_pos rfl];exact hs
  |false =>
   simp only[hb,cond_false] at h
   rw[if_neg (fun e=>by subst e;simp at hb)]
   exact unwind_sem h hs
theorem ret_sem:∀(K:List Itm),bodyPost P fn R .ret a w→sem P fn R K .ret a w
 |[],h=>h
 |.code _::K,h=>ret_sem K h
 |.endB _::K,h=>ret_sem K h
 |.endL _::K,h=>ret_sem K h
def resEV(T:Tab)(s:St):List ResultVar→Option (List EV)
 |[]=>some []
 |.tmp t::r=>match s.env.get t,resEV T s r with
  |some e,some es=>some (e::es)
  |_,_=>none
 |.cell x t::r=>match s.env.get x,T.get t,resEV T s r with
  |some (.ptr q off),some d,some es=>match s.sto.get q with
   |some sc=>match loadEV d sc.evs off .none with
    |some res=>match res.ob with
     |[]=>some (res.val::es)
     |_=>none
    |none=>none
   |none=>none
  |_,_,_=>none
def ResRel(β:Nat→Option Nat)(L I:Nat→Prop)(w:World):List EV→List Value→Prop
 |[],[]=>True
 |e::es,v::vs=>RE β L I w e v∧ResRel β L I w es vs
 |_,_=>False
theorem resEV_sound(hT:TOk P T){β:Nat→Option Nat}{I:Nat→Prop}(hr:RelB Γ s a w β I):∀(l:List ResultVar) (es:List EV),resEV T s l=some es →
  ∃vs,(l.mapM (fun | .tmp t=>pure (a.tmps.getD t undef) | .cell x t=>do loadVar t (←asAddr (a.tmps.getD x undef)):ResultVar→Sem Value)).run P w = .ok vs w∧ResRel β (dom s.sto) I w es vs
 |[],es,h=>by injection h with h;subst h;exact⟨[],rfl,trivial⟩
 |.tmp t::r,es,h=>by
  simp only[resEV] at h
  split at h
  ·rename_i e es' he hes
   injection h with h;subst h
   obtain⟨vs,h1,h2⟩:=resEV_sound hT hr r es' hes
   refine⟨a.tmps.getD t undef::vs,?_,hr.env t e he,h2⟩
   rw[List.mapM_cons,Sem.run_bind,Sem.run_pure,Result.andThen_ok,Sem.run_bind,h1]
   rfl
  ·cases h
 |.cell x t::r,es,h=>by
  simp only[resEV] at h
  split at h
  ·rename_i q off d es' he hd hes
   split at h
   ·rename_i sc hsc
    split at h
    ·rename_i res hres
     split at h
     ·rename_i hob
      injection h with h;subst h
      obtain⟨vs,h1,h2⟩:=resEV_sound hT hr r es' hes
      obtain⟨hdr,b,hb,hv⟩:=hr.env x _ he
      obtain⟨v,g1,g2,_⟩:=load_site (hT t d hd) ((hr.sto.1 q sc hsc).1) hb hres (by rw[hob];trivial)
      refine⟨v::vs,?_,g2,h2⟩
      have ha:(asAddr (a.tmps.getD x undef)).run P w = .ok ⟨b,off,none⟩ w:=by rw[hv];rfl
      rw[List.mapM_cons,Sem.run_bind,Sem.run_bind,ha,Result.andThen_ok,g1,Result.andThen_ok,Sem.run_bind,h1]
      rfl
     ·cases h
    ·cases h
   ·cases h
  ·cases h
def pvAll:List EV→Option (List PV)
 |[]=>some []
 |.pv p::r=>match pvAll r with
  |some ps=>some (p::ps)
  |none=>none
 |_=>none
def oneEV:List EV→Option EV
 |[e]=>some e
 |.row r off len sz::es=>match pvAll es with
  |some ps=>some (.rowT r off len sz ps)
  |none=>none
 |es=>match pvAll es with
  |some ps=>some (.pv (.tup ps))
  |none=>none
theorem pvAll_rel{β:Nat→Option Nat}{L I:Nat→Prop} : ∀(es:List EV) (ps:List PV) (vs:List Value),pvAll es=some ps→ResRel β L I w es vs→ps.length=vs.length∧∀(j:Nat) p v,ps[j]? = some p→vs[j]? = some v→Rd I w p v
 |[],ps,[],h,_=>by injection h with h;subst h;exact⟨rfl,fun j p v hp=>by simp at hp⟩
 |.pv p::r,ps,v::vs,h,hr=>by
  simp only[pvAll] at h
  split at h
  ·rename_i qs hq
   injection h with h;subst h
   obtain⟨h1,h2⟩:=pvAll_rel r qs vs hq hr.2
   refine⟨by simp[h1],fun j q u hj hu => ?_⟩
   cases j with
   |zero=>simp at hj hu;subst hj hu;exact hr.1
   |succ j=>exact h2 j q u (by simpa using hj) (by simpa using hu)
  ·cases h
 |.pv p::r,ps,[],h,hr=>hr.elim
 |[],ps,_::_,h,hr=>hr.elim
 |.ptr _ _::_,ps,_,h,_=>by simp[pvAll] at h
 |.row _ _ _ _::_,ps,_,h,_=>by simp[pvAll] at h
 |.cptr _::_,ps,_,h,_=>by simp[pvAll] at h
 |.dead::_,ps,_,h,_=>by simp[pvAll] at h
 |.rowT _ _ _ _ _::_,ps,_,h,_=>by simp[pvAll] at h
 |.clo _ _::_,ps,_,h,_=>by simp[pvAll] at h
 |.mrow _ _ _::_,ps,_,h,_=>by simp[pvAll] at h
 |.mptr _ _::_,ps,_,h,_=>by simp[pvAll] at h
theorem results_sound(hT:TOk P T){β:Nat→Option Nat}{I:Nat→Prop}(hr:RelB Γ s a w β I){es:List EV}{e:EV}(h1:resEV T s fn.results.toList=some es)(h2:oneEV es=some e) :
  ∃v,(results fn a.tmps).run P w = .ok v w∧RE β (dom s.sto) I w e v:=by
 obtain⟨vs,hm,hrel⟩:=resEV_sound hT hr _ es h1
 have hm':(fn.results.mapM (fun | .tmp t=>pure (a.tmps.getD t undef) | .cell x t=>do loadVar t (←asAddr (a.tmps.getD x undef)):ResultVar→Sem Value)).run P w = .ok vs.toArray w:=by
  rw[←Array.toList_mapM] at hm
  rw[Sem.run_map] at hm
  cases hx:(fn.results.mapM (fun | .tmp t=>pure (a.tmps.getD t undef) | .cell x t=>do loadVar t (←asAddr (a.tmps.getD x undef)):ResultVar→Sem Value)).run P w with
  |halt e' w'=>rw[hx] at hm;cases hm
  |ok x w' =>
   rw[hx] at hm
   simp only[Result.andThen_ok,Result.ok.injEq] at hm
   obtain⟨g1,rfl⟩:=hm
   congr 1
   apply Array.ext'
   simpa using g1
 have hres:(results fn a.tmps).run P w = .ok (if h:vs.toArray.size=1 then vs.toArray[0] else .tuple vs.toArray) w:=by
  unfold results
  rw[Sem.run_bind]
  exact congrArg (fun r=>Result.andThen r (fun vs w'=>(Pure.pure (if h:vs.size=1 then vs[0] else .tuple vs):Sem Value).run P w')) hm'
 refine⟨_,hres,?_⟩
 match es,vs,hrel,h2 with
 |[e'],[v],hrel,h2 =>
  have h2:some e'=some e:=h2
  injection h2 with h2;subst h2
  simpa using hrel.1
 |[],[],_,h2 =>
  have h2:some (EV.pv (PV.tup []))=some e:=h2
  injection h2 with h2;subst h2
  exact Rd.tup [] #[] rfl (fun j c u hc=>by simp at hc)
 |e1::e2::es',v1::v2::vs',hrel,h2 =>
  have hsz:¬((v1::v2::vs').toArray.size=1):=by simp
  rw[dif_neg hsz]
  cases e1 with
  |row r off len sz =>
   simp only[oneEV] at h2
   split at h2
   ·rename_i ps hps
    injection h2 with h2;subst h2
    obtain⟨g1,g2⟩:=pvAll_rel _ _ _ hps hrel.2
    refine⟨_,rfl,by simpa using g1.symm,⟨v1,by simp,hrel.1⟩,fun j p u hp hu=>g2 j p u hp (by simpa using hu)⟩
   ·cases h2
  |_ =>
   simp only[oneEV] at h2
   split at h2
   ·rename_i ps hps
    injection h2 with h2;subst h2
    obtain⟨g1,g2⟩:=pvAll_rel _ _ _ hps hrel
    exact Rd.tup ps _ (by simpa using g1) (fun j c u hc hu=>g2 j c u hc (by simpa using hu))
   ·cases h2
 |[_],[],hrel,_=>exact hrel.elim
 |[_],_::_::_,hrel,_=>exact hrel.2.elim
 |[],_::_,hrel,_=>exact hrel.elim
 |_::_::_,[],hrel,_=>exact hrel.elim
 |_::_::_,[_],hrel,_=>exact hrel.2.elim
end
end Go.Proofs.YtboilcfohmmpbaaGreatDoor.Sym
