/- Lemmas for the statements of this seat. -/
import Derived.Test.YtllmkadmohkbfaaGreatDoorWSymMb
namespace Go.Proofs.YtllmkadmohkbfaaGreatDoor.Sym
open Go Go.RowKit
inductive gC where
 |code (c:Code)
 |GF (id:Nat)
 |zH (c:Code)
def xg(P:Program)(c:Code)(Q:Exit→Act→World→Prop)(a:Act)(w:World):Prop :=
 ∀(b:Frame) (k:List Item) (cs:List Frame),
  ∃e a' w',Q e a' w'∧Arrives P (lone (b.at a (.code c :: .inLoop c::k)) cs w) b k cs e a' w'
def D8(P:Program)(fn:Func)(R:Ending→World→Prop):List gC→Exit→Act→World→Prop
 |[],e,a,w=>bodyPost P fn R e a w
 |.code c::K,.normal,a,w=>c.wp P (D8 P fn R K) a w
 |.code _::K,e,a,w=>D8 P fn R K e a w
 |.GF id::K,.exit id',a,w=>if id'=id then D8 P fn R K .normal a w else D8 P fn R K (.exit id') a w
 |.GF _::K,e,a,w=>D8 P fn R K e a w
 |.zH c::K,.normal,a,w=>xg P c (D8 P fn R K) a w
 |.zH _::K,e,a,w=>D8 P fn R K e a w
def Sat(P:Program)(fn:Func)(Γ:Ctx)(R:Ending→World→Prop)(K:List gC)(s:St):Prop :=
 ∀a w,Rel Γ s a w→D8 P fn R K .normal a w
section
variable {P:Program} {T:qU} {fn:Func} {Γ:Ctx} {R:Ending→World→Prop} {K:List gC} {s s':St} {a:Act} {w:World}
theorem xg.wp{c:Code}{Q:Exit→Act→World→Prop}(h:xg P c Q a w):(Code.loop c).wp P Q a w:=by
 intro b k cs
 obtain⟨e,a',w',hq,KY⟩:=h b k cs
 exact⟨e,a',w',hq,.of_steps (.one step_loop) KY⟩
theorem xg.round{c:Code}{Q:Exit→Act→World→Prop}(h:c.wp P (Exit.then (xg P c Q) Q) a w):xg P c Q a w:=by
 intro b k cs
 obtain⟨e,a₁,w₁,hq,KY⟩:=h b (.inLoop c::k) cs
 cases e with
 |normal =>
  obtain⟨e₂,a₂,w₂,WY,SN⟩:=hq b k cs
  exact⟨e₂,a₂,w₂,WY,.of_steps (Steps.trans KY (.one step_inLoop)) SN⟩
 |exit id=>exact⟨_,a₁,w₁,hq,.pass (x := .inLoop c) rfl (fun _ _ => .inl (by simp)) KY⟩
 |goto l=>exact⟨_,a₁,w₁,hq,.pass (x := .inLoop c) rfl (fun _ _ => .inl (by simp)) KY⟩
 |ret=>exact⟨_,a₁,w₁,hq,.pass (x := .inLoop c) rfl (fun _ _ => .inl (by simp)) KY⟩
 |panic ch=>exact⟨_,a₁,w₁,hq,.pass (x := .inLoop c) rfl (fun _ _ => .inl (by simp)) KY⟩
 |outgrown=>exact⟨_,a₁,w₁,hq,.pass (x := .inLoop c) rfl (fun _ _ => .inl (by simp)) KY⟩
theorem then_eq{c:Code} : Exit.then (D8 P fn R (.code c::K) .normal) (D8 P fn R K)=D8 P fn R (.code c::K):=by
 funext e a w
 cases e<;>rfl
theorem Qw{id:Nat} : Exit.inBlock id (D8 P fn R K)=D8 P fn R (.GF id::K):=by
 funext e a w
 cases e<;>rfl
theorem SO{c:Code} : Exit.then (xg P c (D8 P fn R K)) (D8 P fn R K)=D8 P fn R (.zH c::K):=by
 funext e a w
 cases e<;>rfl
theorem Sat.round{c:Code}(h:Sat P fn Γ R (.code c :: .zH c::K) s):Sat P fn Γ R (.zH c::K) s:=by
 intro a w hr
 have:=h a w hr
 show xg P c (D8 P fn R K) a w
 refine xg.round ?_
 rw[SO]
 exact this
theorem Sat.loop{c:Code}(h:Sat P fn Γ R (.zH c::K) s):Sat P fn Γ R (.code (.loop c)::K) s:=by
 intro a w hr
 exact xg.wp (h a w hr)
def unwind(id:Nat):List gC→Option (List gC)
 |[]=>none
 |.GF id'::K=>bif Nat.beq id' id then some K else unwind id K
 |_::K=>unwind id K
theorem yr{id:Nat} : ∀{K K':List gC},unwind id K=some K'→D8 P fn R K' .normal a w→D8 P fn R K (.exit id) a w
 |[],K',h,_=>by cases h
 |.code c::K,K',h,hs=>yr (K:=K) h hs
 |.zH k::K,K',h,hs=>yr (K:=K) h hs
 |.GF id'::K,K',h,hs=>by
  simp only[unwind] at h
  simp only[D8]
  cases hb:Nat.beq id' id with
  |true =>
   have:id'=id:=Nat.eq_of_beq_eq_true hb
   subst this
   simp only[hb,cond_true] at h
   injection h with h;subst h
   rw[if_pos rfl];exact hs
  |false =>
   simp only[hb,cond_false] at h
   rw[if_neg (fun e=>by subst e;simp at hb)]
   exact yr h hs
theorem FL:∀(K:List gC),bodyPost P fn R .ret a w→D8 P fn R K .ret a w
 |[],h=>h
 |.code _::K,h=>FL K h
 |.GF _::K,h=>FL K h
 |.zH _::K,h=>FL K h
def GG(T:qU)(s:St):List ResultVar→Option (List EV)
 |[]=>some []
 |.tmp t::r=>match s.env.get t,GG T s r with
  |some e,some es=>some (e::es)
  |_,_=>none
 |.cell x t::r=>match s.env.get x,T.get t,GG T s r with
  |some (.ptr q off),some d,some es=>match s.bp.get q with
   |some sc=>match Ju d sc.zw off .none with
    |some res=>match res.ob with
     |[]=>some (res.val::es)
     |_=>none
    |none=>none
   |none=>none
  |_,_,_=>none
def MH(β:Nat→Option Nat)(L I:Nat→Prop)(w:World):List EV→List Value→Prop
 |[],[]=>True
 |e::es,v::vs=>RE β L I w e v∧MH β L I w es vs
 |_,_=>False
theorem z6(hT:uj P T){β:Nat→Option Nat}{I:Nat→Prop}(hr:iA Γ s a w β I):∀(l:List ResultVar) (es:List EV),GG T s l=some es →
  ∃vs,(l.mapM (fun | .tmp t=>pure (a.tmps.getD t undef) | .cell x t=>do loadVar t (←asAddr (a.tmps.getD x undef)):ResultVar→Sem Value)).run P w = .ok vs w∧MH β (ee s.bp) I w es vs
 |[],es,h=>by injection h with h;subst h;exact⟨[],rfl,trivial⟩
 |.tmp t::r,es,h=>by
  simp only[GG] at h
  split at h
  ·rename_i e Wl he SK
   injection h with h;subst h
   obtain⟨vs,h1,h2⟩:=z6 hT hr r Wl SK
   refine⟨a.tmps.getD t undef::vs,?_,hr.env t e he,h2⟩
   rw[List.mapM_cons,Sem.run_bind,Sem.run_pure,Result.andThen_ok,Sem.run_bind,h1]
   rfl
  ·cases h
 |.cell x t::r,es,h=>by
  simp only[GG] at h
  split at h
  ·rename_i q off d Wl he hd SK
   split at h
   ·rename_i sc we
    split at h
    ·rename_i res u7
     split at h
     ·rename_i fK
      injection h with h;subst h
      obtain⟨vs,h1,h2⟩:=z6 hT hr r Wl SK
      obtain⟨DW,b,hb,hv⟩:=hr.env x _ he
      obtain⟨v,g1,g2,_⟩:=IM (hT t d hd) ((hr.bp.1 q sc we).1) hb u7 (by rw[fK];trivial)
      refine⟨v::vs,?_,g2,h2⟩
      have ha:(asAddr (a.tmps.getD x undef)).run P w = .ok ⟨b,off,none⟩ w:=by rw[hv];rfl
      rw[List.mapM_cons,Sem.run_bind,Sem.run_bind,ha,Result.andThen_ok,g1,Result.andThen_ok,Sem.run_bind,h1]
      rfl
     ·cases h
    ·cases h
   ·cases h
  ·cases h
def xG:List EV→Option (List PV)
 |[]=>some []
 |.pv p::r=>match xG r with
  |some ps=>some (p::ps)
  |none=>none
 |_=>none
def N2:List EV→Option EV
 |[e]=>some e
 |.row r off len sz::es=>match xG es with
  |some ps=>some (.wj r off len sz ps)
  |none=>none
 |es=>match xG es with
  |some ps=>some (.pv (.aB ps))
  |none=>none
theorem D9{β:Nat→Option Nat}{L I:Nat→Prop} : ∀(es:List EV) (ps:List PV) (vs:List Value),xG es=some ps→MH β L I w es vs→ps.length=vs.length∧∀(j:Nat) p v,ps[j]? = some p→vs[j]? = some v→Rd I w p v
 |[],ps,[],h,_=>by injection h with h;subst h;exact⟨rfl,fun j p v hp=>by simp at hp⟩
 |.pv p::r,ps,v::vs,h,hr=>by
  simp only[xG] at h
  split at h
  ·rename_i qs hq
   injection h with h;subst h
   obtain⟨h1,h2⟩:=D9 r qs vs hq hr.2
   refine⟨by simp[h1],fun j q u hj hu => ?_⟩
   cases j with
   |zero=>simp at hj hu;subst hj hu;exact hr.1
   |succ j=>exact h2 j q u (by simpa using hj) (by simpa using hu)
  ·cases h
 |.pv p::r,ps,[],h,hr=>hr.elim
 |[],ps,_::_,h,hr=>hr.elim
 |.ptr _ _::_,ps,_,h,_=>by simp[xG] at h
 |.row _ _ _ _::_,ps,_,h,_=>by simp[xG] at h
 |.wi _::_,ps,_,h,_=>by simp[xG] at h
 |.dead::_,ps,_,h,_=>by simp[xG] at h
 |.wj _ _ _ _ _::_,ps,_,h,_=>by simp[xG] at h
 |.H6 _ _::_,ps,_,h,_=>by simp[xG] at h
 |.xx _ _ _::_,ps,_,h,_=>by simp[xG] at h
 |.u0 _ _::_,ps,_,h,_=>by simp[xG] at h
theorem Io(hT:uj P T){β:Nat→Option Nat}{I:Nat→Prop}(hr:iA Γ s a w β I){es:List EV}{e:EV}(h1:GG T s fn.results.toList=some es)(h2:N2 es=some e) :
  ∃v,(results fn a.tmps).run P w = .ok v w∧RE β (ee s.bp) I w e v:=by
 obtain⟨vs,hm,qp⟩:=z6 hT hr _ es h1
 have YO:(fn.results.mapM (fun | .tmp t=>pure (a.tmps.getD t undef) | .cell x t=>do loadVar t (←asAddr (a.tmps.getD x undef)):ResultVar→Sem Value)).run P w = .ok vs.toArray w:=by
  rw[←Array.toList_mapM] at hm
  rw[Sem.run_map] at hm
  cases hx:(fn.results.mapM (fun | .tmp t=>pure (a.tmps.getD t undef) | .cell x t=>do loadVar t (←asAddr (a.tmps.getD x undef)):ResultVar→Sem Value)).run P w with
  |halt e' w'=>rw[hx] at hm;cases hm
  |ok x w' =>
   rw[hx] at hm
   simp only[Result.andThen_ok,Result.ok.injEq] at hm
   obtain⟨g1,rfl⟩:=hm
   congr 1
   apply Array.ext'
   simpa using g1
 have u7:(results fn a.tmps).run P w = .ok (if h:vs.toArray.size=1 then vs.toArray[0] else .tuple vs.toArray) w:=by
  unfold results
  rw[Sem.run_bind]
  exact congrArg (fun r=>Result.andThen r (fun vs w'=>(Pure.pure (if h:vs.size=1 then vs[0] else .tuple vs):Sem Value).run P w')) YO
 refine⟨_,u7,?_⟩
 match es,vs,qp,h2 with
 |[e'],[v],qp,h2 =>
  have h2:some e'=some e:=h2
  injection h2 with h2;subst h2
  simpa using qp.1
 |[],[],_,h2 =>
  have h2:some (EV.pv (PV.aB []))=some e:=h2
  injection h2 with h2;subst h2
  exact Rd.aB [] #[] rfl (fun j c u hc=>by simp at hc)
 |e1::e2::Wl,v1::v2::vs',qp,h2 =>
  have rD:¬((v1::v2::vs').toArray.size=1):=by simp
  rw[dif_neg rD]
  cases e1 with
  |row r off len sz =>
   simp only[N2] at h2
   split at h2
   ·rename_i ps uR
    injection h2 with h2;subst h2
    obtain⟨g1,g2⟩:=D9 _ _ _ uR qp.2
    refine⟨_,rfl,by simpa using g1.symm,⟨v1,by simp,qp.1⟩,fun j p u hp hu=>g2 j p u hp (by simpa using hu)⟩
   ·cases h2
  |_ =>
   simp only[N2] at h2
   split at h2
   ·rename_i ps uR
    injection h2 with h2;subst h2
    obtain⟨g1,g2⟩:=D9 _ _ _ uR qp
    exact Rd.aB ps _ (by simpa using g1) (fun j c u hc hu=>g2 j c u hc (by simpa using hu))
   ·cases h2
 |[_],[],qp,_=>exact qp.elim
 |[_],_::_::_,qp,_=>exact qp.2.elim
 |[],_::_,qp,_=>exact qp.elim
 |_::_::_,[],qp,_=>exact qp.elim
 |_::_::_,[_],qp,_=>exact qp.2.elim
end
end Go.Proofs.YtllmkadmohkbfaaGreatDoor.Sym
